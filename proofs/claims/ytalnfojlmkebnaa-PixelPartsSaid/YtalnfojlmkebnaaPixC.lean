/- Written for this claim -/
import Derived.Test.YtalnfojlmkebnaaPixB
namespace Go.Proofs.Ytalnfojlmkebnaa.AI
open Go Go.RowKit
set_option linter.all false
open Go.IntWalk
set_option maxRecDepth 100000
theorem t15 (r g b a : Int) : run S1 15 [int r, int g, int b, int a] = bif decide ((if a < if b < if g < r then g else r then b else if g < r then g else r then a else if b < if g < r then g else r then b else if g < r then g else r) < 0) == false then bif decide ((if b > if g > r then g else r then b else if g > r then g else r) > a) == false then bif decide (a > 255) then some (SV.tup [AV.c (AC.s (Value.int IntKind.u32 0)), AV.c (AC.s (Value.bool false))], []) else some (SV.tup [AV.c (AC.s (Value.int IntKind.u32 (IntKind.u32.wrap (IntKind.i64.wrap ↑(BitVec.ofInt 64 (IntKind.i64.wrap ↑(BitVec.ofInt 64 (IntKind.i64.wrap ↑(BitVec.ofInt 64 (IntKind.i64.wrap (r * 16777216)) ||| BitVec.ofInt 64 (IntKind.i64.wrap (g * 65536))).toNat) ||| BitVec.ofInt 64 (IntKind.i64.wrap (b * 256))).toNat) ||| BitVec.ofInt 64 a).toNat)))), AV.c (AC.s (Value.bool true))], []) else some (SV.tup [AV.c (AC.s (Value.int IntKind.u32 0)), AV.c (AC.s (Value.bool false))], []) else some (SV.tup [AV.c (AC.s (Value.int IntKind.u32 0)), AV.c (AC.s (Value.bool false))], []) := by kernel_rfl
theorem or64 (a y P : Int) (k : Nat) (hP : P = ((2 ^ k : Nat) : Int)) (ha : 0 ≤ a) (hy : 0 ≤ y) (hy2 : y < P) (hb : a * P + y < 9223372036854775808) :
    IntKind.i64.wrap ↑(BitVec.ofInt 64 (a * P) ||| BitVec.ofInt 64 y).toNat = a * P + y := by
  subst hP
  obtain ⟨a, rfl⟩ := Int.eq_ofNat_of_zero_le ha
  obtain ⟨y, rfl⟩ := Int.eq_ofNat_of_zero_le hy
  have hy2 : y < 2 ^ k := Int.ofNat_lt.1 hy2
  have e1 : ((a : Int) * ((2 ^ k : Nat) : Int)) = ((a * 2 ^ k : Nat) : Int) := (Int.natCast_mul _ _).symm
  rw [e1] at hb ⊢
  rw [BitVec.toNat_or, BitVec.toNat_ofInt, BitVec.toNat_ofInt]
  have e2 : (((a * 2 ^ k : Nat) : Int) % ((2 ^ 64 : Nat) : Int)).toNat = 2 ^ k * a := by
    rw [Int.emod_eq_of_lt (by omega) (by omega)]; rw [Int.toNat_natCast, Nat.mul_comm]
  have e3 : ((y : Int) % ((2 ^ 64 : Nat) : Int)).toNat = y := by
    rw [Int.emod_eq_of_lt (by omega) (by omega)]; rw [Int.toNat_natCast]
  rw [e2, e3, ← Nat.two_pow_add_eq_or_of_lt hy2 a, Nat.mul_comm, i64_in _ (by omega)]
  omega
theorem and64 (x : Int) (h0 : 0 ≤ x) (h1 : x < 9223372036854775808) : IntKind.i64.wrap ↑(BitVec.ofInt 64 x &&& BitVec.ofInt 64 255).toNat = x % 256 := by
  obtain ⟨x, rfl⟩ := Int.eq_ofNat_of_zero_le h0
  rw [BitVec.toNat_and, BitVec.toNat_ofInt, BitVec.toNat_ofInt]
  have e3 : ((x : Int) % ((2 ^ 64 : Nat) : Int)).toNat = x := by
    rw [Int.emod_eq_of_lt (by omega) (by omega)]; rw [Int.toNat_natCast]
  have e4 : ((255 : Int) % ((2 ^ 64 : Nat) : Int)).toNat = 2 ^ 8 - 1 := by rfl
  rw [e3, e4, Nat.and_two_pow_sub_one_eq_mod]
  rw [i64_in _ (by omega)]
  omega
def ofB (r g b a : Int) : Bool := decide (0 ≤ r ∧ 0 ≤ g ∧ 0 ≤ b ∧ r ≤ a ∧ g ≤ a ∧ b ≤ a ∧ a ≤ 255)
def num (r g b a : Int) : Int := r * 16777216 + g * 65536 + b * 256 + a
def ofV (r g b a : Int) : Int := if ofB r g b a = true then num r g b a else 0
def inB (n : Int) : Bool := decide (0 ≤ n ∧ n ≤ 255)
def inU (n : Int) : Bool := decide (0 ≤ n ∧ n < 4294967296)
theorem s15 (r g b a : Int) : run S1 15 [int r, int g, int b, int a] = some (.tup [u32 (ofV r g b a), bln (ofB r g b a)], []) := by
  rw [t15]
  by_cases h : ofB r g b a = true
  · have h' := h
    simp only [ofB, decide_eq_true_eq] at h'
    obtain ⟨h1, h2, h3, h4, h5, h6, h7⟩ := h'
    have c1 : decide ((if a < if b < if g < r then g else r then b else if g < r then g else r then a else if b < if g < r then g else r then b else if g < r then g else r) < 0) = false := by
      rw [decide_eq_false_iff_not]; repeat' split
      all_goals omega
    have c2 : decide ((if b > if g > r then g else r then b else if g > r then g else r) > a) = false := by
      rw [decide_eq_false_iff_not]; repeat' split
      all_goals omega
    have c3 : decide (a > 255) = false := by rw [decide_eq_false_iff_not]; omega
    rw [c1, c2, c3]
    have e1 : IntKind.i64.wrap (r * 16777216) = r * 16777216 := i64_in _ (by omega)
    have e2 : IntKind.i64.wrap (g * 65536) = g * 65536 := i64_in _ (by omega)
    have e3 : IntKind.i64.wrap (b * 256) = b * 256 := i64_in _ (by omega)
    have o1 := or64 r (g * 65536) 16777216 24 rfl (by omega) (by omega) (by omega) (by omega)
    have o2 := or64 (r * 256 + g) (b * 256) 65536 16 rfl (by omega) (by omega) (by omega) (by omega)
    have o3 := or64 (r * 65536 + g * 256 + b) a 256 8 rfl (by omega) (by omega) (by omega) (by omega)
    rw [e1, e2, e3, o1]
    rw [show r * 16777216 + g * 65536 = (r * 256 + g) * 65536 by omega, o2]
    rw [show (r * 256 + g) * 65536 + b * 256 = (r * 65536 + g * 256 + b) * 256 by omega, o3]
    rw [u32_in _ (by omega)]
    simp only [ofV, h, if_true, num, cond_false]
    simp
    omega
  · have h0 : ofB r g b a = false := by simpa using h
    simp only [ofV, h0, Bool.false_eq_true, if_false]
    have h' := h0
    simp only [ofB, decide_eq_false_iff_not] at h'
    by_cases c1 : (if a < if b < if g < r then g else r then b else if g < r then g else r then a else if b < if g < r then g else r then b else if g < r then g else r) < 0
    · simp [c1]
    by_cases c2 : (if b > if g > r then g else r then b else if g > r then g else r) > a
    · simp [c1, c2]
    by_cases c3 : a > 255
    · simp [c1, c2, c3]
    exfalso
    apply h'
    repeat' split at c1
    all_goals (repeat' split at c2)
    all_goals omega
theorem t16 (r g b a : Int) : run S1 16 [.agg [.s (.int .i64 r), .s (.int .i64 g), .s (.int .i64 b), .s (.int .i64 a)]] = bif decide (r < 0) == false then bif decide (r > 255) == false then bif decide (r > a) then some (SV.v (AV.c (AC.s (Value.bool false))), []) else bif decide (g < 0) == false then bif decide (g > 255) == false then bif decide (g > a) then some (SV.v (AV.c (AC.s (Value.bool false))), []) else bif decide (b < 0) == false then bif decide (b > 255) == false then bif decide (b > a) then some (SV.v (AV.c (AC.s (Value.bool false))), []) else bif decide (a < 0) == false then bif decide (a > 255) == false then bif decide (a > a) then some (SV.v (AV.c (AC.s (Value.bool false))), []) else some (SV.v (AV.c (AC.s (Value.bool true))), []) else some (SV.v (AV.c (AC.s (Value.bool false))), []) else some (SV.v (AV.c (AC.s (Value.bool false))), []) else some (SV.v (AV.c (AC.s (Value.bool false))), []) else some (SV.v (AV.c (AC.s (Value.bool false))), []) else some (SV.v (AV.c (AC.s (Value.bool false))), []) else some (SV.v (AV.c (AC.s (Value.bool false))), []) else some (SV.v (AV.c (AC.s (Value.bool false))), []) else some (SV.v (AV.c (AC.s (Value.bool false))), []) := by kernel_rfl
theorem t17 (r g b a : Int) : run S1 17 [.agg [.s (.int .i64 r), .s (.int .i64 g), .s (.int .i64 b), .s (.int .i64 a)]] = some (SV.v (AV.c (AC.s (Value.int IntKind.u32 (IntKind.u32.wrap (IntKind.u32.wrap (IntKind.u32.wrap (IntKind.u32.wrap (IntKind.u32.wrap r * 16777216) + IntKind.u32.wrap (IntKind.u32.wrap g * 65536)) + IntKind.u32.wrap (IntKind.u32.wrap b * 256)) + IntKind.u32.wrap a))))), []) := by kernel_rfl
theorem t18 (n : Int) : run S1 18 [u32 n] = some (SV.v (AV.agg [AC.s (Value.int IntKind.i64 (IntKind.i64.wrap (IntKind.u32.wrap (n.tdiv 16777216)))), AC.s (Value.int IntKind.i64 (IntKind.i64.wrap ((IntKind.u32.wrap (n.tdiv 65536)).tmod 256))), AC.s (Value.int IntKind.i64 (IntKind.i64.wrap ((IntKind.u32.wrap (n.tdiv 256)).tmod 256))), AC.s (Value.int IntKind.i64 (IntKind.i64.wrap (n.tmod 256)))]), []) := by kernel_rfl
theorem t19 (n : Int) : run S1 19 [u32 n] = some (SV.tup [AV.c (AC.s (Value.int IntKind.i64 (IntKind.i64.wrap ↑(BitVec.ofInt 64 (IntKind.i64.wrap (n.fdiv 16777216)) &&& BitVec.ofInt 64 255).toNat))), AV.c (AC.s (Value.int IntKind.i64 (IntKind.i64.wrap ↑(BitVec.ofInt 64 (IntKind.i64.wrap (n.fdiv 65536)) &&& BitVec.ofInt 64 255).toNat))), AV.c (AC.s (Value.int IntKind.i64 (IntKind.i64.wrap ↑(BitVec.ofInt 64 (IntKind.i64.wrap (n.fdiv 256)) &&& BitVec.ofInt 64 255).toNat))), AV.c (AC.s (Value.int IntKind.i64 (IntKind.i64.wrap ↑(BitVec.ofInt 64 (IntKind.i64.wrap (n.fdiv 1)) &&& BitVec.ofInt 64 255).toNat)))], []) := by kernel_rfl
theorem t20 (n : Int) : run S1 20 [u32 n] = some (SV.v (AV.c (AC.s (Value.bool (decide ((if IntKind.i64.wrap ↑(BitVec.ofInt IntKind.i64.bits (IntKind.i64.wrap (n.fdiv (2 ^ min (IntKind.i64.wrap (8 * 1)).toNat IntKind.u32.bits))) &&& BitVec.ofInt IntKind.i64.bits 255).toNat > if IntKind.i64.wrap ↑(BitVec.ofInt IntKind.i64.bits (IntKind.i64.wrap (n.fdiv (2 ^ min (IntKind.i64.wrap (8 * 2)).toNat IntKind.u32.bits))) &&& BitVec.ofInt IntKind.i64.bits 255).toNat > IntKind.i64.wrap ↑(BitVec.ofInt IntKind.i64.bits (IntKind.i64.wrap (n.fdiv (2 ^ min (IntKind.i64.wrap (8 * 3)).toNat IntKind.u32.bits))) &&& BitVec.ofInt IntKind.i64.bits 255).toNat then IntKind.i64.wrap ↑(BitVec.ofInt IntKind.i64.bits (IntKind.i64.wrap (n.fdiv (2 ^ min (IntKind.i64.wrap (8 * 2)).toNat IntKind.u32.bits))) &&& BitVec.ofInt IntKind.i64.bits 255).toNat else IntKind.i64.wrap ↑(BitVec.ofInt IntKind.i64.bits (IntKind.i64.wrap (n.fdiv (2 ^ min (IntKind.i64.wrap (8 * 3)).toNat IntKind.u32.bits))) &&& BitVec.ofInt IntKind.i64.bits 255).toNat then IntKind.i64.wrap ↑(BitVec.ofInt IntKind.i64.bits (IntKind.i64.wrap (n.fdiv (2 ^ min (IntKind.i64.wrap (8 * 1)).toNat IntKind.u32.bits))) &&& BitVec.ofInt IntKind.i64.bits 255).toNat else if IntKind.i64.wrap ↑(BitVec.ofInt IntKind.i64.bits (IntKind.i64.wrap (n.fdiv (2 ^ min (IntKind.i64.wrap (8 * 2)).toNat IntKind.u32.bits))) &&& BitVec.ofInt IntKind.i64.bits 255).toNat > IntKind.i64.wrap ↑(BitVec.ofInt IntKind.i64.bits (IntKind.i64.wrap (n.fdiv (2 ^ min (IntKind.i64.wrap (8 * 3)).toNat IntKind.u32.bits))) &&& BitVec.ofInt IntKind.i64.bits 255).toNat then IntKind.i64.wrap ↑(BitVec.ofInt IntKind.i64.bits (IntKind.i64.wrap (n.fdiv (2 ^ min (IntKind.i64.wrap (8 * 2)).toNat IntKind.u32.bits))) &&& BitVec.ofInt IntKind.i64.bits 255).toNat else IntKind.i64.wrap ↑(BitVec.ofInt IntKind.i64.bits (IntKind.i64.wrap (n.fdiv (2 ^ min (IntKind.i64.wrap (8 * 3)).toNat IntKind.u32.bits))) &&& BitVec.ofInt IntKind.i64.bits 255).toNat) ≤ IntKind.i64.wrap ↑(BitVec.ofInt IntKind.i64.bits (IntKind.i64.wrap (n.fdiv (2 ^ min (IntKind.i64.wrap (8 * 0)).toNat IntKind.u32.bits))) &&& BitVec.ofInt IntKind.i64.bits 255).toNat))))), []) := by kernel_rfl
def rtB (r g b a : Int) : Bool := decide (0 ≤ r ∧ r ≤ a ∧ 0 ≤ g ∧ g ≤ a ∧ 0 ≤ b ∧ b ≤ a ∧ 0 ≤ a ∧ a ≤ 255)
theorem s16 (r g b a : Int) : run S1 16 [.agg [.s (.int .i64 r), .s (.int .i64 g), .s (.int .i64 b), .s (.int .i64 a)]] = some (.v (bln (rtB r g b a)), []) := by
  rw [t16]
  by_cases h1 : r < 0
  · have e : rtB r g b a = false := by simp only [rtB, decide_eq_false_iff_not]; omega
    simp [h1, e]
  by_cases h2 : r > 255
  · have e : rtB r g b a = false := by simp only [rtB, decide_eq_false_iff_not]; omega
    simp [h1, h2, e]
  by_cases h3 : r > a
  · have e : rtB r g b a = false := by simp only [rtB, decide_eq_false_iff_not]; omega
    simp [h1, h2, h3, e]
  by_cases h4 : g < 0
  · have e : rtB r g b a = false := by simp only [rtB, decide_eq_false_iff_not]; omega
    simp [h1, h2, h3, h4, e]
  by_cases h5 : g > 255
  · have e : rtB r g b a = false := by simp only [rtB, decide_eq_false_iff_not]; omega
    simp [h1, h2, h3, h4, h5, e]
  by_cases h6 : g > a
  · have e : rtB r g b a = false := by simp only [rtB, decide_eq_false_iff_not]; omega
    simp [h1, h2, h3, h4, h5, h6, e]
  by_cases h7 : b < 0
  · have e : rtB r g b a = false := by simp only [rtB, decide_eq_false_iff_not]; omega
    simp [h1, h2, h3, h4, h5, h6, h7, e]
  by_cases h8 : b > 255
  · have e : rtB r g b a = false := by simp only [rtB, decide_eq_false_iff_not]; omega
    simp [h1, h2, h3, h4, h5, h6, h7, h8, e]
  by_cases h9 : b > a
  · have e : rtB r g b a = false := by simp only [rtB, decide_eq_false_iff_not]; omega
    simp [h1, h2, h3, h4, h5, h6, h7, h8, h9, e]
  by_cases h10 : a < 0
  · have e : rtB r g b a = false := by simp only [rtB, decide_eq_false_iff_not]; omega
    simp [h1, h2, h3, h4, h5, h6, h7, h8, h9, h10, e]
  by_cases h11 : a > 255
  · have e : rtB r g b a = false := by simp only [rtB, decide_eq_false_iff_not]; omega
    simp [h1, h2, h3, h4, h5, h6, h7, h8, h9, h10, h11, e]
  have e : rtB r g b a = true := by simp only [rtB, decide_eq_true_eq]; omega
  simp [h1, h2, h3, h4, h5, h6, h7, h8, h9, h10, h11, e]
theorem s17 (r g b a : Int) (hr : 0 ≤ r ∧ r ≤ 255) (hg : 0 ≤ g ∧ g ≤ 255) (hb : 0 ≤ b ∧ b ≤ 255) (ha : 0 ≤ a ∧ a ≤ 255) : run S1 17 [.agg [.s (.int .i64 r), .s (.int .i64 g), .s (.int .i64 b), .s (.int .i64 a)]] = some (.v (u32 (num r g b a)), []) := by
  rw [t17]
  have e1 : IntKind.u32.wrap r = r := u32_in _ (by omega)
  have e2 : IntKind.u32.wrap g = g := u32_in _ (by omega)
  have e3 : IntKind.u32.wrap b = b := u32_in _ (by omega)
  have e4 : IntKind.u32.wrap a = a := u32_in _ (by omega)
  have e5 : IntKind.u32.wrap (r * 16777216) = r * 16777216 := u32_in _ (by omega)
  have e6 : IntKind.u32.wrap (g * 65536) = g * 65536 := u32_in _ (by omega)
  have e7 : IntKind.u32.wrap (b * 256) = b * 256 := u32_in _ (by omega)
  have e8 : IntKind.u32.wrap (r * 16777216 + g * 65536) = r * 16777216 + g * 65536 := u32_in _ (by omega)
  have e9 : IntKind.u32.wrap (r * 16777216 + g * 65536 + b * 256) = r * 16777216 + g * 65536 + b * 256 := u32_in _ (by omega)
  have e10 : IntKind.u32.wrap (r * 16777216 + g * 65536 + b * 256 + a) = r * 16777216 + g * 65536 + b * 256 + a := u32_in _ (by omega)
  rw [e1, e2, e3, e4, e5, e6, e7, e8, e9, e10]
  rfl
theorem s18 (n : Int) (h : 0 ≤ n ∧ n < 4294967296) : run S1 18 [u32 n] = some (.v (.agg [.s (.int .i64 (n / 16777216)), .s (.int .i64 (n / 65536 % 256)), .s (.int .i64 (n / 256 % 256)), .s (.int .i64 (n % 256))]), []) := by
  rw [t18]
  have e1 : n.tdiv 16777216 = n / 16777216 := Int.tdiv_eq_ediv_of_nonneg h.1
  have e2 : n.tdiv 65536 = n / 65536 := Int.tdiv_eq_ediv_of_nonneg h.1
  have e3 : n.tdiv 256 = n / 256 := Int.tdiv_eq_ediv_of_nonneg h.1
  have e4 : n.tmod 256 = n % 256 := Int.tmod_eq_emod_of_nonneg h.1
  rw [e1, e2, e3, e4, u32_in (n / 16777216) (by omega), u32_in (n / 65536) (by omega), u32_in (n / 256) (by omega)]
  have e5 : (n / 65536).tmod 256 = n / 65536 % 256 := Int.tmod_eq_emod_of_nonneg (by omega)
  have e6 : (n / 256).tmod 256 = n / 256 % 256 := Int.tmod_eq_emod_of_nonneg (by omega)
  rw [e5, e6, i64_in _ (by omega), i64_in _ (by omega), i64_in _ (by omega), i64_in _ (by omega)]
theorem pt_eq (n d : Int) (h : 0 ≤ n ∧ n < 4294967296) (hd : 0 < d) : IntKind.i64.wrap ↑(BitVec.ofInt 64 (IntKind.i64.wrap (n.fdiv d)) &&& BitVec.ofInt 64 255).toNat = n / d % 256 := by
  rw [Int.fdiv_eq_ediv_of_nonneg n (by omega)]
  have h1 : 0 ≤ n / d := Int.ediv_nonneg h.1 (by omega)
  have h2 : n / d ≤ n := Int.ediv_le_self d h.1
  rw [i64_in (n / d) (by omega), and64 _ h1 (by omega)]
theorem s19 (n : Int) (h : 0 ≤ n ∧ n < 4294967296) : run S1 19 [u32 n] = some (.tup [int (n / 16777216), int (n / 65536 % 256), int (n / 256 % 256), int (n % 256)], []) := by
  rw [t19, pt_eq n _ h (by omega), pt_eq n _ h (by omega), pt_eq n _ h (by omega), pt_eq n _ h (by omega)]
  have e1 : n / 16777216 % 256 = n / 16777216 := by omega
  rw [e1, Int.ediv_one]
theorem s20 (n : Int) (h : 0 ≤ n ∧ n < 4294967296) : run S1 20 [u32 n] = some (.v (bln (rtB (n / 16777216) (n / 65536 % 256) (n / 256 % 256) (n % 256))), []) := by
  have e0 : ∀ m : Int, IntKind.i64.wrap ↑(BitVec.ofInt IntKind.i64.bits (IntKind.i64.wrap (n.fdiv m)) &&& BitVec.ofInt IntKind.i64.bits 255).toNat = IntKind.i64.wrap ↑(BitVec.ofInt 64 (IntKind.i64.wrap (n.fdiv m)) &&& BitVec.ofInt 64 255).toNat := fun _ => rfl
  rw [t20]
  simp only [e0]
  have d3 : (2 : Int) ^ min (IntKind.i64.wrap (8 * 3)).toNat IntKind.u32.bits = 16777216 := by decide +kernel
  have d2 : (2 : Int) ^ min (IntKind.i64.wrap (8 * 2)).toNat IntKind.u32.bits = 65536 := by decide +kernel
  have d1 : (2 : Int) ^ min (IntKind.i64.wrap (8 * 1)).toNat IntKind.u32.bits = 256 := by decide +kernel
  have d0 : (2 : Int) ^ min (IntKind.i64.wrap (8 * 0)).toNat IntKind.u32.bits = 1 := by decide +kernel
  simp only [d3, d2, d1, d0, pt_eq n _ h (by omega : (0 : Int) < 16777216), pt_eq n _ h (by omega : (0 : Int) < 65536), pt_eq n _ h (by omega : (0 : Int) < 256), pt_eq n _ h (by omega : (0 : Int) < 1), Int.ediv_one, show n / 16777216 % 256 = n / 16777216 by omega]
  congr 7
  apply propext
  constructor
  · intro hh
    repeat' split at hh
    all_goals omega
  · intro hh
    repeat' split
    all_goals omega
def F15 : List AV → List (Bool × Out) := fun args => match args with
  | [.c (.s (.int .i64 r)), .c (.s (.int .i64 g)), .c (.s (.int .i64 b)), .c (.s (.int .i64 a))] => [(true, (.tup [u32 (ofV r g b a), bln (ofB r g b a)], []))]
  | _ => []
def F16 : List AV → List (Bool × Out) := fun args => match args with
  | [.agg [.s (.int .i64 r), .s (.int .i64 g), .s (.int .i64 b), .s (.int .i64 a)]] => [(true, (.v (bln (rtB r g b a)), []))]
  | _ => []
def F17 : List AV → List (Bool × Out) := fun args => match args with
  | [.agg [.s (.int .i64 r), .s (.int .i64 g), .s (.int .i64 b), .s (.int .i64 a)]] => [(inB r && inB g && inB b && inB a, (.v (u32 (num r g b a)), []))]
  | _ => []
def F18 : List AV → List (Bool × Out) := fun args => match args with
  | [.c (.s (.int .u32 n))] => [(inU n, (.v (.agg [.s (.int .i64 (n / 16777216)), .s (.int .i64 (n / 65536 % 256)), .s (.int .i64 (n / 256 % 256)), .s (.int .i64 (n % 256))]), []))]
  | _ => []
def F19 : List AV → List (Bool × Out) := fun args => match args with
  | [.c (.s (.int .u32 n))] => [(inU n, (.tup [int (n / 16777216), int (n / 65536 % 256), int (n / 256 % 256), int (n % 256)], []))]
  | _ => []
def F20 : List AV → List (Bool × Out) := fun args => match args with
  | [.c (.s (.int .u32 n))] => [(inU n, (.v (bln (rtB (n / 16777216) (n / 65536 % 256) (n / 256 % 256) (n % 256))), []))]
  | _ => []
theorem inB_iff {n : Int} : inB n = true ↔ 0 ≤ n ∧ n ≤ 255 := by simp [inB]
theorem inU_iff {n : Int} : inU n = true ↔ 0 ≤ n ∧ n < 4294967296 := by simp [inU]
theorem f15 (args : List AV) (o : Out) (h : alts (F15 args) some = some o) : Snd Try.prog 15 args o := by
  unfold F15 at h
  split at h
  · obtain ⟨_, rfl⟩ := alts_one h; exact run_ok S1_ok (s15 _ _ _ _)
  · cases h
theorem f16 (args : List AV) (o : Out) (h : alts (F16 args) some = some o) : Snd Try.prog 16 args o := by
  unfold F16 at h
  split at h
  · obtain ⟨_, rfl⟩ := alts_one h; exact run_ok S1_ok (s16 _ _ _ _)
  · cases h
theorem f17 (args : List AV) (o : Out) (h : alts (F17 args) some = some o) : Snd Try.prog 17 args o := by
  unfold F17 at h
  split at h
  · obtain ⟨hc, rfl⟩ := alts_one h
    simp only [Bool.and_eq_true, inB_iff] at hc
    exact run_ok S1_ok (s17 _ _ _ _ hc.1.1.1 hc.1.1.2 hc.1.2 hc.2)
  · cases h
theorem f18 (args : List AV) (o : Out) (h : alts (F18 args) some = some o) : Snd Try.prog 18 args o := by
  unfold F18 at h
  split at h
  · obtain ⟨hc, rfl⟩ := alts_one h; exact run_ok S1_ok (s18 _ (inU_iff.1 hc))
  · cases h
theorem f19 (args : List AV) (o : Out) (h : alts (F19 args) some = some o) : Snd Try.prog 19 args o := by
  unfold F19 at h
  split at h
  · obtain ⟨hc, rfl⟩ := alts_one h; exact run_ok S1_ok (s19 _ (inU_iff.1 hc))
  · cases h
theorem f20 (args : List AV) (o : Out) (h : alts (F20 args) some = some o) : Snd Try.prog 20 args o := by
  unfold F20 at h
  split at h
  · obtain ⟨hc, rfl⟩ := alts_one h; exact run_ok S1_ok (s20 _ (inU_iff.1 hc))
  · cases h
def S2 : Spec := look [(21, F21), (15, F15), (16, F16), (17, F17), (18, F18), (19, F19), (20, F20)]
theorem S2_ok : SpecOk Try.prog S2 := look_cons f21 (look_cons f15 (look_cons f16 (look_cons f17 (look_cons f18 (look_cons f19 (look_cons f20 look_nil))))))
end Go.Proofs.Ytalnfojlmkebnaa.AI
