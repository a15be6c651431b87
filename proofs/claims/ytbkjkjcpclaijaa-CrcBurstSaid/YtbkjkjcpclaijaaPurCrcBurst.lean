/- The plain law of CrcBurst: bytes that differ only within 32 bits in a row have another sum. -/
import Derived.Test.YtbkjkjcpclaijaaQLCrcBurst
import Derived.Laws.BitsLemmas
namespace Go.Proofs.Ytbkjkjcpclaijaa.PureCrcBurst
open Go Go.RowKit Go.Proofs.Ytbkjkjcpclaijaa.QCrc Go.Proofs.YtbkjkjcpclaijaaW.PrintWords Go.Proofs.YtbkjkjcpclaijaaW.PrintLast Go.Proofs.YtbkjkjcpclaijaaW.PrintMore
/-- One step of the sum, on a number: the message's later bits come down. -/
def U (x : Nat) : Nat := if x % 2 = 1 then (x / 2) ^^^ 3988292384 else x / 2
def Un : Nat → Nat → Nat
  | 0, x => x
  | n + 1, x => Un n (U x)
theorem xor_cancel (a b p : Nat) : (a ^^^ p) ^^^ (b ^^^ p) = a ^^^ b := by
  apply Nat.eq_of_testBit_eq; intro i; simp only [Nat.testBit_xor]; cases a.testBit i <;> cases b.testBit i <;> cases p.testBit i <;> rfl
theorem xor_left (a b p : Nat) : (a ^^^ p) ^^^ b = (a ^^^ b) ^^^ p := by
  apply Nat.eq_of_testBit_eq; intro i; simp only [Nat.testBit_xor]; cases a.testBit i <;> cases b.testBit i <;> cases p.testBit i <;> rfl
theorem xor_right (a b p : Nat) : a ^^^ (b ^^^ p) = (a ^^^ b) ^^^ p := by
  apply Nat.eq_of_testBit_eq; intro i; simp only [Nat.testBit_xor]; cases a.testBit i <;> cases b.testBit i <;> cases p.testBit i <;> rfl
theorem xor_half (a b : Nat) : (a ^^^ b) / 2 = a / 2 ^^^ b / 2 := by
  apply Nat.eq_of_testBit_eq; intro i; simp only [Nat.testBit_div_two, Nat.testBit_xor]
theorem odd_bit (a : Nat) : a % 2 = 1 ↔ a.testBit 0 = true := by simp [Nat.testBit_zero]
theorem U_xor (a b : Nat) : U (a ^^^ b) = U a ^^^ U b := by
  unfold U
  have h : ((a ^^^ b) % 2 = 1) ↔ ¬ ((a % 2 = 1) ↔ (b % 2 = 1)) := by
    simp only [odd_bit, Nat.testBit_xor]; cases a.testBit 0 <;> cases b.testBit 0 <;> simp
  rw [xor_half]
  by_cases ha : a % 2 = 1 <;> by_cases hb : b % 2 = 1
  · rw [if_neg (by rw [h]; simp [ha, hb]), if_pos ha, if_pos hb, xor_cancel]
  · rw [if_pos (by rw [h]; simp [ha, hb]), if_pos ha, if_neg hb, xor_left]
  · rw [if_pos (by rw [h]; simp [ha, hb]), if_neg ha, if_pos hb, xor_right]
  · rw [if_neg (by rw [h]; simp [ha, hb]), if_neg ha, if_neg hb]
theorem Un_xor : ∀ (n a b : Nat), Un n (a ^^^ b) = Un n a ^^^ Un n b
  | 0, _, _ => rfl
  | n + 1, a, b => by rw [Un, Un, Un, U_xor, Un_xor n]
theorem Un_add : ∀ (m n x : Nat), Un (m + n) x = Un n (Un m x)
  | 0, n, x => by rw [Nat.zero_add]; rfl
  | m + 1, n, x => by rw [Nat.add_right_comm, Un, Un, Un_add m]
theorem U_even (x : Nat) : U (2 * x) = x := by unfold U; rw [if_neg (by omega)]; omega
theorem Un_shift : ∀ (n x : Nat), Un n (2 ^ n * x) = x
  | 0, x => by simp [Un]
  | n + 1, x => by rw [Un, Nat.pow_succ, Nat.mul_comm (2 ^ n) 2, Nat.mul_assoc, U_even, Un_shift n]
theorem U_zero : U 0 = 0 := by unfold U; simp
theorem Un_zero : ∀ n, Un n 0 = 0
  | 0 => rfl
  | n + 1 => by rw [Un, U_zero, Un_zero n]
theorem U_lt {x : Nat} (h : x < 4294967296) : U x < 4294967296 := by
  unfold U
  split
  · exact Nat.xor_lt_two_pow (n := 32) (by omega) (by omega)
  · omega
theorem U_ne {x : Nat} (h : x < 4294967296) (h0 : x ≠ 0) : U x ≠ 0 := by
  unfold U
  split
  · intro e
    have : x / 2 = 3988292384 := by
      have e2 := congrArg (fun y => y ^^^ 3988292384) e
      simp only [Nat.xor_assoc, Nat.xor_self, Nat.xor_zero, Nat.zero_xor] at e2
      exact e2
    omega
  · omega
theorem Un_lt : ∀ (n : Nat) {x : Nat}, x < 4294967296 → Un n x < 4294967296
  | 0, _, h => h
  | n + 1, _, h => Un_lt n (U_lt h)
theorem Un_ne : ∀ (n : Nat) {x : Nat}, x < 4294967296 → x ≠ 0 → Un n x ≠ 0
  | 0, _, _, h => h
  | n + 1, _, h, h0 => Un_ne n (U_lt h) (U_ne h h0)
/-- A part below a power of two, and a part above: added, or exclusively ored. -/
theorem add_xor (i a b : Nat) (h : b < 2 ^ i) : 2 ^ i * a + b = b ^^^ (2 ^ i * a) := by
  apply Nat.eq_of_testBit_eq; intro j
  rw [Nat.testBit_two_pow_mul_add a h, Nat.testBit_xor]
  have h2 : (2 ^ i * a).testBit j = if j < i then false else a.testBit (j - i) := by
    have := Nat.testBit_two_pow_mul_add a (Nat.two_pow_pos i) j
    rw [Nat.add_zero] at this
    rw [this]; simp
  rw [h2]
  by_cases hj : j < i
  · rw [if_pos hj, if_pos hj]; simp
  · rw [if_neg hj, if_neg hj, Nat.testBit_lt_two_pow (Nat.lt_of_lt_of_le h (Nat.pow_le_pow_right (by decide) (by omega)))]; simp
theorem Un_split (n x : Nat) : Un n x = Un n (x % 2 ^ n) ^^^ x / 2 ^ n := by
  have h := Nat.div_add_mod x (2 ^ n)
  have h2 : Un n x = Un n (2 ^ n * (x / 2 ^ n) + x % 2 ^ n) := by rw [h]
  rw [h2, add_xor n _ _ (Nat.mod_lt _ (Nat.two_pow_pos n)), Un_xor, Un_shift]
/-- The state behind bytes. -/
def run (r : Nat) (l : List Nat) : Nat := l.foldl (fun r b => Un 8 (r ^^^ b)) r
/-- Bytes as one number, the first the lowest. -/
def num : List Nat → Nat
  | [] => 0
  | b :: l => b + 256 * num l
theorem run_num : ∀ (l : List Nat) (r : Nat), (∀ b ∈ l, b < 256) → run r l = Un (8 * l.length) (r ^^^ num l)
  | [], r, _ => by simp [run, Un, num]
  | b :: l, r, h => by
    have hb : b < 2 ^ 8 := h b (List.mem_cons_self ..)
    show run (Un 8 (r ^^^ b)) l = _
    rw [run_num l _ (fun x hx => h x (List.mem_cons_of_mem _ hx)), List.length_cons, Nat.mul_add, Nat.mul_one, Nat.add_comm (8 * l.length) 8, Un_add, num]
    congr 1
    have : b + 256 * num l = 2 ^ 8 * num l + b := by omega
    rw [this, add_xor 8 _ _ hb, ← Nat.xor_assoc, Un_xor 8 (r ^^^ b), Un_shift]
theorem run_append (r : Nat) (l m : List Nat) : run r (l ++ m) = run (run r l) m := by unfold run; rw [List.foldl_append]
theorem run_lt : ∀ (l : List Nat) (r : Nat), r < 4294967296 → (∀ b ∈ l, b < 256) → run r l < 4294967296
  | [], _, h, _ => h
  | b :: l, r, h, hb => run_lt l _ (Un_lt 8 (Nat.xor_lt_two_pow (n := 32) (by omega) (by have := hb b (List.mem_cons_self ..); omega))) (fun x hx => hb x (List.mem_cons_of_mem _ hx))
theorem wrap_in {n : Int} (h : -9223372036854775808 ≤ n) (h' : n ≤ 9223372036854775807) : wrap64 n = n := by unfold wrap64; omega
theorem wraps_u32 (n : Int) (h₀ : 0 ≤ n) (h₁ : n < 2 ^ 32) : IntKind.u32.wrap n = n := by rw [IntKind.wrap_u32]; omega
theorem xor32 (a b : Nat) (ha : a < 4294967296) (hb : b < 4294967296) : Go.bits .xor .u32 (a : Int) (b : Int) = ((a ^^^ b : Nat) : Int) := by
  have hx : a ^^^ b < 2 ^ 32 := Nat.xor_lt_two_pow (n := 32) (by omega) (by omega)
  have ha' : a % 2 ^ 32 = a := Nat.mod_eq_of_lt (by omega)
  have hb' : b % 2 ^ 32 = b := Nat.mod_eq_of_lt (by omega)
  have hT : (BitVec.ofNat 32 a ^^^ BitVec.ofNat 32 b).toNat = a ^^^ b := by rw [BitVec.toNat_xor, BitVec.toNat_ofNat, BitVec.toNat_ofNat, ha', hb']
  show IntKind.u32.wrap (((BitVec.ofInt 32 (a : Int) ^^^ BitVec.ofInt 32 (b : Int)).toNat : Nat) : Int) = _
  rw [BitVec.ofInt_natCast, BitVec.ofInt_natCast, hT]
  exact wraps_u32 _ (Int.natCast_nonneg _) (by exact_mod_cast hx)
theorem xor8 (a b : Nat) (ha : a < 256) (hb : b < 256) : Go.bits .xor .u8 (a : Int) (b : Int) = ((a ^^^ b : Nat) : Int) := by
  have hx : a ^^^ b < 2 ^ 8 := Nat.xor_lt_two_pow (n := 8) (by omega) (by omega)
  have ha' : a % 2 ^ 8 = a := Nat.mod_eq_of_lt (by omega)
  have hb' : b % 2 ^ 8 = b := Nat.mod_eq_of_lt (by omega)
  have hT : (BitVec.ofNat 8 a ^^^ BitVec.ofNat 8 b).toNat = a ^^^ b := by rw [BitVec.toNat_xor, BitVec.toNat_ofNat, BitVec.toNat_ofNat, ha', hb']
  show IntKind.u8.wrap (((BitVec.ofInt 8 (a : Int) ^^^ BitVec.ofInt 8 (b : Int)).toNat : Nat) : Int) = _
  rw [BitVec.ofInt_natCast, BitVec.ofInt_natCast, hT]
  exact Go.wraps_u8 _ (Int.natCast_nonneg _) (by exact_mod_cast hx)
theorem and1 (a : Nat) (ha : a < 4294967296) : Go.bits .and .u32 (a : Int) 1 = ((a % 2 : Nat) : Int) := by
  have h := (Go.bits_nat .u32 32 (by decide) wraps_u32 a 1 ha (by decide)).1
  rw [Nat.and_one_is_mod] at h
  exact h
theorem and15 (a : Nat) (ha : a < 4294967296) : Go.bits .and .u32 (a : Int) 15 = ((a % 16 : Nat) : Int) := by
  have h := (Go.bits_nat .u32 32 (by decide) wraps_u32 a 15 ha (by decide)).1
  rw [show (15 : Nat) = 2 ^ 4 - 1 by decide, Nat.and_two_pow_sub_one_eq_mod] at h
  exact h
theorem table_l : ∀ (j k x : Nat) (i : Int), i = 4 - (j : Int) → j ≤ 4 → x < 4294967296 → j < k → crc_table.l0 k (x : Int) i = some ((Un j x : Nat) : Int) := by
  intro j
  induction j with
  | zero =>
    intro k x i hi _ _ hk
    obtain ⟨k, rfl⟩ : ∃ m, k = m + 1 := ⟨k - 1, by omega⟩
    simp only [crc_table.l0]; rw [if_neg (by omega)]; rfl
  | succ j ih =>
    intro k x i hi hj hx hk
    obtain ⟨k, rfl⟩ : ∃ m, k = m + 1 := ⟨k - 1, by omega⟩
    simp only [crc_table.l0]
    rw [if_pos (by omega), wrap_in (n := i + 1) (by omega) (by omega), and1 x hx, show ((x : Int) / 2) = ((x / 2 : Nat) : Int) by omega]
    have hU : Un (j + 1) x = Un j (U x) := rfl
    rw [hU]
    by_cases h : x % 2 = 1
    · rw [if_pos (by omega)]
      have e : Go.bits .xor .u32 ((x / 2 : Nat) : Int) 3988292384 = ((U x : Nat) : Int) := by
        unfold U; rw [if_pos h]; exact xor32 _ 3988292384 (by omega) (by omega)
      rw [e]
      exact ih k _ _ (by omega) (by omega) (U_lt hx) (by omega)
    · rw [if_neg (by omega)]
      have e : ((x / 2 : Nat) : Int) = ((U x : Nat) : Int) := by unfold U; rw [if_neg h]
      rw [e]
      exact ih k _ _ (by omega) (by omega) (U_lt hx) (by omega)
theorem table_eq (k x : Nat) (hx : x < 4294967296) (hk : 5 ≤ k) : crc_table.f k (x : Int) = some ((Un 4 x : Nat) : Int) := table_l 4 k x 0 (by omega) (by omega) hx (by omega)
theorem step_eq (k r b : Nat) (hr : r < 4294967296) (hb : b < 256) (hk : 5 ≤ k) : crc_step.f k (r : Int) (b : Int) = some ((Un 8 (r ^^^ b) : Nat) : Int) := by
  have hx : r ^^^ b < 4294967296 := Nat.xor_lt_two_pow (n := 32) (by omega) (by omega)
  have h4 : ∀ y : Nat, Un 4 y = Un 4 (y % 16) ^^^ y / 16 := fun y => Un_split 4 y
  have ht : ∀ y : Nat, Un 4 (y % 16) < 4294967296 := fun y => Un_lt 4 (by omega)
  have hs : ∀ y : Nat, y < 4294967296 → y / 16 ^^^ Un 4 (y % 16) = Un 4 y := fun y _ => by rw [h4 y, Nat.xor_comm]
  unfold crc_step.f
  rw [show ((b : Int) % 4294967296) = (b : Int) by omega, xor32 r b hr (by omega), and15 _ hx, table_eq k _ (by omega) hk, Option.bind_some,
    show (((r ^^^ b : Nat) : Int) / 16) = (((r ^^^ b) / 16 : Nat) : Int) by omega, xor32 _ _ (by omega) (ht _), hs _ hx]
  have hy : Un 4 (r ^^^ b) < 4294967296 := Un_lt 4 hx
  rw [and15 _ hy, table_eq k _ (by omega) hk, Option.bind_some, show (((Un 4 (r ^^^ b) : Nat) : Int) / 16) = ((Un 4 (r ^^^ b) / 16 : Nat) : Int) by omega, xor32 _ _ (by omega) (ht _), hs _ hy, ← Un_add 4 4]
/-- Numbers, as the printed functions hold them. -/
def ints (l : List Nat) : List Int := l.map (fun n : Nat => (n : Int))
theorem ints_len (l : List Nat) : (ints l).length = l.length := by simp [ints]
theorem ints_of (l : List Int) (h : ∀ n ∈ l, 0 ≤ n ∧ n < 256) : ∃ m : List Nat, l = ints m ∧ ∀ b ∈ m, b < 256 := by
  refine ⟨l.map Int.toNat, ?_, ?_⟩
  · unfold ints
    rw [List.map_map]
    conv => lhs; rw [← List.map_id l]
    apply List.map_congr_left
    intro a ha
    have := h a ha
    simp; omega
  · intro b hb
    obtain ⟨a, ha, rfl⟩ := List.mem_map.1 hb
    have := h a ha
    omega
theorem ints_rd (l : List Nat) (i : Nat) (h : i < l.length) : rd (ints l) (i : Int) = ((l[i] : Nat) : Int) := by
  unfold rd ints
  rw [Int.toNat_natCast, List.getD_eq_getElem?_getD, List.getElem?_map, List.getElem?_eq_getElem h]; rfl
theorem sum_l1 (ls : List (List Int)) (i : Int) (row : List Nat) (n : Int) (hrow : ∀ b ∈ row, b < 256) (hlen : row.length < 4611686018427387904) (K : Nat) (hK : 5 ≤ K) (R : Int) :
    ∀ (t : List Nat) (x j k : Nat), j ≤ row.length → row.drop j = t → x < 4294967296 → (∀ k, K ≤ k → crc_Sum.l0 k ((run x t : Nat) : Int) ls n (wrap64 (i + 1)) = some R) → K + t.length + 1 ≤ k →
    crc_Sum.l1 k (x : Int) ls n i (ints row) ((ints row).length : Int) (j : Int) = some R := by
  intro t
  induction t with
  | nil =>
    intro x j k hj ht hx h0 hk
    have := congrArg List.length ht
    rw [List.length_drop, List.length_nil] at this
    obtain ⟨k, rfl⟩ : ∃ m, k = m + 1 := ⟨k - 1, by omega⟩
    simp only [crc_Sum.l1]; rw [if_neg (by rw [ints_len]; omega)]
    exact h0 k (by simp only [List.length_nil] at hk; omega)
  | cons b t ih =>
    intro x j k hj ht hx h0 hk
    have hlt : j < row.length := by
      have := congrArg List.length ht
      rw [List.length_drop, List.length_cons] at this; omega
    have hd := List.drop_eq_getElem_cons hlt
    rw [ht] at hd
    injection hd with hd1 hd2
    have hb : b < 256 := by rw [hd1]; exact hrow _ (List.getElem_mem hlt)
    rw [List.length_cons] at hk
    obtain ⟨k, rfl⟩ : ∃ m, k = m + 1 := ⟨k - 1, by omega⟩
    have hr := ints_rd row j hlt
    rw [← hd1] at hr
    simp only [crc_Sum.l1]
    rw [if_pos (by rw [ints_len]; omega), if_pos (by omega), if_pos (by rw [ints_len]; omega), hr, step_eq k x b hx hb (by omega), Option.bind_some, wrap_in (n := (j : Int) + 1) (by omega) (by omega)]
    have hx' : Un 8 (x ^^^ b) < 4294967296 := Un_lt 8 (Nat.xor_lt_two_pow (n := 32) (by omega) (by omega))
    exact ih (Un 8 (x ^^^ b)) (j + 1) k (by omega) hd2.symm hx' h0 (by omega)
theorem sum_l0 (ls : List (List Nat)) (hls : ∀ row ∈ ls, (∀ b ∈ row, b < 256) ∧ row.length < 4611686018427387904) (hn : ls.length < 4611686018427387904) :
    ∀ (t : List (List Nat)) (x i : Nat), i ≤ ls.length → ls.drop i = t → x < 4294967296 → ∃ K, ∀ k, K ≤ k →
    crc_Sum.l0 k (x : Int) (ls.map ints) (ls.length : Int) (i : Int) = some ((run x t.flatten ^^^ 4294967295 : Nat) : Int) := by
  intro t
  induction t with
  | nil =>
    intro x i hi ht hx
    refine ⟨1, fun k hk => ?_⟩
    have := congrArg List.length ht
    rw [List.length_drop, List.length_nil] at this
    obtain ⟨k, rfl⟩ : ∃ m, k = m + 1 := ⟨k - 1, by omega⟩
    simp only [crc_Sum.l0]; rw [if_neg (by omega)]
    have := xor32 x 4294967295 hx (by omega)
    rw [show ((4294967295 : Nat) : Int) = 4294967295 from rfl] at this
    rw [this]; rfl
  | cons row t ih =>
    intro x i hi ht hx
    have hlt : i < ls.length := by
      have := congrArg List.length ht
      rw [List.length_drop, List.length_cons] at this; omega
    have hd := List.drop_eq_getElem_cons hlt
    rw [ht] at hd
    injection hd with hd1 hd2
    have hrow := hls row (by rw [hd1]; exact List.getElem_mem hlt)
    obtain ⟨K, hK⟩ := ih (run x row) (i + 1) (by omega) hd2.symm (run_lt row x hx hrow.1)
    refine ⟨K + 5 + row.length + 2, fun k hk => ?_⟩
    obtain ⟨k, rfl⟩ : ∃ m, k = m + 1 := ⟨k - 1, by omega⟩
    have hr : rd_L1 (ls.map ints) (i : Int) = ints row := by
      unfold rd_L1
      rw [Int.toNat_natCast, List.getD_eq_getElem?_getD, List.getElem?_map, List.getElem?_eq_getElem hlt, hd1]; rfl
    simp only [crc_Sum.l0]
    rw [if_pos (by omega), if_pos (by omega), if_pos (by rw [List.length_map]; omega), hr]
    refine sum_l1 (ls.map ints) i row ls.length hrow.1 hrow.2 (K + 5) (by omega) _ row x 0 k (Nat.zero_le _) rfl hx (fun k' hk' => ?_) (by omega)
    rw [wrap_in (n := (i : Int) + 1) (by omega) (by omega)]
    have := hK k' (by omega)
    rw [show (((i + 1 : Nat)) : Int) = (i : Int) + 1 by omega] at this
    rw [this, List.flatten_cons, run_append]
/-- The sum of all bytes, as a number. -/
def crc (l : List Nat) : Nat := run 4294967295 l ^^^ 4294967295
theorem sum_eq (ls : List (List Nat)) (hls : ∀ row ∈ ls, (∀ b ∈ row, b < 256) ∧ row.length < 4611686018427387904) (hn : ls.length < 4611686018427387904) :
    ∃ K, ∀ k, K ≤ k → crc_Sum.f k (ls.map ints) = some ((crc ls.flatten : Nat) : Int) := by
  obtain ⟨K, hK⟩ := sum_l0 ls hls hn ls 4294967295 0 (Nat.zero_le _) rfl (by omega)
  refine ⟨K, fun k hk => ?_⟩
  unfold crc_Sum.f
  rw [List.length_map]
  exact hK k hk
theorem awake_ok : ∃ K, ∀ k, K ≤ k → mutoscopelaw01_awake.f k = some true := ⟨30, fun _ hk => at_rounds mutoscopelaw01_awake.mono hk (by decide +kernel)⟩
theorem mul_xor (i a b : Nat) : 2 ^ i * (a ^^^ b) = (2 ^ i * a) ^^^ (2 ^ i * b) := by
  apply Nat.eq_of_testBit_eq; intro j
  rw [Nat.testBit_xor, Nat.testBit_two_pow_mul, Nat.testBit_two_pow_mul, Nat.testBit_two_pow_mul, Nat.testBit_xor]
  cases decide (j ≥ i) <;> simp
theorem num_set : ∀ (c : List Nat) (j m : Nat) (h : j < c.length), (∀ x ∈ c, x < 256) → m < 8 → num (c.set j (c[j] ^^^ 2 ^ m)) = num c ^^^ 2 ^ (8 * j + m)
  | x :: t, 0, m, _, hb, hm => by
    have hx : x < 2 ^ 8 := hb x (List.mem_cons_self ..)
    have hx' : x ^^^ 2 ^ m < 2 ^ 8 := Nat.xor_lt_two_pow hx (Nat.pow_lt_pow_right (by decide) hm)
    simp only [List.set_cons_zero, List.getElem_cons_zero, num]
    have e1 : (x ^^^ 2 ^ m) + 256 * num t = 2 ^ 8 * num t + (x ^^^ 2 ^ m) := by omega
    have e2 : x + 256 * num t = 2 ^ 8 * num t + x := by omega
    rw [e1, e2, add_xor 8 _ _ hx', add_xor 8 _ _ hx, xor_left, Nat.mul_zero, Nat.zero_add]
  | x :: t, j + 1, m, h, hb, hm => by
    have hx : x < 2 ^ 8 := hb x (List.mem_cons_self ..)
    have ih := num_set t j m (by simpa using h) (fun y hy => hb y (List.mem_cons_of_mem _ hy)) hm
    simp only [List.set_cons_succ, List.getElem_cons_succ, num]
    rw [ih]
    have e1 : x + 256 * (num t ^^^ 2 ^ (8 * j + m)) = 2 ^ 8 * (num t ^^^ 2 ^ (8 * j + m)) + x := by omega
    have e2 : x + 256 * num t = 2 ^ 8 * num t + x := by omega
    rw [e1, e2, add_xor 8 _ _ hx, add_xor 8 _ _ hx, mul_xor, ← Nat.xor_assoc, ← Nat.pow_add, show 8 + (8 * j + m) = 8 * (j + 1) + m by omega]
theorem shr_eq (x i : Nat) (hi : i < 32) : shr .u32 (x : Int) (i : Int) = ((x / 2 ^ i : Nat) : Int) := by
  unfold shr
  rw [Int.toNat_natCast, show min i IntKind.u32.bits = i from Nat.min_eq_left (by simp only [IntKind.bits]; omega)]
  simp
theorem shl_eq (m : Nat) (hm : m < 8) : shl .u8 1 (m : Int) = ((2 ^ m : Nat) : Int) := by
  have h := Nat.pow_lt_pow_right (a := 2) (by decide) hm
  unfold shl
  rw [Int.toNat_natCast, show min m IntKind.u8.bits = m from Nat.min_eq_left (by simp only [IntKind.bits]; omega), Int.one_mul]
  have : ((2 : Int) ^ m) = ((2 ^ m : Nat) : Int) := by simp
  rw [this]
  exact Go.wraps_u8 _ (Int.natCast_nonneg _) (by exact_mod_cast h)
theorem ints_set (c : List Nat) (j v : Nat) : (ints c).set j (v : Int) = ints (c.set j v) := by unfold ints; rw [List.map_set]
/-- The sums behind two rows that differ by e, from bit p on. -/
theorem crc_differ (b c : List Nat) (hb : ∀ x ∈ b, x < 256) (hc : ∀ x ∈ c, x < 256) (hl : c.length = b.length) (p e : Nat) (hp : p ≤ 8 * b.length) (he : e < 4294967296) (hn : num c = num b ^^^ (2 ^ p * e)) :
    crc b = crc c ↔ e = 0 := by
  unfold crc
  rw [run_num b _ hb, run_num c _ hc, hl, hn, ← Nat.xor_assoc, Un_xor (8 * b.length) (4294967295 ^^^ num b)]
  have h1 : Un (8 * b.length) (2 ^ p * e) = Un (8 * b.length - p) e := by
    have : 8 * b.length = p + (8 * b.length - p) := by omega
    rw [this, Un_add, Un_shift, Nat.add_sub_cancel_left]
  rw [h1]
  constructor
  · intro h
    by_cases h0 : e = 0
    · exact h0
    · exfalso
      apply Un_ne (8 * b.length - p) he h0
      have h2 := congrArg (fun y => y ^^^ 4294967295) h
      simp only [Nat.xor_assoc, Nat.xor_self, Nat.xor_zero] at h2
      have h3 := congrArg (fun y => Un (8 * b.length) (4294967295 ^^^ num b) ^^^ y) h2
      simp only [← Nat.xor_assoc, Nat.xor_self, Nat.zero_xor] at h3
      exact h3.symm
  · rintro rfl
    rw [Un_zero, Nat.xor_zero]
theorem burst_l0 (b : List Nat) (hb : ∀ x ∈ b, x < 256) (hlen : b.length ≤ 2000) (p bits : Nat) (hp : p < 8 * b.length) (hbits : bits < 4294967296) (K : Nat) (h0 : ∀ k, K ≤ k → mutoscopelaw01_awake.f k = some true)
    (Kb : Nat) (h1 : ∀ k, Kb ≤ k → crc_Sum.f k [ints b] = some ((crc b : Nat) : Int)) :
    ∀ (d i : Nat) (c : List Nat) (e : Nat), i + d = 32 → c.length = b.length → (∀ x ∈ c, x < 256) → e < 2 ^ i → num c = num b ^^^ (2 ^ p * e) →
    ∃ k, mutoscopelaw01_CrcBurst.l0 k (ints b) (p : Int) (bits : Int) (ints c) (decide (e ≠ 0)) (i : Int) = some true := by
  intro d
  induction d with
  | zero =>
    intro i c e hi hl hc he hn
    obtain ⟨Kc, h2⟩ := sum_eq [c] (List.forall_mem_cons.2 ⟨⟨hc, by omega⟩, (fun _ h => by cases h)⟩) (by simp)
    simp only [List.map_cons, List.map_nil, List.flatten_cons, List.flatten_nil, List.append_nil] at h2
    refine ⟨K + Kb + Kc + 1, ?_⟩
    simp only [mutoscopelaw01_CrcBurst.l0]
    obtain rfl : i = 32 := by omega
    have hd := crc_differ b c hb hc hl p e (by omega) he hn
    rw [if_neg (by omega), h1 _ (by omega), Option.bind_some, h2 _ (by omega), Option.bind_some, if_pos, h0 _ (by omega)]
    · rfl
    · by_cases h : e = 0
      · have := hd.2 h
        rw [this, decide_eq_false (by simp [h])]; simp
      · have : ¬ crc b = crc c := fun x => h (hd.1 x)
        rw [decide_eq_true h, beq_eq_false_iff_ne.2 (by omega)]; rfl
  | succ d ih =>
    intro i c e hi hl hc he hn
    have hand : Go.bits .and .u32 (shr .u32 (bits : Int) (i : Int)) 1 = ((bits / 2 ^ i % 2 : Nat) : Int) := by
      rw [shr_eq bits i (by omega)]
      exact and1 _ (Nat.lt_of_le_of_lt (Nat.div_le_self _ _) hbits)
    have hw : Aside0 (wrap64 ((i : Int) + 1) = ((i + 1 : Nat) : Int)) := ⟨by rw [wrap_in (by omega) (by omega)]; omega⟩
    have hlt2 : e < 2 ^ (i + 1) := Nat.lt_of_lt_of_le he (Nat.pow_le_pow_right (by decide) (by omega))
    have hskip := ih (i + 1) c e (by omega) hl hc hlt2 hn
    by_cases hbit : bits / 2 ^ i % 2 = 1
    · by_cases hin : p + i < 8 * b.length
      · have hj : (p + i) / 8 < c.length := by omega
        have hm : (p + i) % 8 < 8 := by omega
        have hcj : c[(p + i) / 8] < 256 := hc _ (List.getElem_mem hj)
        have hpow : 2 ^ ((p + i) % 8) < 256 := Nat.pow_lt_pow_right (a := 2) (n := 8) (by decide) hm
        have hbyte : c[(p + i) / 8] ^^^ 2 ^ ((p + i) % 8) < 256 := Nat.xor_lt_two_pow (n := 8) hcj hpow
        have hset := num_set c ((p + i) / 8) ((p + i) % 8) hj hc hm
        rw [show 8 * ((p + i) / 8) + (p + i) % 8 = p + i by omega, hn, Nat.xor_assoc, Nat.pow_add, ← mul_xor] at hset
        have he2 : e ^^^ 2 ^ i < 2 ^ (i + 1) := Nat.xor_lt_two_pow hlt2 (Nat.pow_lt_pow_right (by decide) (by omega))
        have hne : e ^^^ 2 ^ i ≠ 0 := by
          intro h
          have h3 := congrArg (fun y => y.testBit i) h
          simp only [Nat.testBit_xor, Nat.testBit_lt_two_pow he, Nat.testBit_two_pow_self, Nat.zero_testBit] at h3
          exact absurd h3 (by decide)
        obtain ⟨k, hk⟩ := ih (i + 1) (c.set ((p + i) / 8) (c[(p + i) / 8] ^^^ 2 ^ ((p + i) % 8))) (e ^^^ 2 ^ i) (by omega) (by rw [List.length_set]; exact hl)
          (by
            intro x hx
            rcases List.mem_or_eq_of_mem_set hx with h | h
            · exact hc x h
            · rw [h]; exact hbyte) he2 hset
        refine ⟨k + 1, ?_⟩
        rw [decide_eq_true hne] at hk
        have w1 : Aside0 (wrap64 ((p : Int) + (i : Int)) = ((p + i : Nat) : Int)) := ⟨by rw [wrap_in (by omega) (by omega)]; omega⟩
        have w2 : Aside0 (wrap64 (8 * (b.length : Int)) = 8 * (b.length : Int)) := ⟨wrap_in (by omega) (by omega)⟩
        have w3 : Aside0 (wrap64 (Int.tdiv ((p + i : Nat) : Int) 8) = (((p + i) / 8 : Nat) : Int)) := ⟨by rw [Int.tdiv_eq_ediv_of_nonneg (by omega), wrap_in (by omega) (by omega)]; omega⟩
        have w4 : Aside0 (Int.tmod ((p + i : Nat) : Int) 8 = (((p + i) % 8 : Nat) : Int)) := ⟨by rw [Int.tmod_eq_emod_of_nonneg (by omega)]; omega⟩
        have hr := ints_rd c ((p + i) / 8) hj
        simp only [mutoscopelaw01_CrcBurst.l0]
        rw [if_pos (by omega), if_pos (by omega), hand, if_pos (by omega), w1.out, ints_len, w2.out, if_pos (by omega), w3.out, if_pos (by omega), ints_len, if_pos (by omega), w4.out, if_pos (by omega), hr, shl_eq _ hm, xor8 _ _ hcj hpow, hw.out, Int.toNat_natCast, ints_set]
        exact hk
      · obtain ⟨k, hk⟩ := hskip
        refine ⟨k + 1, ?_⟩
        have w1 : Aside0 (wrap64 ((p : Int) + (i : Int)) = ((p + i : Nat) : Int)) := ⟨by rw [wrap_in (by omega) (by omega)]; omega⟩
        have w2 : Aside0 (wrap64 (8 * (b.length : Int)) = 8 * (b.length : Int)) := ⟨wrap_in (by omega) (by omega)⟩
        simp only [mutoscopelaw01_CrcBurst.l0]
        rw [if_pos (by omega), if_pos (by omega), hand, if_pos (by omega), w1.out, ints_len, w2.out, if_neg (by omega), hw.out]
        exact hk
    · obtain ⟨k, hk⟩ := hskip
      refine ⟨k + 1, ?_⟩
      simp only [mutoscopelaw01_CrcBurst.l0]
      rw [if_pos (by omega), if_pos (by omega), hand, if_neg (by omega), hw.out]
      exact hk
theorem CrcBurst_nat (b : List Nat) (hb : ∀ x ∈ b, x < 256) (p : Int) (bits : Nat) (hbits : bits < 4294967296) : ∃ k, mutoscopelaw01_CrcBurst.f k (ints b) p (bits : Int) = some true := by
  obtain ⟨K0, h0⟩ := awake_ok
  have hj : mutoscopelaw01_CrcBurst.j0 (K0 + 1) (ints b) p (bits : Int) true = some true := by
    simp only [mutoscopelaw01_CrcBurst.j0]; rw [if_pos trivial, h0 K0 (Nat.le_refl _)]; rfl
  unfold mutoscopelaw01_CrcBurst.f
  simp only [ints_len]
  by_cases c1 : (b.length : Int) > 2000
  · exact ⟨K0 + 1, by rw [if_pos c1]; exact hj⟩
  have w2 : Aside0 (wrap64 (8 * (b.length : Int)) = 8 * (b.length : Int)) := ⟨wrap_in (by omega) (by omega)⟩
  rw [w2.out]
  by_cases c2 : p < 0
  · exact ⟨K0 + 1, by rw [if_neg c1, if_pos c2]; exact hj⟩
  by_cases c3 : p ≥ 8 * (b.length : Int)
  · exact ⟨K0 + 1, by rw [if_neg c1, if_neg c2, if_pos c3]; exact hj⟩
  by_cases c4 : bits = 0
  · exact ⟨K0 + 1, by rw [if_neg c1, if_neg c2, if_neg c3, beq_iff_eq.2 (by omega)]; exact hj⟩
  obtain ⟨q, rfl⟩ := Int.eq_ofNat_of_zero_le (show 0 ≤ p by omega)
  obtain ⟨Kb, h1⟩ := sum_eq [b] (List.forall_mem_cons.2 ⟨⟨hb, by omega⟩, (fun _ h => by cases h)⟩) (by simp)
  simp only [List.map_cons, List.map_nil, List.flatten_cons, List.flatten_nil, List.append_nil] at h1
  obtain ⟨k, hk⟩ := burst_l0 b hb (by omega) q bits (by omega) hbits K0 h0 Kb h1 32 0 b 0 (by omega) rfl hb (by simp) (by simp)
  refine ⟨k + 1, ?_⟩
  rw [if_neg c1, if_neg c2, if_neg c3, beq_eq_false_iff_ne.2 (by omega)]
  simp only [mutoscopelaw01_CrcBurst.j0]
  rw [if_neg (by simp), Option.bind_some, List.length_nil, ints_len, if_pos (by omega), List.nil_append]
  exact hk
theorem bytes_of {l : List Int} (h : ∀ n ∈ l, (Lit.int .u8 n).wf = true) : ∀ n ∈ l, 0 ≤ n ∧ n < 256 := by
  intro n hn
  have := h n hn
  simp only [Lit.wf, Bool.and_eq_true, decide_eq_true_eq] at this
  have e1 : IntKind.u8.min = 0 := by rfl
  have e2 : IntKind.u8.max = 255 := by rfl
  omega
theorem CrcBurst (l0 : List Int) (a1 a2 : Int) (w0 : ∀ n ∈ l0, (Lit.int .u8 n).wf = true) (w2 : (Lit.int .u32 a2).wf = true) : ∃ k, mutoscopelaw01_CrcBurst.f k l0 a1 a2 = some true := by
  obtain ⟨b, rfl, hb⟩ := ints_of l0 (bytes_of w0)
  have h2 : 0 ≤ a2 ∧ a2 < 4294967296 := by
    simp only [Lit.wf, Bool.and_eq_true, decide_eq_true_eq] at w2
    have e1 : IntKind.u32.min = 0 := by rfl
    have e2 : IntKind.u32.max = 4294967295 := by rfl
    omega
  obtain ⟨q, rfl⟩ := Int.eq_ofNat_of_zero_le h2.1
  exact CrcBurst_nat b hb a1 q (by omega)

end Go.Proofs.Ytbkjkjcpclaijaa.PureCrcBurst
