/- The plain law of CrcNext: Next byte by byte extends a sum. -/
import Derived.Test.YtbkjkjcpclaijaaQLCrcNext
import Derived.Laws.BitsLemmas
namespace Go.Proofs.Ytbkjkjcpclaijaa.PureCrcNext
open Go Go.RowKit Go.Proofs.Ytbkjkjcpclaijaa.QCrc Go.Proofs.YtbkjkjcpclaijaaW.PrintWords Go.Proofs.YtbkjkjcpclaijaaW.PrintLast Go.Proofs.YtbkjkjcpclaijaaW.PrintMore
/-- One step of the sum, on a number: the message's later bits come down. -/
def U (x : Nat) : Nat := if x % 2 = 1 then (x / 2) ^^^ 3988292384 else x / 2
def Un : Nat → Nat → Nat
  | 0, x => x
  | n + 1, x => Un n (U x)
theorem xor_cancel (a b p : Nat) : (a ^^^ p) ^^^ (b ^^^ p) = a ^^^ b := by
  apply Nat.eq_of_testBit_eq; intro i; simp only [Nat.testBit_xor]; cases a.testBit i <;> cases b.testBit i <;> cases p.testBit i <;> rfl
theorem xor_left (a b p : Nat) : (a ^^^ p) ^^^ b = (a ^^^ b) ^^^ p := by
  apply Nat.eq_of_testBit_eq; intro i; simp only [Nat.testBit_xor]; cases a.testBit i <;> cases b.testBit i <;> cases p.testBit i <;> rfl
theorem xor_right (a b p : Nat) : a ^^^ (b ^^^ p) = (a ^^^ b) ^^^ p := by
  apply Nat.eq_of_testBit_eq; intro i; simp only [Nat.testBit_xor]; cases a.testBit i <;> cases b.testBit i <;> cases p.testBit i <;> rfl
theorem xor_half (a b : Nat) : (a ^^^ b) / 2 = a / 2 ^^^ b / 2 := by
  apply Nat.eq_of_testBit_eq; intro i; simp only [Nat.testBit_div_two, Nat.testBit_xor]
theorem odd_bit (a : Nat) : a % 2 = 1 ↔ a.testBit 0 = true := by simp [Nat.testBit_zero]
theorem U_xor (a b : Nat) : U (a ^^^ b) = U a ^^^ U b := by
  unfold U
  have h : ((a ^^^ b) % 2 = 1) ↔ ¬ ((a % 2 = 1) ↔ (b % 2 = 1)) := by
    simp only [odd_bit, Nat.testBit_xor]; cases a.testBit 0 <;> cases b.testBit 0 <;> simp
  rw [xor_half]
  by_cases ha : a % 2 = 1 <;> by_cases hb : b % 2 = 1
  · rw [if_neg (by rw [h]; simp [ha, hb]), if_pos ha, if_pos hb, xor_cancel]
  · rw [if_pos (by rw [h]; simp [ha, hb]), if_pos ha, if_neg hb, xor_left]
  · rw [if_pos (by rw [h]; simp [ha, hb]), if_neg ha, if_pos hb, xor_right]
  · rw [if_neg (by rw [h]; simp [ha, hb]), if_neg ha, if_neg hb]
theorem Un_xor : ∀ (n a b : Nat), Un n (a ^^^ b) = Un n a ^^^ Un n b
  | 0, _, _ => rfl
  | n + 1, a, b => by rw [Un, Un, Un, U_xor, Un_xor n]
theorem Un_add : ∀ (m n x : Nat), Un (m + n) x = Un n (Un m x)
  | 0, n, x => by rw [Nat.zero_add]; rfl
  | m + 1, n, x => by rw [Nat.add_right_comm, Un, Un, Un_add m]
theorem U_even (x : Nat) : U (2 * x) = x := by unfold U; rw [if_neg (by omega)]; omega
theorem Un_shift : ∀ (n x : Nat), Un n (2 ^ n * x) = x
  | 0, x => by simp [Un]
  | n + 1, x => by rw [Un, Nat.pow_succ, Nat.mul_comm (2 ^ n) 2, Nat.mul_assoc, U_even, Un_shift n]
theorem U_zero : U 0 = 0 := by unfold U; simp
theorem Un_zero : ∀ n, Un n 0 = 0
  | 0 => rfl
  | n + 1 => by rw [Un, U_zero, Un_zero n]
theorem U_lt {x : Nat} (h : x < 4294967296) : U x < 4294967296 := by
  unfold U
  split
  · exact Nat.xor_lt_two_pow (n := 32) (by omega) (by omega)
  · omega
theorem U_ne {x : Nat} (h : x < 4294967296) (h0 : x ≠ 0) : U x ≠ 0 := by
  unfold U
  split
  · intro e
    have : x / 2 = 3988292384 := by
      have e2 := congrArg (fun y => y ^^^ 3988292384) e
      simp only [Nat.xor_assoc, Nat.xor_self, Nat.xor_zero, Nat.zero_xor] at e2
      exact e2
    omega
  · omega
theorem Un_lt : ∀ (n : Nat) {x : Nat}, x < 4294967296 → Un n x < 4294967296
  | 0, _, h => h
  | n + 1, _, h => Un_lt n (U_lt h)
theorem Un_ne : ∀ (n : Nat) {x : Nat}, x < 4294967296 → x ≠ 0 → Un n x ≠ 0
  | 0, _, _, h => h
  | n + 1, _, h, h0 => Un_ne n (U_lt h) (U_ne h h0)
/-- A part below a power of two, and a part above: added, or exclusively ored. -/
theorem add_xor (i a b : Nat) (h : b < 2 ^ i) : 2 ^ i * a + b = b ^^^ (2 ^ i * a) := by
  apply Nat.eq_of_testBit_eq; intro j
  rw [Nat.testBit_two_pow_mul_add a h, Nat.testBit_xor]
  have h2 : (2 ^ i * a).testBit j = if j < i then false else a.testBit (j - i) := by
    have := Nat.testBit_two_pow_mul_add a (Nat.two_pow_pos i) j
    rw [Nat.add_zero] at this
    rw [this]; simp
  rw [h2]
  by_cases hj : j < i
  · rw [if_pos hj, if_pos hj]; simp
  · rw [if_neg hj, if_neg hj, Nat.testBit_lt_two_pow (Nat.lt_of_lt_of_le h (Nat.pow_le_pow_right (by decide) (by omega)))]; simp
theorem Un_split (n x : Nat) : Un n x = Un n (x % 2 ^ n) ^^^ x / 2 ^ n := by
  have h := Nat.div_add_mod x (2 ^ n)
  have h2 : Un n x = Un n (2 ^ n * (x / 2 ^ n) + x % 2 ^ n) := by rw [h]
  rw [h2, add_xor n _ _ (Nat.mod_lt _ (Nat.two_pow_pos n)), Un_xor, Un_shift]
/-- The state behind bytes. -/
def run (r : Nat) (l : List Nat) : Nat := l.foldl (fun r b => Un 8 (r ^^^ b)) r
/-- Bytes as one number, the first the lowest. -/
def num : List Nat → Nat
  | [] => 0
  | b :: l => b + 256 * num l
theorem run_num : ∀ (l : List Nat) (r : Nat), (∀ b ∈ l, b < 256) → run r l = Un (8 * l.length) (r ^^^ num l)
  | [], r, _ => by simp [run, Un, num]
  | b :: l, r, h => by
    have hb : b < 2 ^ 8 := h b (List.mem_cons_self ..)
    show run (Un 8 (r ^^^ b)) l = _
    rw [run_num l _ (fun x hx => h x (List.mem_cons_of_mem _ hx)), List.length_cons, Nat.mul_add, Nat.mul_one, Nat.add_comm (8 * l.length) 8, Un_add, num]
    congr 1
    have : b + 256 * num l = 2 ^ 8 * num l + b := by omega
    rw [this, add_xor 8 _ _ hb, ← Nat.xor_assoc, Un_xor 8 (r ^^^ b), Un_shift]
theorem run_append (r : Nat) (l m : List Nat) : run r (l ++ m) = run (run r l) m := by unfold run; rw [List.foldl_append]
theorem run_lt : ∀ (l : List Nat) (r : Nat), r < 4294967296 → (∀ b ∈ l, b < 256) → run r l < 4294967296
  | [], _, h, _ => h
  | b :: l, r, h, hb => run_lt l _ (Un_lt 8 (Nat.xor_lt_two_pow (n := 32) (by omega) (by have := hb b (List.mem_cons_self ..); omega))) (fun x hx => hb x (List.mem_cons_of_mem _ hx))
theorem wrap_in {n : Int} (h : -9223372036854775808 ≤ n) (h' : n ≤ 9223372036854775807) : wrap64 n = n := by unfold wrap64; omega
theorem wraps_u32 (n : Int) (h₀ : 0 ≤ n) (h₁ : n < 2 ^ 32) : IntKind.u32.wrap n = n := by rw [IntKind.wrap_u32]; omega
theorem xor32 (a b : Nat) (ha : a < 4294967296) (hb : b < 4294967296) : Go.bits .xor .u32 (a : Int) (b : Int) = ((a ^^^ b : Nat) : Int) := by
  have hx : a ^^^ b < 2 ^ 32 := Nat.xor_lt_two_pow (n := 32) (by omega) (by omega)
  have ha' : a % 2 ^ 32 = a := Nat.mod_eq_of_lt (by omega)
  have hb' : b % 2 ^ 32 = b := Nat.mod_eq_of_lt (by omega)
  have hT : (BitVec.ofNat 32 a ^^^ BitVec.ofNat 32 b).toNat = a ^^^ b := by rw [BitVec.toNat_xor, BitVec.toNat_ofNat, BitVec.toNat_ofNat, ha', hb']
  show IntKind.u32.wrap (((BitVec.ofInt 32 (a : Int) ^^^ BitVec.ofInt 32 (b : Int)).toNat : Nat) : Int) = _
  rw [BitVec.ofInt_natCast, BitVec.ofInt_natCast, hT]
  exact wraps_u32 _ (Int.natCast_nonneg _) (by exact_mod_cast hx)
theorem xor8 (a b : Nat) (ha : a < 256) (hb : b < 256) : Go.bits .xor .u8 (a : Int) (b : Int) = ((a ^^^ b : Nat) : Int) := by
  have hx : a ^^^ b < 2 ^ 8 := Nat.xor_lt_two_pow (n := 8) (by omega) (by omega)
  have ha' : a % 2 ^ 8 = a := Nat.mod_eq_of_lt (by omega)
  have hb' : b % 2 ^ 8 = b := Nat.mod_eq_of_lt (by omega)
  have hT : (BitVec.ofNat 8 a ^^^ BitVec.ofNat 8 b).toNat = a ^^^ b := by rw [BitVec.toNat_xor, BitVec.toNat_ofNat, BitVec.toNat_ofNat, ha', hb']
  show IntKind.u8.wrap (((BitVec.ofInt 8 (a : Int) ^^^ BitVec.ofInt 8 (b : Int)).toNat : Nat) : Int) = _
  rw [BitVec.ofInt_natCast, BitVec.ofInt_natCast, hT]
  exact Go.wraps_u8 _ (Int.natCast_nonneg _) (by exact_mod_cast hx)
theorem and1 (a : Nat) (ha : a < 4294967296) : Go.bits .and .u32 (a : Int) 1 = ((a % 2 : Nat) : Int) := by
  have h := (Go.bits_nat .u32 32 (by decide) wraps_u32 a 1 ha (by decide)).1
  rw [Nat.and_one_is_mod] at h
  exact h
theorem and15 (a : Nat) (ha : a < 4294967296) : Go.bits .and .u32 (a : Int) 15 = ((a % 16 : Nat) : Int) := by
  have h := (Go.bits_nat .u32 32 (by decide) wraps_u32 a 15 ha (by decide)).1
  rw [show (15 : Nat) = 2 ^ 4 - 1 by decide, Nat.and_two_pow_sub_one_eq_mod] at h
  exact h
theorem table_l : ∀ (j k x : Nat) (i : Int), i = 4 - (j : Int) → j ≤ 4 → x < 4294967296 → j < k → crc_table.l0 k (x : Int) i = some ((Un j x : Nat) : Int) := by
  intro j
  induction j with
  | zero =>
    intro k x i hi _ _ hk
    obtain ⟨k, rfl⟩ : ∃ m, k = m + 1 := ⟨k - 1, by omega⟩
    simp only [crc_table.l0]; rw [if_neg (by omega)]; rfl
  | succ j ih =>
    intro k x i hi hj hx hk
    obtain ⟨k, rfl⟩ : ∃ m, k = m + 1 := ⟨k - 1, by omega⟩
    simp only [crc_table.l0]
    rw [if_pos (by omega), wrap_in (n := i + 1) (by omega) (by omega), and1 x hx, show ((x : Int) / 2) = ((x / 2 : Nat) : Int) by omega]
    have hU : Un (j + 1) x = Un j (U x) := rfl
    rw [hU]
    by_cases h : x % 2 = 1
    · rw [if_pos (by omega)]
      have e : Go.bits .xor .u32 ((x / 2 : Nat) : Int) 3988292384 = ((U x : Nat) : Int) := by
        unfold U; rw [if_pos h]; exact xor32 _ 3988292384 (by omega) (by omega)
      rw [e]
      exact ih k _ _ (by omega) (by omega) (U_lt hx) (by omega)
    · rw [if_neg (by omega)]
      have e : ((x / 2 : Nat) : Int) = ((U x : Nat) : Int) := by unfold U; rw [if_neg h]
      rw [e]
      exact ih k _ _ (by omega) (by omega) (U_lt hx) (by omega)
theorem table_eq (k x : Nat) (hx : x < 4294967296) (hk : 5 ≤ k) : crc_table.f k (x : Int) = some ((Un 4 x : Nat) : Int) := table_l 4 k x 0 (by omega) (by omega) hx (by omega)
theorem step_eq (k r b : Nat) (hr : r < 4294967296) (hb : b < 256) (hk : 5 ≤ k) : crc_step.f k (r : Int) (b : Int) = some ((Un 8 (r ^^^ b) : Nat) : Int) := by
  have hx : r ^^^ b < 4294967296 := Nat.xor_lt_two_pow (n := 32) (by omega) (by omega)
  have h4 : ∀ y : Nat, Un 4 y = Un 4 (y % 16) ^^^ y / 16 := fun y => Un_split 4 y
  have ht : ∀ y : Nat, Un 4 (y % 16) < 4294967296 := fun y => Un_lt 4 (by omega)
  have hs : ∀ y : Nat, y < 4294967296 → y / 16 ^^^ Un 4 (y % 16) = Un 4 y := fun y _ => by rw [h4 y, Nat.xor_comm]
  unfold crc_step.f
  rw [show ((b : Int) % 4294967296) = (b : Int) by omega, xor32 r b hr (by omega), and15 _ hx, table_eq k _ (by omega) hk, Option.bind_some,
    show (((r ^^^ b : Nat) : Int) / 16) = (((r ^^^ b) / 16 : Nat) : Int) by omega, xor32 _ _ (by omega) (ht _), hs _ hx]
  have hy : Un 4 (r ^^^ b) < 4294967296 := Un_lt 4 hx
  rw [and15 _ hy, table_eq k _ (by omega) hk, Option.bind_some, show (((Un 4 (r ^^^ b) : Nat) : Int) / 16) = ((Un 4 (r ^^^ b) / 16 : Nat) : Int) by omega, xor32 _ _ (by omega) (ht _), hs _ hy, ← Un_add 4 4]
/-- Numbers, as the printed functions hold them. -/
def ints (l : List Nat) : List Int := l.map (fun n : Nat => (n : Int))
theorem ints_len (l : List Nat) : (ints l).length = l.length := by simp [ints]
theorem ints_of (l : List Int) (h : ∀ n ∈ l, 0 ≤ n ∧ n < 256) : ∃ m : List Nat, l = ints m ∧ ∀ b ∈ m, b < 256 := by
  refine ⟨l.map Int.toNat, ?_, ?_⟩
  · unfold ints
    rw [List.map_map]
    conv => lhs; rw [← List.map_id l]
    apply List.map_congr_left
    intro a ha
    have := h a ha
    simp; omega
  · intro b hb
    obtain ⟨a, ha, rfl⟩ := List.mem_map.1 hb
    have := h a ha
    omega
theorem ints_rd (l : List Nat) (i : Nat) (h : i < l.length) : rd (ints l) (i : Int) = ((l[i] : Nat) : Int) := by
  unfold rd ints
  rw [Int.toNat_natCast, List.getD_eq_getElem?_getD, List.getElem?_map, List.getElem?_eq_getElem h]; rfl
theorem sum_l1 (ls : List (List Int)) (i : Int) (row : List Nat) (n : Int) (hrow : ∀ b ∈ row, b < 256) (hlen : row.length < 4611686018427387904) (K : Nat) (hK : 5 ≤ K) (R : Int) :
    ∀ (t : List Nat) (x j k : Nat), j ≤ row.length → row.drop j = t → x < 4294967296 → (∀ k, K ≤ k → crc_Sum.l0 k ((run x t : Nat) : Int) ls n (wrap64 (i + 1)) = some R) → K + t.length + 1 ≤ k →
    crc_Sum.l1 k (x : Int) ls n i (ints row) ((ints row).length : Int) (j : Int) = some R := by
  intro t
  induction t with
  | nil =>
    intro x j k hj ht hx h0 hk
    have := congrArg List.length ht
    rw [List.length_drop, List.length_nil] at this
    obtain ⟨k, rfl⟩ : ∃ m, k = m + 1 := ⟨k - 1, by omega⟩
    simp only [crc_Sum.l1]; rw [if_neg (by rw [ints_len]; omega)]
    exact h0 k (by simp only [List.length_nil] at hk; omega)
  | cons b t ih =>
    intro x j k hj ht hx h0 hk
    have hlt : j < row.length := by
      have := congrArg List.length ht
      rw [List.length_drop, List.length_cons] at this; omega
    have hd := List.drop_eq_getElem_cons hlt
    rw [ht] at hd
    injection hd with hd1 hd2
    have hb : b < 256 := by rw [hd1]; exact hrow _ (List.getElem_mem hlt)
    rw [List.length_cons] at hk
    obtain ⟨k, rfl⟩ : ∃ m, k = m + 1 := ⟨k - 1, by omega⟩
    have hr := ints_rd row j hlt
    rw [← hd1] at hr
    simp only [crc_Sum.l1]
    rw [if_pos (by rw [ints_len]; omega), if_pos (by omega), if_pos (by rw [ints_len]; omega), hr, step_eq k x b hx hb (by omega), Option.bind_some, wrap_in (n := (j : Int) + 1) (by omega) (by omega)]
    have hx' : Un 8 (x ^^^ b) < 4294967296 := Un_lt 8 (Nat.xor_lt_two_pow (n := 32) (by omega) (by omega))
    exact ih (Un 8 (x ^^^ b)) (j + 1) k (by omega) hd2.symm hx' h0 (by omega)
theorem sum_l0 (ls : List (List Nat)) (hls : ∀ row ∈ ls, (∀ b ∈ row, b < 256) ∧ row.length < 4611686018427387904) (hn : ls.length < 4611686018427387904) :
    ∀ (t : List (List Nat)) (x i : Nat), i ≤ ls.length → ls.drop i = t → x < 4294967296 → ∃ K, ∀ k, K ≤ k →
    crc_Sum.l0 k (x : Int) (ls.map ints) (ls.length : Int) (i : Int) = some ((run x t.flatten ^^^ 4294967295 : Nat) : Int) := by
  intro t
  induction t with
  | nil =>
    intro x i hi ht hx
    refine ⟨1, fun k hk => ?_⟩
    have := congrArg List.length ht
    rw [List.length_drop, List.length_nil] at this
    obtain ⟨k, rfl⟩ : ∃ m, k = m + 1 := ⟨k - 1, by omega⟩
    simp only [crc_Sum.l0]; rw [if_neg (by omega)]
    have := xor32 x 4294967295 hx (by omega)
    rw [show ((4294967295 : Nat) : Int) = 4294967295 from rfl] at this
    rw [this]; rfl
  | cons row t ih =>
    intro x i hi ht hx
    have hlt : i < ls.length := by
      have := congrArg List.length ht
      rw [List.length_drop, List.length_cons] at this; omega
    have hd := List.drop_eq_getElem_cons hlt
    rw [ht] at hd
    injection hd with hd1 hd2
    have hrow := hls row (by rw [hd1]; exact List.getElem_mem hlt)
    obtain ⟨K, hK⟩ := ih (run x row) (i + 1) (by omega) hd2.symm (run_lt row x hx hrow.1)
    refine ⟨K + 5 + row.length + 2, fun k hk => ?_⟩
    obtain ⟨k, rfl⟩ : ∃ m, k = m + 1 := ⟨k - 1, by omega⟩
    have hr : rd_L1 (ls.map ints) (i : Int) = ints row := by
      unfold rd_L1
      rw [Int.toNat_natCast, List.getD_eq_getElem?_getD, List.getElem?_map, List.getElem?_eq_getElem hlt, hd1]; rfl
    simp only [crc_Sum.l0]
    rw [if_pos (by omega), if_pos (by omega), if_pos (by rw [List.length_map]; omega), hr]
    refine sum_l1 (ls.map ints) i row ls.length hrow.1 hrow.2 (K + 5) (by omega) _ row x 0 k (Nat.zero_le _) rfl hx (fun k' hk' => ?_) (by omega)
    rw [wrap_in (n := (i : Int) + 1) (by omega) (by omega)]
    have := hK k' (by omega)
    rw [show (((i + 1 : Nat)) : Int) = (i : Int) + 1 by omega] at this
    rw [this, List.flatten_cons, run_append]
/-- The sum of all bytes, as a number. -/
def crc (l : List Nat) : Nat := run 4294967295 l ^^^ 4294967295
theorem sum_eq (ls : List (List Nat)) (hls : ∀ row ∈ ls, (∀ b ∈ row, b < 256) ∧ row.length < 4611686018427387904) (hn : ls.length < 4611686018427387904) :
    ∃ K, ∀ k, K ≤ k → crc_Sum.f k (ls.map ints) = some ((crc ls.flatten : Nat) : Int) := by
  obtain ⟨K, hK⟩ := sum_l0 ls hls hn ls 4294967295 0 (Nat.zero_le _) rfl (by omega)
  refine ⟨K, fun k hk => ?_⟩
  unfold crc_Sum.f
  rw [List.length_map]
  exact hK k hk
theorem awake_ok : ∃ K, ∀ k, K ≤ k → mutoscopelaw01_awake.f k = some true := ⟨30, fun _ hk => at_rounds mutoscopelaw01_awake.mono hk (by decide +kernel)⟩
theorem bt_str (l : List Nat) (hl : ∀ b ∈ l, b < 256) (i : Nat) (h : i < l.length) : bt (strOfNums (ints l)) (i : Int) = ((l[i] : Nat) : Int) := by
  have hb : l[i] < 256 := hl _ (List.getElem_mem h)
  have hs : i < (strOfNums (ints l)).size := by simp [strOfNums, ints, ByteArray.size, h]
  unfold bt
  rw [Int.toNat_natCast, dif_pos hs]
  have e : (strOfNums (ints l))[i] = UInt8.ofNat l[i] := by
    show (strOfNums (ints l)).data[i] = _
    simp [strOfNums, ints]
  rw [e]
  simp
  omega
theorem str_size (l : List Nat) : (strOfNums (ints l)).size = l.length := by simp [strOfNums, ints, ByteArray.size]
theorem str_append (l m : List Nat) : strOfNums (ints l) ++ strOfNums (ints m) = strOfNums (ints (l ++ m)) := by
  apply ByteArray.ext
  simp [strOfNums, ints]
theorem ref_l1 (s : ByteArray) (i : Int) (K : Nat) (R : Int) : ∀ (j x k : Nat) (c : Int), c = 8 - (j : Int) → j ≤ 8 → x < 4294967296 → (∀ k, K ≤ k → mutoscoperef01_Sum.l0 k s ((Un j x : Nat) : Int) (wrap64 (i + 1)) = some R) → K + j + 1 ≤ k →
    mutoscoperef01_Sum.l1 k s (x : Int) i c = some R := by
  intro j
  induction j with
  | zero =>
    intro x k c hc _ _ h0 hk
    obtain ⟨k, rfl⟩ : ∃ m, k = m + 1 := ⟨k - 1, by omega⟩
    simp only [mutoscoperef01_Sum.l1]; rw [if_neg (by omega)]
    exact h0 k (by omega)
  | succ j ih =>
    intro x k c hc hj hx h0 hk
    obtain ⟨k, rfl⟩ : ∃ m, k = m + 1 := ⟨k - 1, by omega⟩
    simp only [mutoscoperef01_Sum.l1]
    rw [if_pos (by omega), wrap_in (n := c + 1) (by omega) (by omega), Int.tmod_eq_emod_of_nonneg (by omega), Int.tdiv_eq_ediv_of_nonneg (by omega), show ((x : Int) / 2 % 4294967296) = ((x / 2 : Nat) : Int) by omega]
    by_cases h : x % 2 = 1
    · rw [if_pos (by omega)]
      have e : Go.bits .xor .u32 ((x / 2 : Nat) : Int) 3988292384 = ((U x : Nat) : Int) := by
        unfold U; rw [if_pos h]; exact xor32 _ 3988292384 (by omega) (by omega)
      rw [e]
      exact ih _ k _ (by omega) (by omega) (U_lt hx) h0 (by omega)
    · rw [if_neg (by omega)]
      have e : ((x / 2 : Nat) : Int) = ((U x : Nat) : Int) := by unfold U; rw [if_neg h]
      rw [e]
      exact ih _ k _ (by omega) (by omega) (U_lt hx) h0 (by omega)
theorem ref_l0 (l : List Nat) (hl : ∀ b ∈ l, b < 256) (hn : l.length < 4611686018427387904) : ∀ (t : List Nat) (x i : Nat), i ≤ l.length → l.drop i = t → x < 4294967296 → ∃ K, ∀ k, K ≤ k →
    mutoscoperef01_Sum.l0 k (strOfNums (ints l)) (x : Int) (i : Int) = some ((run x t ^^^ 4294967295 : Nat) : Int) := by
  intro t
  induction t with
  | nil =>
    intro x i hi ht hx
    refine ⟨1, fun k hk => ?_⟩
    have := congrArg List.length ht
    rw [List.length_drop, List.length_nil] at this
    obtain ⟨k, rfl⟩ : ∃ m, k = m + 1 := ⟨k - 1, by omega⟩
    simp only [mutoscoperef01_Sum.l0]; rw [if_neg (by rw [str_size]; omega)]
    have := xor32 x 4294967295 hx (by omega)
    rw [show ((4294967295 : Nat) : Int) = 4294967295 from rfl] at this
    rw [this]; rfl
  | cons b t ih =>
    intro x i hi ht hx
    have hlt : i < l.length := by
      have := congrArg List.length ht
      rw [List.length_drop, List.length_cons] at this; omega
    have hd := List.drop_eq_getElem_cons hlt
    rw [ht] at hd
    injection hd with hd1 hd2
    have hb : b < 256 := by rw [hd1]; exact hl _ (List.getElem_mem hlt)
    have hr := bt_str l hl i hlt
    rw [← hd1] at hr
    have hxb : x ^^^ b < 4294967296 := Nat.xor_lt_two_pow (n := 32) (by omega) (by omega)
    obtain ⟨K, hK⟩ := ih (Un 8 (x ^^^ b)) (i + 1) (by omega) hd2.symm (Un_lt 8 hxb)
    refine ⟨K + 10, fun k hk => ?_⟩
    obtain ⟨k, rfl⟩ : ∃ m, k = m + 1 := ⟨k - 1, by omega⟩
    simp only [mutoscoperef01_Sum.l0]
    rw [if_pos (by rw [str_size]; omega), if_pos (by omega), hr, show ((b : Int) % 4294967296) = (b : Int) by omega, xor32 x b hx (by omega)]
    refine ref_l1 _ i K _ 8 _ k 0 (by omega) (by omega) hxb (fun k' hk' => ?_) (by omega)
    rw [wrap_in (n := (i : Int) + 1) (by omega) (by omega)]
    exact hK k' hk'
theorem ref_eq (l : List Nat) (hl : ∀ b ∈ l, b < 256) (hn : l.length < 4611686018427387904) : ∃ K, ∀ k, K ≤ k → mutoscoperef01_Sum.f k (strOfNums (ints l)) = some ((crc l : Nat) : Int) :=
  ref_l0 l hl hn l 4294967295 0 (Nat.zero_le _) rfl (by omega)
theorem next_eq (k r b : Nat) (hr : r < 4294967296) (hb : b < 256) (hk : 5 ≤ k) : crc_Next.f k (r : Int) (b : Int) = some ((Un 8 ((r ^^^ 4294967295) ^^^ b) ^^^ 4294967295 : Nat) : Int) := by
  have h1 : r ^^^ 4294967295 < 4294967296 := Nat.xor_lt_two_pow (n := 32) (by omega) (by omega)
  have h2 : Un 8 ((r ^^^ 4294967295) ^^^ b) < 4294967296 := Un_lt 8 (Nat.xor_lt_two_pow (n := 32) (by omega) (by omega))
  have e1 := xor32 r 4294967295 hr (by omega)
  have e2 := xor32 _ 4294967295 h2 (by omega)
  rw [show ((4294967295 : Nat) : Int) = 4294967295 from rfl] at e1 e2
  unfold crc_Next.f
  rw [e1, step_eq k _ b h1 hb hk, Option.bind_some, e2]
theorem ints_append (l m : List Nat) : ints (l ++ m) = ints l ++ ints m := by simp [ints]
theorem next_l0 (a b : List Nat) (hb : ∀ x ∈ b, x < 256) (hlen : b.length < 4611686018427387904) (K : Nat) (hK : 5 ≤ K) (R : Bool) :
    ∀ (t : List Nat) (x j k : Nat), j ≤ b.length → b.drop j = t → x < 4294967296 →
    (∀ k, K ≤ k → mutoscopelaw01_CrcNext.l0 (k + 1) (ints a) (ints b) ((run x t ^^^ 4294967295 : Nat) : Int) (ints b) ((ints b).length : Int) (b.length : Int) = some R) → K + t.length + 1 ≤ k →
    mutoscopelaw01_CrcNext.l0 k (ints a) (ints b) ((x ^^^ 4294967295 : Nat) : Int) (ints b) ((ints b).length : Int) (j : Int) = some R := by
  intro t
  induction t with
  | nil =>
    intro x j k hj ht hx h0 hk
    have := congrArg List.length ht
    rw [List.length_drop, List.length_nil] at this
    obtain ⟨k, rfl⟩ : ∃ m, k = m + 1 := ⟨k - 1, by omega⟩
    obtain rfl : j = b.length := by omega
    exact h0 k (by simp only [List.length_nil] at hk; omega)
  | cons y t ih =>
    intro x j k hj ht hx h0 hk
    have hlt : j < b.length := by
      have := congrArg List.length ht
      rw [List.length_drop, List.length_cons] at this; omega
    have hd := List.drop_eq_getElem_cons hlt
    rw [ht] at hd
    injection hd with hd1 hd2
    have hy : y < 256 := by rw [hd1]; exact hb _ (List.getElem_mem hlt)
    rw [List.length_cons] at hk
    obtain ⟨k, rfl⟩ : ∃ m, k = m + 1 := ⟨k - 1, by omega⟩
    have hr := ints_rd b j hlt
    rw [← hd1] at hr
    have h1 : x ^^^ 4294967295 < 4294967296 := Nat.xor_lt_two_pow (n := 32) (by omega) (by omega)
    have h3 : x ^^^ 4294967295 ^^^ 4294967295 = x := by rw [Nat.xor_assoc, Nat.xor_self, Nat.xor_zero]
    have hn := next_eq k (x ^^^ 4294967295) y h1 hy (by omega)
    rw [h3] at hn
    simp only [mutoscopelaw01_CrcNext.l0]
    rw [if_pos (by rw [ints_len]; omega), if_pos (by omega), if_pos (by rw [ints_len]; omega), hr, hn, Option.bind_some, wrap_in (n := (j : Int) + 1) (by omega) (by omega)]
    exact ih (Un 8 (x ^^^ y)) (j + 1) k (by omega) hd2.symm (Un_lt 8 (Nat.xor_lt_two_pow (n := 32) (by omega) (by omega))) h0 (by omega)
theorem CrcNext_nat (a b : List Nat) (ha : ∀ x ∈ a, x < 256) (hb : ∀ x ∈ b, x < 256) : ∃ k, mutoscopelaw01_CrcNext.f k (ints a) (ints b) = some true := by
  obtain ⟨K0, h0⟩ := awake_ok
  have hj : mutoscopelaw01_CrcNext.j0 (K0 + 1) (ints a) (ints b) true = some true := by
    simp only [mutoscopelaw01_CrcNext.j0]; rw [if_pos trivial, h0 K0 (Nat.le_refl _)]; rfl
  unfold mutoscopelaw01_CrcNext.f
  simp only [ints_len]
  by_cases c1 : (a.length : Int) > 2000
  · exact ⟨K0 + 1, by rw [if_pos c1]; exact hj⟩
  by_cases c2 : (b.length : Int) > 2000
  · exact ⟨K0 + 1, by rw [if_neg c1, decide_eq_true c2]; exact hj⟩
  have hab : ∀ x ∈ a ++ b, x < 256 := fun x hx => (List.mem_append.1 hx).elim (ha x) (hb x)
  have lab : (a ++ b).length < 4611686018427387904 := by rw [List.length_append]; omega
  obtain ⟨K1, h1⟩ := sum_eq [a] (List.forall_mem_cons.2 ⟨⟨ha, by omega⟩, (fun _ h => by cases h)⟩) (by simp)
  obtain ⟨K2, h2⟩ := sum_eq [a, b] (List.forall_mem_cons.2 ⟨⟨ha, by omega⟩, (List.forall_mem_cons.2 ⟨⟨hb, by omega⟩, (fun _ h => by cases h)⟩)⟩) (by simp)
  obtain ⟨K4, h4⟩ := ref_eq (a ++ b) hab lab
  simp only [List.map_cons, List.map_nil, List.flatten_cons, List.flatten_nil, List.append_nil] at h1 h2
  refine ⟨(K0 + K1 + K2 + K4 + 5) + b.length + 1 + 1, ?_⟩
  rw [if_neg c1, decide_eq_false c2]
  simp only [mutoscopelaw01_CrcNext.j0]
  rw [if_neg (by simp), h1 _ (by omega), Option.bind_some]
  have hend : ∀ k, K0 + K1 + K2 + K4 + 5 ≤ k → mutoscopelaw01_CrcNext.l0 (k + 1) (ints a) (ints b) ((run (run 4294967295 a) b ^^^ 4294967295 : Nat) : Int) (ints b) ((ints b).length : Int) (b.length : Int) = some true := by
    intro k hk
    have e : run (run 4294967295 a) b ^^^ 4294967295 = crc (a ++ b) := by unfold crc; rw [run_append]
    simp only [mutoscopelaw01_CrcNext.l0]
    rw [if_neg (by rw [ints_len]; omega), e, h2 k (by omega), Option.bind_some, if_pos rfl, str_size, str_size, if_pos (by omega), str_append, h4 k (by omega), Option.bind_some, if_pos rfl, h0 k (by omega)]
    rfl
  have := next_l0 a b hb (by omega) (K0 + K1 + K2 + K4 + 5) (by omega) true b (run 4294967295 a) 0 (K0 + K1 + K2 + K4 + 5 + b.length + 1) (Nat.zero_le _) rfl (run_lt a _ (by omega) ha) hend (by omega)
  rw [ints_len] at this ⊢
  exact this
theorem bytes_of {l : List Int} (h : ∀ n ∈ l, (Lit.int .u8 n).wf = true) : ∀ n ∈ l, 0 ≤ n ∧ n < 256 := by
  intro n hn
  have := h n hn
  simp only [Lit.wf, Bool.and_eq_true, decide_eq_true_eq] at this
  have e1 : IntKind.u8.min = 0 := by rfl
  have e2 : IntKind.u8.max = 255 := by rfl
  omega
theorem CrcNext (l0 l1 : List Int) (w0 : ∀ n ∈ l0, (Lit.int .u8 n).wf = true) (w1 : ∀ n ∈ l1, (Lit.int .u8 n).wf = true) : ∃ k, mutoscopelaw01_CrcNext.f k l0 l1 = some true := by
  obtain ⟨a, rfl, ha⟩ := ints_of l0 (bytes_of w0)
  obtain ⟨b, rfl, hb⟩ := ints_of l1 (bytes_of w1)
  exact CrcNext_nat a b ha hb

end Go.Proofs.Ytbkjkjcpclaijaa.PureCrcNext
