/- rec.Bytes of any records, whole: what the program's own function answers -/
import Derived.Test.YtcpakbppnkknlaaQRecBytesc
import Derived.Laws.BitsLemmas
import Derived.Laws.Strings
namespace Go.Proofs.Ytcpakbppnkknlaa.PureRecBytes
open Go Go.RowKit Go.Proofs.Ytcpakbppnkknlaa.QRecBytes Go.Proofs.YtcpakbppnkknlaaW.PrintWords Go.Proofs.YtcpakbppnkknlaaW.PrintLast Go.Proofs.YtcpakbppnkknlaaW.PrintMore
/-- One step of the sum, on a number: the message's later bits come down. -/
def U (x : Nat) : Nat := if x % 2 = 1 then (x / 2) ^^^ 3988292384 else x / 2
def Un : Nat → Nat → Nat
  | 0, x => x
  | n + 1, x => Un n (U x)
theorem xor_cancel (a b p : Nat) : (a ^^^ p) ^^^ (b ^^^ p) = a ^^^ b := by
  apply Nat.eq_of_testBit_eq; intro i; simp only [Nat.testBit_xor]; cases a.testBit i <;> cases b.testBit i <;> cases p.testBit i <;> rfl
theorem xor_left (a b p : Nat) : (a ^^^ p) ^^^ b = (a ^^^ b) ^^^ p := by
  apply Nat.eq_of_testBit_eq; intro i; simp only [Nat.testBit_xor]; cases a.testBit i <;> cases b.testBit i <;> cases p.testBit i <;> rfl
theorem xor_right (a b p : Nat) : a ^^^ (b ^^^ p) = (a ^^^ b) ^^^ p := by
  apply Nat.eq_of_testBit_eq; intro i; simp only [Nat.testBit_xor]; cases a.testBit i <;> cases b.testBit i <;> cases p.testBit i <;> rfl
theorem xor_half (a b : Nat) : (a ^^^ b) / 2 = a / 2 ^^^ b / 2 := by
  apply Nat.eq_of_testBit_eq; intro i; simp only [Nat.testBit_div_two, Nat.testBit_xor]
theorem odd_bit (a : Nat) : a % 2 = 1 ↔ a.testBit 0 = true := by simp [Nat.testBit_zero]
theorem U_xor (a b : Nat) : U (a ^^^ b) = U a ^^^ U b := by
  unfold U
  have h : ((a ^^^ b) % 2 = 1) ↔ ¬ ((a % 2 = 1) ↔ (b % 2 = 1)) := by
    simp only [odd_bit, Nat.testBit_xor]; cases a.testBit 0 <;> cases b.testBit 0 <;> simp
  rw [xor_half]
  by_cases ha : a % 2 = 1 <;> by_cases hb : b % 2 = 1
  · rw [if_neg (by rw [h]; simp [ha, hb]), if_pos ha, if_pos hb, xor_cancel]
  · rw [if_pos (by rw [h]; simp [ha, hb]), if_pos ha, if_neg hb, xor_left]
  · rw [if_pos (by rw [h]; simp [ha, hb]), if_neg ha, if_pos hb, xor_right]
  · rw [if_neg (by rw [h]; simp [ha, hb]), if_neg ha, if_neg hb]
theorem Un_xor : ∀ (n a b : Nat), Un n (a ^^^ b) = Un n a ^^^ Un n b
  | 0, _, _ => rfl
  | n + 1, a, b => by rw [Un, Un, Un, U_xor, Un_xor n]
theorem Un_add : ∀ (m n x : Nat), Un (m + n) x = Un n (Un m x)
  | 0, n, x => by rw [Nat.zero_add]; rfl
  | m + 1, n, x => by rw [Nat.add_right_comm, Un, Un, Un_add m]
theorem U_even (x : Nat) : U (2 * x) = x := by unfold U; rw [if_neg (by omega)]; omega
theorem Un_shift : ∀ (n x : Nat), Un n (2 ^ n * x) = x
  | 0, x => by simp [Un]
  | n + 1, x => by rw [Un, Nat.pow_succ, Nat.mul_comm (2 ^ n) 2, Nat.mul_assoc, U_even, Un_shift n]
theorem U_zero : U 0 = 0 := by unfold U; simp
theorem Un_zero : ∀ n, Un n 0 = 0
  | 0 => rfl
  | n + 1 => by rw [Un, U_zero, Un_zero n]
theorem U_lt {x : Nat} (h : x < 4294967296) : U x < 4294967296 := by
  unfold U
  split
  · exact Nat.xor_lt_two_pow (n := 32) (by omega) (by omega)
  · omega
theorem U_ne {x : Nat} (h : x < 4294967296) (h0 : x ≠ 0) : U x ≠ 0 := by
  unfold U
  split
  · intro e
    have : x / 2 = 3988292384 := by
      have e2 := congrArg (fun y => y ^^^ 3988292384) e
      simp only [Nat.xor_assoc, Nat.xor_self, Nat.xor_zero, Nat.zero_xor] at e2
      exact e2
    omega
  · omega
theorem Un_lt : ∀ (n : Nat) {x : Nat}, x < 4294967296 → Un n x < 4294967296
  | 0, _, h => h
  | n + 1, _, h => Un_lt n (U_lt h)
theorem Un_ne : ∀ (n : Nat) {x : Nat}, x < 4294967296 → x ≠ 0 → Un n x ≠ 0
  | 0, _, _, h => h
  | n + 1, _, h, h0 => Un_ne n (U_lt h) (U_ne h h0)
/-- A part below a power of two, and a part above: added, or exclusively ored. -/
theorem add_xor (i a b : Nat) (h : b < 2 ^ i) : 2 ^ i * a + b = b ^^^ (2 ^ i * a) := by
  apply Nat.eq_of_testBit_eq; intro j
  rw [Nat.testBit_two_pow_mul_add a h, Nat.testBit_xor]
  have h2 : (2 ^ i * a).testBit j = if j < i then false else a.testBit (j - i) := by
    have := Nat.testBit_two_pow_mul_add a (Nat.two_pow_pos i) j
    rw [Nat.add_zero] at this
    rw [this]; simp
  rw [h2]
  by_cases hj : j < i
  · rw [if_pos hj, if_pos hj]; simp
  · rw [if_neg hj, if_neg hj, Nat.testBit_lt_two_pow (Nat.lt_of_lt_of_le h (Nat.pow_le_pow_right (by decide) (by omega)))]; simp
theorem Un_split (n x : Nat) : Un n x = Un n (x % 2 ^ n) ^^^ x / 2 ^ n := by
  have h := Nat.div_add_mod x (2 ^ n)
  have h2 : Un n x = Un n (2 ^ n * (x / 2 ^ n) + x % 2 ^ n) := by rw [h]
  rw [h2, add_xor n _ _ (Nat.mod_lt _ (Nat.two_pow_pos n)), Un_xor, Un_shift]
/-- The state behind bytes. -/
def run (r : Nat) (l : List Nat) : Nat := l.foldl (fun r b => Un 8 (r ^^^ b)) r
/-- Bytes as one number, the first the lowest. -/
def num : List Nat → Nat
  | [] => 0
  | b :: l => b + 256 * num l
theorem run_num : ∀ (l : List Nat) (r : Nat), (∀ b ∈ l, b < 256) → run r l = Un (8 * l.length) (r ^^^ num l)
  | [], r, _ => by simp [run, Un, num]
  | b :: l, r, h => by
    have hb : b < 2 ^ 8 := h b (List.mem_cons_self ..)
    show run (Un 8 (r ^^^ b)) l = _
    rw [run_num l _ (fun x hx => h x (List.mem_cons_of_mem _ hx)), List.length_cons, Nat.mul_add, Nat.mul_one, Nat.add_comm (8 * l.length) 8, Un_add, num]
    congr 1
    have : b + 256 * num l = 2 ^ 8 * num l + b := by omega
    rw [this, add_xor 8 _ _ hb, ← Nat.xor_assoc, Un_xor 8 (r ^^^ b), Un_shift]
theorem run_append (r : Nat) (l m : List Nat) : run r (l ++ m) = run (run r l) m := by unfold run; rw [List.foldl_append]
theorem run_lt : ∀ (l : List Nat) (r : Nat), r < 4294967296 → (∀ b ∈ l, b < 256) → run r l < 4294967296
  | [], _, h, _ => h
  | b :: l, r, h, hb => run_lt l _ (Un_lt 8 (Nat.xor_lt_two_pow (n := 32) (by omega) (by have := hb b (List.mem_cons_self ..); omega))) (fun x hx => hb x (List.mem_cons_of_mem _ hx))
theorem wrap_in {n : Int} (h : -9223372036854775808 ≤ n) (h' : n ≤ 9223372036854775807) : wrap64 n = n := by unfold wrap64; omega
theorem wraps_u32 (n : Int) (h₀ : 0 ≤ n) (h₁ : n < 2 ^ 32) : IntKind.u32.wrap n = n := by rw [IntKind.wrap_u32]; omega
theorem xor32 (a b : Nat) (ha : a < 4294967296) (hb : b < 4294967296) : Go.bits .xor .u32 (a : Int) (b : Int) = ((a ^^^ b : Nat) : Int) := by
  have hx : a ^^^ b < 2 ^ 32 := Nat.xor_lt_two_pow (n := 32) (by omega) (by omega)
  have ha' : a % 2 ^ 32 = a := Nat.mod_eq_of_lt (by omega)
  have hb' : b % 2 ^ 32 = b := Nat.mod_eq_of_lt (by omega)
  have hT : (BitVec.ofNat 32 a ^^^ BitVec.ofNat 32 b).toNat = a ^^^ b := by rw [BitVec.toNat_xor, BitVec.toNat_ofNat, BitVec.toNat_ofNat, ha', hb']
  show IntKind.u32.wrap (((BitVec.ofInt 32 (a : Int) ^^^ BitVec.ofInt 32 (b : Int)).toNat : Nat) : Int) = _
  rw [BitVec.ofInt_natCast, BitVec.ofInt_natCast, hT]
  exact wraps_u32 _ (Int.natCast_nonneg _) (by exact_mod_cast hx)
theorem xor8 (a b : Nat) (ha : a < 256) (hb : b < 256) : Go.bits .xor .u8 (a : Int) (b : Int) = ((a ^^^ b : Nat) : Int) := by
  have hx : a ^^^ b < 2 ^ 8 := Nat.xor_lt_two_pow (n := 8) (by omega) (by omega)
  have ha' : a % 2 ^ 8 = a := Nat.mod_eq_of_lt (by omega)
  have hb' : b % 2 ^ 8 = b := Nat.mod_eq_of_lt (by omega)
  have hT : (BitVec.ofNat 8 a ^^^ BitVec.ofNat 8 b).toNat = a ^^^ b := by rw [BitVec.toNat_xor, BitVec.toNat_ofNat, BitVec.toNat_ofNat, ha', hb']
  show IntKind.u8.wrap (((BitVec.ofInt 8 (a : Int) ^^^ BitVec.ofInt 8 (b : Int)).toNat : Nat) : Int) = _
  rw [BitVec.ofInt_natCast, BitVec.ofInt_natCast, hT]
  exact Go.wraps_u8 _ (Int.natCast_nonneg _) (by exact_mod_cast hx)
theorem and1 (a : Nat) (ha : a < 4294967296) : Go.bits .and .u32 (a : Int) 1 = ((a % 2 : Nat) : Int) := by
  have h := (Go.bits_nat .u32 32 (by decide) wraps_u32 a 1 ha (by decide)).1
  rw [Nat.and_one_is_mod] at h
  exact h
theorem and15 (a : Nat) (ha : a < 4294967296) : Go.bits .and .u32 (a : Int) 15 = ((a % 16 : Nat) : Int) := by
  have h := (Go.bits_nat .u32 32 (by decide) wraps_u32 a 15 ha (by decide)).1
  rw [show (15 : Nat) = 2 ^ 4 - 1 by decide, Nat.and_two_pow_sub_one_eq_mod] at h
  exact h
theorem table_l : ∀ (j k x : Nat) (i : Int), i = 4 - (j : Int) → j ≤ 4 → x < 4294967296 → j < k → crc_table.l0 k (x : Int) i = some ((Un j x : Nat) : Int) := by
  intro j
  induction j with
  | zero =>
    intro k x i hi _ _ hk
    obtain ⟨k, rfl⟩ : ∃ m, k = m + 1 := ⟨k - 1, by omega⟩
    simp only [crc_table.l0]; rw [if_neg (by omega)]; rfl
  | succ j ih =>
    intro k x i hi hj hx hk
    obtain ⟨k, rfl⟩ : ∃ m, k = m + 1 := ⟨k - 1, by omega⟩
    simp only [crc_table.l0]
    rw [if_pos (by omega), wrap_in (n := i + 1) (by omega) (by omega), and1 x hx, show ((x : Int) / 2) = ((x / 2 : Nat) : Int) by omega]
    have hU : Un (j + 1) x = Un j (U x) := rfl
    rw [hU]
    by_cases h : x % 2 = 1
    · rw [if_pos (by omega)]
      have e : Go.bits .xor .u32 ((x / 2 : Nat) : Int) 3988292384 = ((U x : Nat) : Int) := by
        unfold U; rw [if_pos h]; exact xor32 _ 3988292384 (by omega) (by omega)
      rw [e]
      exact ih k _ _ (by omega) (by omega) (U_lt hx) (by omega)
    · rw [if_neg (by omega)]
      have e : ((x / 2 : Nat) : Int) = ((U x : Nat) : Int) := by unfold U; rw [if_neg h]
      rw [e]
      exact ih k _ _ (by omega) (by omega) (U_lt hx) (by omega)
theorem table_eq (k x : Nat) (hx : x < 4294967296) (hk : 5 ≤ k) : crc_table.f k (x : Int) = some ((Un 4 x : Nat) : Int) := table_l 4 k x 0 (by omega) (by omega) hx (by omega)
theorem step_eq (k r b : Nat) (hr : r < 4294967296) (hb : b < 256) (hk : 5 ≤ k) : crc_step.f k (r : Int) (b : Int) = some ((Un 8 (r ^^^ b) : Nat) : Int) := by
  have hx : r ^^^ b < 4294967296 := Nat.xor_lt_two_pow (n := 32) (by omega) (by omega)
  have h4 : ∀ y : Nat, Un 4 y = Un 4 (y % 16) ^^^ y / 16 := fun y => Un_split 4 y
  have ht : ∀ y : Nat, Un 4 (y % 16) < 4294967296 := fun y => Un_lt 4 (by omega)
  have hs : ∀ y : Nat, y < 4294967296 → y / 16 ^^^ Un 4 (y % 16) = Un 4 y := fun y _ => by rw [h4 y, Nat.xor_comm]
  unfold crc_step.f
  rw [show ((b : Int) % 4294967296) = (b : Int) by omega, xor32 r b hr (by omega), and15 _ hx, table_eq k _ (by omega) hk, Option.bind_some,
    show (((r ^^^ b : Nat) : Int) / 16) = (((r ^^^ b) / 16 : Nat) : Int) by omega, xor32 _ _ (by omega) (ht _), hs _ hx]
  have hy : Un 4 (r ^^^ b) < 4294967296 := Un_lt 4 hx
  rw [and15 _ hy, table_eq k _ (by omega) hk, Option.bind_some, show (((Un 4 (r ^^^ b) : Nat) : Int) / 16) = ((Un 4 (r ^^^ b) / 16 : Nat) : Int) by omega, xor32 _ _ (by omega) (ht _), hs _ hy, ← Un_add 4 4]
/-- Numbers, as the printed functions hold them. -/
def ints (l : List Nat) : List Int := l.map (fun n : Nat => (n : Int))
theorem ints_len (l : List Nat) : (ints l).length = l.length := by simp [ints]
theorem ints_of (l : List Int) (h : ∀ n ∈ l, 0 ≤ n ∧ n < 256) : ∃ m : List Nat, l = ints m ∧ ∀ b ∈ m, b < 256 := by
  refine ⟨l.map Int.toNat, ?_, ?_⟩
  · unfold ints
    rw [List.map_map]
    conv => lhs; rw [← List.map_id l]
    apply List.map_congr_left
    intro a ha
    have := h a ha
    simp; omega
  · intro b hb
    obtain ⟨a, ha, rfl⟩ := List.mem_map.1 hb
    have := h a ha
    omega
theorem ints_rd (l : List Nat) (i : Nat) (h : i < l.length) : rd (ints l) (i : Int) = ((l[i] : Nat) : Int) := by
  unfold rd ints
  rw [Int.toNat_natCast, List.getD_eq_getElem?_getD, List.getElem?_map, List.getElem?_eq_getElem h]; rfl
theorem sum_l1 (ls : List (List Int)) (i : Int) (row : List Nat) (n : Int) (hrow : ∀ b ∈ row, b < 256) (hlen : row.length < 4611686018427387904) (K : Nat) (hK : 5 ≤ K) (R : Int) :
    ∀ (t : List Nat) (x j k : Nat), j ≤ row.length → row.drop j = t → x < 4294967296 → (∀ k, K ≤ k → crc_Sum.l0 k ((run x t : Nat) : Int) ls n (wrap64 (i + 1)) = some R) → K + t.length + 1 ≤ k →
    crc_Sum.l1 k (x : Int) ls n i (ints row) ((ints row).length : Int) (j : Int) = some R := by
  intro t
  induction t with
  | nil =>
    intro x j k hj ht hx h0 hk
    have := congrArg List.length ht
    rw [List.length_drop, List.length_nil] at this
    obtain ⟨k, rfl⟩ : ∃ m, k = m + 1 := ⟨k - 1, by omega⟩
    simp only [crc_Sum.l1]; rw [if_neg (by rw [ints_len]; omega)]
    exact h0 k (by simp only [List.length_nil] at hk; omega)
  | cons b t ih =>
    intro x j k hj ht hx h0 hk
    have hlt : j < row.length := by
      have := congrArg List.length ht
      rw [List.length_drop, List.length_cons] at this; omega
    have hd := List.drop_eq_getElem_cons hlt
    rw [ht] at hd
    injection hd with hd1 hd2
    have hb : b < 256 := by rw [hd1]; exact hrow _ (List.getElem_mem hlt)
    rw [List.length_cons] at hk
    obtain ⟨k, rfl⟩ : ∃ m, k = m + 1 := ⟨k - 1, by omega⟩
    have hr := ints_rd row j hlt
    rw [← hd1] at hr
    simp only [crc_Sum.l1]
    rw [if_pos (by rw [ints_len]; omega), if_pos (by omega), if_pos (by rw [ints_len]; omega), hr, step_eq k x b hx hb (by omega), Option.bind_some, wrap_in (n := (j : Int) + 1) (by omega) (by omega)]
    have hx' : Un 8 (x ^^^ b) < 4294967296 := Un_lt 8 (Nat.xor_lt_two_pow (n := 32) (by omega) (by omega))
    exact ih (Un 8 (x ^^^ b)) (j + 1) k (by omega) hd2.symm hx' h0 (by omega)
theorem sum_l0 (ls : List (List Nat)) (hls : ∀ row ∈ ls, (∀ b ∈ row, b < 256) ∧ row.length < 4611686018427387904) (hn : ls.length < 4611686018427387904) :
    ∀ (t : List (List Nat)) (x i : Nat), i ≤ ls.length → ls.drop i = t → x < 4294967296 → ∃ K, ∀ k, K ≤ k →
    crc_Sum.l0 k (x : Int) (ls.map ints) (ls.length : Int) (i : Int) = some ((run x t.flatten ^^^ 4294967295 : Nat) : Int) := by
  intro t
  induction t with
  | nil =>
    intro x i hi ht hx
    refine ⟨1, fun k hk => ?_⟩
    have := congrArg List.length ht
    rw [List.length_drop, List.length_nil] at this
    obtain ⟨k, rfl⟩ : ∃ m, k = m + 1 := ⟨k - 1, by omega⟩
    simp only [crc_Sum.l0]; rw [if_neg (by omega)]
    have := xor32 x 4294967295 hx (by omega)
    rw [show ((4294967295 : Nat) : Int) = 4294967295 from rfl] at this
    rw [this]; rfl
  | cons row t ih =>
    intro x i hi ht hx
    have hlt : i < ls.length := by
      have := congrArg List.length ht
      rw [List.length_drop, List.length_cons] at this; omega
    have hd := List.drop_eq_getElem_cons hlt
    rw [ht] at hd
    injection hd with hd1 hd2
    have hrow := hls row (by rw [hd1]; exact List.getElem_mem hlt)
    obtain ⟨K, hK⟩ := ih (run x row) (i + 1) (by omega) hd2.symm (run_lt row x hx hrow.1)
    refine ⟨K + 5 + row.length + 2, fun k hk => ?_⟩
    obtain ⟨k, rfl⟩ : ∃ m, k = m + 1 := ⟨k - 1, by omega⟩
    have hr : rd_L2 (ls.map ints) (i : Int) = ints row := by
      unfold rd_L2
      rw [Int.toNat_natCast, List.getD_eq_getElem?_getD, List.getElem?_map, List.getElem?_eq_getElem hlt, hd1]; rfl
    simp only [crc_Sum.l0]
    rw [if_pos (by omega), if_pos (by omega), if_pos (by rw [List.length_map]; omega), hr]
    refine sum_l1 (ls.map ints) i row ls.length hrow.1 hrow.2 (K + 5) (by omega) _ row x 0 k (Nat.zero_le _) rfl hx (fun k' hk' => ?_) (by omega)
    rw [wrap_in (n := (i : Int) + 1) (by omega) (by omega)]
    have := hK k' (by omega)
    rw [show (((i + 1 : Nat)) : Int) = (i : Int) + 1 by omega] at this
    rw [this, List.flatten_cons, run_append]
/-- The sum of all bytes, as a number. -/
def crc (l : List Nat) : Nat := run 4294967295 l ^^^ 4294967295
theorem sum_eq (ls : List (List Nat)) (hls : ∀ row ∈ ls, (∀ b ∈ row, b < 256) ∧ row.length < 4611686018427387904) (hn : ls.length < 4611686018427387904) :
    ∃ K, ∀ k, K ≤ k → crc_Sum.f k (ls.map ints) = some ((crc ls.flatten : Nat) : Int) := by
  obtain ⟨K, hK⟩ := sum_l0 ls hls hn ls 4294967295 0 (Nat.zero_le _) rfl (by omega)
  refine ⟨K, fun k hk => ?_⟩
  unfold crc_Sum.f
  rw [List.length_map]
  exact hK k hk
theorem bt_str (l : List Nat) (hl : ∀ b ∈ l, b < 256) (i : Nat) (h : i < l.length) : bt (strOfNums (ints l)) (i : Int) = ((l[i] : Nat) : Int) := by
  have hb : l[i] < 256 := hl _ (List.getElem_mem h)
  have hs : i < (strOfNums (ints l)).size := by simp [strOfNums, ints, ByteArray.size, h]
  unfold bt
  rw [Int.toNat_natCast, dif_pos hs]
  have e : (strOfNums (ints l))[i] = UInt8.ofNat l[i] := by
    show (strOfNums (ints l)).data[i] = _
    simp [strOfNums, ints]
  rw [e]
  simp
  omega
theorem str_size (l : List Nat) : (strOfNums (ints l)).size = l.length := by simp [strOfNums, ints, ByteArray.size]
theorem str_append (l m : List Nat) : strOfNums (ints l) ++ strOfNums (ints m) = strOfNums (ints (l ++ m)) := by
  apply ByteArray.ext
  simp [strOfNums, ints]
theorem ref_l1 (s : ByteArray) (i : Int) (K : Nat) (R : Int) : ∀ (j x k : Nat) (c : Int), c = 8 - (j : Int) → j ≤ 8 → x < 4294967296 → (∀ k, K ≤ k → mutoscoperef01_Sum.l0 k s ((Un j x : Nat) : Int) (wrap64 (i + 1)) = some R) → K + j + 1 ≤ k →
    mutoscoperef01_Sum.l1 k s (x : Int) i c = some R := by
  intro j
  induction j with
  | zero =>
    intro x k c hc _ _ h0 hk
    obtain ⟨k, rfl⟩ : ∃ m, k = m + 1 := ⟨k - 1, by omega⟩
    simp only [mutoscoperef01_Sum.l1]; rw [if_neg (by omega)]
    exact h0 k (by omega)
  | succ j ih =>
    intro x k c hc hj hx h0 hk
    obtain ⟨k, rfl⟩ : ∃ m, k = m + 1 := ⟨k - 1, by omega⟩
    simp only [mutoscoperef01_Sum.l1]
    rw [if_pos (by omega), wrap_in (n := c + 1) (by omega) (by omega), Int.tmod_eq_emod_of_nonneg (by omega), Int.tdiv_eq_ediv_of_nonneg (by omega), show ((x : Int) / 2 % 4294967296) = ((x / 2 : Nat) : Int) by omega]
    by_cases h : x % 2 = 1
    · rw [if_pos (by omega)]
      have e : Go.bits .xor .u32 ((x / 2 : Nat) : Int) 3988292384 = ((U x : Nat) : Int) := by
        unfold U; rw [if_pos h]; exact xor32 _ 3988292384 (by omega) (by omega)
      rw [e]
      exact ih _ k _ (by omega) (by omega) (U_lt hx) h0 (by omega)
    · rw [if_neg (by omega)]
      have e : ((x / 2 : Nat) : Int) = ((U x : Nat) : Int) := by unfold U; rw [if_neg h]
      rw [e]
      exact ih _ k _ (by omega) (by omega) (U_lt hx) h0 (by omega)
theorem ref_l0 (l : List Nat) (hl : ∀ b ∈ l, b < 256) (hn : l.length < 4611686018427387904) : ∀ (t : List Nat) (x i : Nat), i ≤ l.length → l.drop i = t → x < 4294967296 → ∃ K, ∀ k, K ≤ k →
    mutoscoperef01_Sum.l0 k (strOfNums (ints l)) (x : Int) (i : Int) = some ((run x t ^^^ 4294967295 : Nat) : Int) := by
  intro t
  induction t with
  | nil =>
    intro x i hi ht hx
    refine ⟨1, fun k hk => ?_⟩
    have := congrArg List.length ht
    rw [List.length_drop, List.length_nil] at this
    obtain ⟨k, rfl⟩ : ∃ m, k = m + 1 := ⟨k - 1, by omega⟩
    simp only [mutoscoperef01_Sum.l0]; rw [if_neg (by rw [str_size]; omega)]
    have := xor32 x 4294967295 hx (by omega)
    rw [show ((4294967295 : Nat) : Int) = 4294967295 from rfl] at this
    rw [this]; rfl
  | cons b t ih =>
    intro x i hi ht hx
    have hlt : i < l.length := by
      have := congrArg List.length ht
      rw [List.length_drop, List.length_cons] at this; omega
    have hd := List.drop_eq_getElem_cons hlt
    rw [ht] at hd
    injection hd with hd1 hd2
    have hb : b < 256 := by rw [hd1]; exact hl _ (List.getElem_mem hlt)
    have hr := bt_str l hl i hlt
    rw [← hd1] at hr
    have hxb : x ^^^ b < 4294967296 := Nat.xor_lt_two_pow (n := 32) (by omega) (by omega)
    obtain ⟨K, hK⟩ := ih (Un 8 (x ^^^ b)) (i + 1) (by omega) hd2.symm (Un_lt 8 hxb)
    refine ⟨K + 10, fun k hk => ?_⟩
    obtain ⟨k, rfl⟩ : ∃ m, k = m + 1 := ⟨k - 1, by omega⟩
    simp only [mutoscoperef01_Sum.l0]
    rw [if_pos (by rw [str_size]; omega), if_pos (by omega), hr, show ((b : Int) % 4294967296) = (b : Int) by omega, xor32 x b hx (by omega)]
    refine ref_l1 _ i K _ 8 _ k 0 (by omega) (by omega) hxb (fun k' hk' => ?_) (by omega)
    rw [wrap_in (n := (i : Int) + 1) (by omega) (by omega)]
    exact hK k' hk'
theorem ref_eq (l : List Nat) (hl : ∀ b ∈ l, b < 256) (hn : l.length < 4611686018427387904) : ∃ K, ∀ k, K ≤ k → mutoscoperef01_Sum.f k (strOfNums (ints l)) = some ((crc l : Nat) : Int) :=
  ref_l0 l hl hn l 4294967295 0 (Nat.zero_le _) rfl (by omega)
theorem str_list (l : List Nat) : (strOfNums (ints l)).toList = l.map UInt8.ofNat := by
  rw [ByteArray.toList_eq]
  simp [strOfNums, ints]
theorem u8_inj : ∀ (l m : List Nat), (∀ b ∈ l, b < 256) → (∀ b ∈ m, b < 256) → l.map UInt8.ofNat = m.map UInt8.ofNat → l = m
  | [], [], _, _, _ => rfl
  | [], _ :: _, _, _, h => by simp at h
  | _ :: _, [], _, _, h => by simp at h
  | a :: l, b :: m, hl, hm, h => by
    simp only [List.map_cons, List.cons.injEq] at h
    have ha := hl a (List.mem_cons_self ..)
    have hb := hm b (List.mem_cons_self ..)
    have e : a = b := by
      have := congrArg UInt8.toNat h.1
      simp at this
      omega
    rw [e, u8_inj l m (fun x hx => hl x (List.mem_cons_of_mem _ hx)) (fun x hx => hm x (List.mem_cons_of_mem _ hx)) h.2]
theorem equal_eq (l m : List Nat) (hl : ∀ b ∈ l, b < 256) (hm : ∀ b ∈ m, b < 256) : bytes_Equal.f (ints l) (ints m) = some (decide (l = m)) := by
  unfold bytes_Equal.f
  rw [str_list, str_list]
  congr 1
  by_cases h : l = m
  · subst h; simp
  · rw [decide_eq_false h, beq_eq_false_iff_ne]
    exact fun e => h (u8_inj l m hl hm e)
theorem wraps_i64 (n : Int) (h₀ : 0 ≤ n) (h₁ : n < 2 ^ 62) : IntKind.i64.wrap n = n := by rw [IntKind.wrap_i64]; omega
theorem or_low (i a b : Nat) (ha : a < 2 ^ i) (hb : 2 ^ i * b < 4611686018427387904) (ha' : a < 4611686018427387904) : Go.bits .or .i64 (a : Int) ((2 ^ i * b : Nat) : Int) = ((a + 2 ^ i * b : Nat) : Int) := by
  rw [(Go.bits_nat .i64 62 (by decide) wraps_i64 a (2 ^ i * b) ha' hb).2, Nat.or_comm, ← Nat.two_pow_add_eq_or_of_lt ha b, Nat.add_comm]
theorem inv8 : ∀ x : Nat, x < 256 → Go.bits .xor .u8 255 (x : Int) = ((255 - x : Nat) : Int) := by
  intro x hx
  have h := xor8 255 x (by omega) hx
  have h2 : ∀ y, y < 256 → 255 ^^^ y = 255 - y := by decide +kernel
  rw [h2 x hx] at h
  exact h
theorem begins_eq (a b c : Nat) (ha : a < 256) (hb : b < 256) (hc : c < 256) : rec_begins.f ((a + 256 * b + 65536 * c : Nat) : Int) = some (ints [a, b, c, 255 - a, 255 - b, 255 - c]) := by
  unfold rec_begins.f
  have e1 : (((a + 256 * b + 65536 * c : Nat) : Int)) % 256 = (a : Int) := by omega
  have e2 : (((a + 256 * b + 65536 * c : Nat) : Int)) / 256 % 256 = (b : Int) := by omega
  have e3 : (((a + 256 * b + 65536 * c : Nat) : Int)) / 65536 % 256 = (c : Int) := by omega
  rw [e1, e2, e3, inv8 a ha, inv8 b hb, inv8 c hc]
  rfl
/-- A sum's four bytes. -/
def tail4 (x : Nat) : List Nat := [x % 256, x / 256 % 256, x / 65536 % 256, x / 16777216 % 256]
theorem tail4_lt (x : Nat) : ∀ b ∈ tail4 x, b < 256 := by
  intro b hb
  simp only [tail4, List.mem_cons, List.not_mem_nil, or_false] at hb
  omega
theorem ends_eq (l : List Nat) (hl : ∀ b ∈ l, b < 256) (hn : l.length < 4611686018427387904) : ∃ K, ∀ k, K ≤ k → rec_ends.f k (ints l) = some (ints (tail4 (crc l))) := by
  obtain ⟨K, hK⟩ := sum_eq [l] (List.forall_mem_cons.2 ⟨⟨hl, hn⟩, (fun _ h => by cases h)⟩) (by simp)
  simp only [List.map_cons, List.map_nil, List.flatten_cons, List.flatten_nil, List.append_nil] at hK
  refine ⟨K, fun k hk => ?_⟩
  unfold rec_ends.f
  rw [hK k hk, Option.bind_some]
  simp only [tail4, ints, List.map_cons, List.map_nil]
  congr 1
def dlen (m : List Nat) : Nat := m.getD 0 0 + 256 * m.getD 1 0 + 65536 * m.getD 2 0
/-- The record with which bytes begin: kind, data, size, an error's number. -/
def nextS (m : List Nat) : Nat × List Nat × Nat × Nat :=
  if m.length < 6 then (0, [], 0, 16)
  else if ¬ (m.getD 0 0 + m.getD 3 0 = 255 ∧ m.getD 1 0 + m.getD 4 0 = 255 ∧ m.getD 2 0 + m.getD 5 0 = 255) then (0, [], 0, 10)
  else if dlen m > 1048576 then (0, [], 0, 17)
  else if m.length < dlen m + 11 then (0, [], 0, 16)
  else if tail4 (crc (m.take (dlen m + 7))) ≠ (m.take (dlen m + 11)).drop (dlen m + 7) then (0, [], 0, 18)
  else (m.getD 6 0, (m.take (dlen m + 7)).drop 7, dlen m + 11, 0)
theorem ints_take (m : List Nat) (n : Nat) : (ints m).take n = ints (m.take n) := by unfold ints; rw [List.map_take]
theorem ints_drop (m : List Nat) (n : Nat) : (ints m).drop n = ints (m.drop n) := by unfold ints; rw [List.map_drop]
theorem ints_nil : ints [] = [] := rfl
theorem rd_ints (m : List Nat) (i : Int) (j : Nat) (h : i = (j : Int)) : rd (ints m) i = ((m.getD j 0 : Nat) : Int) := by
  subst h
  unfold rd ints
  rw [Int.toNat_natCast, List.getD_eq_getElem?_getD, List.getElem?_map, List.getD_eq_getElem?_getD]
  cases m[j]? <;> rfl
theorem getD_lt (m : List Nat) (hm : ∀ b ∈ m, b < 256) (j : Nat) : m.getD j 0 < 256 := by
  rw [List.getD_eq_getElem?_getD]
  cases h : m[j]? with
  | none => simp
  | some x => exact hm x (List.mem_of_getElem? h)
theorem take6 (m : List Nat) (h : 6 ≤ m.length) : m.take 6 = [m.getD 0 0, m.getD 1 0, m.getD 2 0, m.getD 3 0, m.getD 4 0, m.getD 5 0] := by
  match m, h with
  | a :: b :: c :: d :: e :: f :: t, _ => rfl
theorem head_eq (a b c d e f : Nat) (ha : a < 256) (hb : b < 256) (hc : c < 256) : [a, b, c, 255 - a, 255 - b, 255 - c] = [a, b, c, d, e, f] ↔ (a + d = 255 ∧ b + e = 255 ∧ c + f = 255) := by
  simp only [List.cons.injEq, and_true, true_and]
  omega
theorem mem_take {m : List Nat} {n : Nat} (hm : ∀ b ∈ m, b < 256) : ∀ b ∈ m.take n, b < 256 := fun b hb => hm b (List.mem_of_mem_take hb)
theorem mem_drop {m : List Nat} {n : Nat} (hm : ∀ b ∈ m, b < 256) : ∀ b ∈ m.drop n, b < 256 := fun b hb => hm b (List.mem_of_mem_drop hb)
theorem size_eq (n : Nat) (h : n ≤ 1048576) : rec_Size.f (n : Int) = some ((n + 11 : Nat) : Int) := by
  unfold rec_Size.f
  rw [if_neg (by omega), if_neg (by omega), wrap_in (n := 7 + (n : Int)) (by omega) (by omega), wrap_in (n := 7 + (n : Int) + 4) (by omega) (by omega)]
  congr 1; omega
theorem clone_eq (m : List Nat) (h : m.length < 140737488355328) : bytes_Clone.f (ints m) = some (ints m) := by
  unfold bytes_Clone.f; rw [ints_len, if_pos h]
theorem next_eq (m : List Nat) (hm : ∀ b ∈ m, b < 256) (hl : m.length < 4611686018427387) : ∃ K, ∀ k, K ≤ k → rec_Next.f k (ints m) = some ((((nextS m).1 : Nat) : Int), ints (nextS m).2.1, (((nextS m).2.2.1 : Nat) : Int), (((nextS m).2.2.2 : Nat) : Int)) := by
  obtain ⟨K, hK⟩ := ends_eq (m.take (dlen m + 7)) (mem_take hm) (by rw [List.length_take]; omega)
  refine ⟨K, fun k hk => ?_⟩
  have g0 := getD_lt m hm 0
  have g1 := getD_lt m hm 1
  have g2 := getD_lt m hm 2
  unfold rec_Next.f nextS
  simp only [ints_len]
  by_cases c1 : m.length < 6
  · rw [if_pos (by omega), if_pos c1]; rfl
  rw [if_neg (by omega), if_neg c1, if_pos (by omega), if_pos (by omega), if_pos (by omega), rd_ints m 0 0 rfl, rd_ints m 1 1 rfl, rd_ints m 2 2 rfl,
    wrap_in (n := ((m.getD 0 0 : Nat) : Int)) (by omega) (by omega), wrap_in (n := ((m.getD 1 0 : Nat) : Int)) (by omega) (by omega), wrap_in (n := ((m.getD 2 0 : Nat) : Int)) (by omega) (by omega),
    wrap_in (n := ((m.getD 1 0 : Nat) : Int) * 256) (by omega) (by omega), wrap_in (n := ((m.getD 2 0 : Nat) : Int) * 65536) (by omega) (by omega)]
  have o1 := or_low 8 (m.getD 0 0) (m.getD 1 0) g0 (by omega) (by omega)
  have o2 := or_low 16 (m.getD 0 0 + 2 ^ 8 * m.getD 1 0) (m.getD 2 0) (by omega) (by omega) (by omega)
  rw [show ((m.getD 1 0 : Nat) : Int) * 256 = ((2 ^ 8 * m.getD 1 0 : Nat) : Int) by omega, show ((m.getD 2 0 : Nat) : Int) * 65536 = ((2 ^ 16 * m.getD 2 0 : Nat) : Int) by omega, o1, o2,
    show m.getD 0 0 + 2 ^ 8 * m.getD 1 0 + 2 ^ 16 * m.getD 2 0 = dlen m by unfold dlen; omega]
  clear o1 o2
  have hb := begins_eq (m.getD 0 0) (m.getD 1 0) (m.getD 2 0) g0 g1 g2
  rw [show m.getD 0 0 + 256 * m.getD 1 0 + 65536 * m.getD 2 0 = dlen m from rfl] at hb
  rw [hb, Option.bind_some, if_pos (by omega), ints_take, take6 m (by omega)]
  rw [equal_eq _ _ (by intro b hb; simp only [List.mem_cons, List.not_mem_nil, or_false] at hb; omega) (by rw [← take6 m (by omega)]; exact mem_take hm), Option.bind_some]
  have hh := head_eq (m.getD 0 0) (m.getD 1 0) (m.getD 2 0) (m.getD 3 0) (m.getD 4 0) (m.getD 5 0) g0 g1 g2
  by_cases c2 : m.getD 0 0 + m.getD 3 0 = 255 ∧ m.getD 1 0 + m.getD 4 0 = 255 ∧ m.getD 2 0 + m.getD 5 0 = 255
  · rw [if_pos (decide_eq_true (hh.2 c2)), if_neg (not_not_intro c2)]
    by_cases c3 : dlen m > 1048576
    · rw [if_pos (by omega), if_pos c3]; rfl
    rw [if_neg (by omega), if_neg c3, size_eq (dlen m) (by omega), Option.bind_some]
    by_cases c4 : m.length < dlen m + 11
    · rw [if_pos (by omega), if_pos c4]; rfl
    have w1 : Aside0 (wrap64 (((dlen m + 11 : Nat) : Int) - 4) = ((dlen m + 7 : Nat) : Int)) := ⟨by rw [wrap_in (by omega) (by omega)]; omega⟩
    rw [if_neg (by omega), if_neg c4, w1.out, if_pos (by omega), if_pos (by omega), Int.toNat_natCast, Int.toNat_natCast, ints_take, hK k hk, Option.bind_some, if_pos (by omega), if_pos (by omega), ints_take, ints_drop,
      equal_eq _ _ (tail4_lt _) (mem_drop (mem_take hm)), Option.bind_some]
    by_cases c5 : tail4 (crc (m.take (dlen m + 7))) = (m.take (dlen m + 11)).drop (dlen m + 7)
    · rw [if_pos (decide_eq_true c5), if_neg (not_not_intro c5), if_pos (by omega), if_pos (by omega), ints_drop, clone_eq _ (by rw [List.length_drop, List.length_take]; omega), Option.bind_some, rd_ints m 6 6 rfl]
      have g6 := getD_lt m hm 6
      rw [wrap_in (n := ((m.getD 6 0 : Nat) : Int)) (by omega) (by omega)]
      rfl
    · rw [if_neg (by rw [decide_eq_false c5]; simp), if_pos c5]; rfl
  · rw [if_neg (by rw [decide_eq_false (fun e => c2 (hh.1 e))]; simp), if_pos c2]; rfl
theorem bt_ints (m : List Nat) (hm : ∀ b ∈ m, b < 256) (i : Int) (j : Nat) (h : i = (j : Int)) (hj : j < m.length) : bt (strOfNums (ints m)) i = ((m.getD j 0 : Nat) : Int) := by
  subst h
  rw [bt_str m hm j hj, List.getD_eq_getElem?_getD, List.getElem?_eq_getElem hj]; rfl
theorem str_extract (m : List Nat) (a b : Nat) : (strOfNums (ints m)).extract a b = strOfNums (ints ((m.take b).drop a)) := by
  apply ByteArray.ext
  apply Array.ext'
  simp [strOfNums, ints, List.drop_take]
theorem str_nil : (⟨#[]⟩ : ByteArray) = strOfNums (ints []) := rfl
theorem sum4_l (x : Nat) (hx : x < 4294967296) : mutoscoperef04_Sum.l0 5 (x : Int) (strOfNums (ints [])) 0 = some (strOfNums (ints (tail4 x))) := by
  have st : ∀ (k y : Nat) (l : List Nat) (i : Int), 0 ≤ i → i < 4 → y < 4294967296 → l.length < 1000 → mutoscoperef04_Sum.l0 (k + 1) (y : Int) (strOfNums (ints l)) i = mutoscoperef04_Sum.l0 k ((y / 256 : Nat) : Int) (strOfNums (ints (l ++ [y % 256]))) (i + 1) := by
    intro k y l i h0 h4 hy hl
    have e1 : ([(Int.tmod (y : Int) 256) % 256] : List Int) = ints [y % 256] := by
      rw [Int.tmod_eq_emod_of_nonneg (by omega)]
      simp only [ints, List.map_cons, List.map_nil]
      congr 1; omega
    simp only [mutoscoperef04_Sum.l0]
    rw [if_pos h4, Option.bind_some, e1, str_size, str_size, if_pos (by simp only [List.length_cons, List.length_nil]; omega), str_append, wrap_in (n := i + 1) (by omega) (by omega), Int.tdiv_eq_ediv_of_nonneg (by omega), show ((y : Int) / 256 % 4294967296) = ((y / 256 : Nat) : Int) by omega]
  rw [st 4 x [] 0 (by omega) (by omega) hx (by simp), st 3 _ _ _ (by omega) (by omega) (by omega) (by simp), st 2 _ _ _ (by omega) (by omega) (by omega) (by simp), st 1 _ _ _ (by omega) (by omega) (by omega) (by simp)]
  simp only [mutoscoperef04_Sum.l0]
  rw [if_neg (by omega)]
  congr 3
  simp only [List.nil_append, List.cons_append, tail4, List.cons.injEq, and_true, true_and]
  omega
theorem crc_lt (l : List Nat) (hl : ∀ b ∈ l, b < 256) : crc l < 4294967296 := Nat.xor_lt_two_pow (n := 32) (run_lt l _ (by omega) hl) (by omega)
theorem sum4_eq (l : List Nat) (hl : ∀ b ∈ l, b < 256) (hn : l.length < 4611686018427387904) : ∃ K, ∀ k, K ≤ k → mutoscoperef04_Sum.f k (strOfNums (ints l)) = some (strOfNums (ints (tail4 (crc l)))) := by
  obtain ⟨K, hK⟩ := ref_eq l hl hn
  refine ⟨K + 5, fun k hk => at_rounds (g := fun k => mutoscoperef04_Sum.f k (strOfNums (ints l))) (fun k => mutoscoperef04_Sum.mono _ k) (k := K + 5) hk ?_⟩
  show mutoscoperef04_Sum.f (K + 5) (strOfNums (ints l)) = _
  unfold mutoscoperef04_Sum.f
  rw [hK _ (by omega), Option.bind_some, str_nil]
  exact at_rounds (g := fun k => mutoscoperef04_Sum.l0 k ((crc l : Nat) : Int) (strOfNums (ints [])) 0) (fun k => mutoscoperef04_Sum.mono_l k _ _ _) (k := 5) (by omega) (sum4_l _ (crc_lt l hl))
theorem nextS_ok (m : List Nat) (h : (nextS m).2.2.2 = 0) : 11 ≤ (nextS m).2.2.1 ∧ (nextS m).2.2.1 ≤ m.length := by
  unfold nextS at h ⊢
  by_cases c1 : m.length < 6
  · rw [if_pos c1] at h; cases h
  rw [if_neg c1] at h ⊢
  by_cases c2 : m.getD 0 0 + m.getD 3 0 = 255 ∧ m.getD 1 0 + m.getD 4 0 = 255 ∧ m.getD 2 0 + m.getD 5 0 = 255
  · rw [if_neg (not_not_intro c2)] at h ⊢
    by_cases c3 : dlen m > 1048576
    · rw [if_pos c3] at h; cases h
    rw [if_neg c3] at h ⊢
    by_cases c4 : m.length < dlen m + 11
    · rw [if_pos c4] at h; cases h
    rw [if_neg c4] at h ⊢
    by_cases c5 : tail4 (crc (m.take (dlen m + 7))) = (m.take (dlen m + 11)).drop (dlen m + 7)
    · rw [if_neg (not_not_intro c5)] at h ⊢
      exact ⟨by show 11 ≤ dlen m + 11; omega, by show dlen m + 11 ≤ m.length; omega⟩
    · rw [if_pos c5] at h; cases h
  · rw [if_pos c2] at h; cases h
def mk27 (l : List (Nat × List Nat)) : List S27 := l.map fun p => ⟨(p.1 : Int), ints p.2⟩
theorem rd27 (l : List (Nat × List Nat)) (i : Nat) (h : i < l.length) : rd_T27 (mk27 l) (i : Int) = ⟨((l[i]).1 : Int), ints (l[i]).2⟩ := by
  unfold rd_T27 mk27
  rw [Int.toNat_natCast, List.getD_eq_getElem?_getD, List.getElem?_map, List.getElem?_eq_getElem h]; rfl
theorem bytes_of {l : List Int} (h : ∀ n ∈ l, (Lit.int .u8 n).wf = true) : ∀ n ∈ l, 0 ≤ n ∧ n < 256 := by
  intro n hn
  have := h n hn
  simp only [Lit.wf, Bool.and_eq_true, decide_eq_true_eq] at this
  have e1 : IntKind.u8.min = 0 := by rfl
  have e2 : IntKind.u8.max = 255 := by rfl
  omega
theorem ints_append (l m : List Nat) : ints (l ++ m) = ints l ++ ints m := by simp [ints]
/-- What stands ahead of a record's sum. -/
def encH (p : Nat × List Nat) : List Nat := [p.2.length % 256, p.2.length / 256 % 256, p.2.length / 65536 % 256, 255 - p.2.length % 256, 255 - p.2.length / 256 % 256, 255 - p.2.length / 65536 % 256, p.1] ++ p.2
/-- A record's bytes. -/
def encS (p : Nat × List Nat) : List Nat := encH p ++ tail4 (crc (encH p))
def okRec (p : Nat × List Nat) : Prop := p.1 < 256 ∧ p.2.length ≤ 1048576 ∧ ∀ b ∈ p.2, b < 256
theorem encH_lt (p : Nat × List Nat) (h : okRec p) : ∀ b ∈ encH p, b < 256 := by
  intro b hb
  unfold encH at hb
  rcases List.mem_append.1 hb with h1 | h1
  · have := h.1
    simp only [List.mem_cons, List.not_mem_nil, or_false] at h1
    omega
  · exact h.2.2 b h1
theorem encS_lt (p : Nat × List Nat) (h : okRec p) : ∀ b ∈ encS p, b < 256 := by
  intro b hb
  rcases List.mem_append.1 hb with h1 | h1
  · exact encH_lt p h b h1
  · exact tail4_lt _ b h1
theorem encS_len (p : Nat × List Nat) : (encS p).length = p.2.length + 11 := by
  unfold encS encH tail4
  simp only [List.length_append, List.length_cons, List.length_nil]
  omega
theorem bytes_l0 (l : List (Nat × List Nat)) (hl : l.length ≤ 1000) : ∀ (t : List (Nat × List Nat)) (i : Nat) (acc : List Nat), i ≤ l.length → l.drop i = t → (∀ p ∈ t, okRec p) → acc.length ≤ i * 1048600 →
    ∃ K, ∀ k, K ≤ k → rec_Bytes.l0 k (ints acc) (mk27 l) (l.length : Int) (i : Int) = some (ints (acc ++ t.flatMap encS), 0) := by
  have l1 : (mk27 l).length = l.length := by simp [mk27]
  intro t
  induction t with
  | nil =>
    intro i acc hi ht hp ha
    refine ⟨1, fun k hk => ?_⟩
    have := congrArg List.length ht
    rw [List.length_drop, List.length_nil] at this
    obtain ⟨k, rfl⟩ : ∃ q, k = q + 1 := ⟨k - 1, by omega⟩
    simp only [rec_Bytes.l0]
    rw [if_neg (by omega)]
    simp
  | cons p t ih =>
    intro i acc hi ht hp ha
    have hlt : i < l.length := by
      have := congrArg List.length ht
      rw [List.length_drop, List.length_cons] at this; omega
    have hd := List.drop_eq_getElem_cons hlt
    rw [ht] at hd
    injection hd with hd1 hd2
    have hpk := hp p (List.mem_cons_self ..)
    obtain ⟨hk1, hk2, hk3⟩ := hpk
    have hlen : (encS p).length = p.2.length + 11 := encS_len p
    obtain ⟨K1, h1⟩ := ends_eq (encH p) (encH_lt p ⟨hk1, hk2, hk3⟩) (by simp only [encH, List.length_append, List.length_cons, List.length_nil]; omega)
    obtain ⟨K2, h2⟩ := ih (i + 1) (acc ++ encS p) (by omega) hd2.symm (fun q hq => hp q (List.mem_cons_of_mem _ hq)) (by rw [List.length_append]; omega)
    have hright : ∀ k, 1 ≤ k → rec_right.f k (p.1 : Int) (ints p.2) = some 0 := by
      intro k hk
      obtain ⟨k, rfl⟩ : ∃ q, k = q + 1 := ⟨k - 1, by omega⟩
      unfold rec_right.f
      rw [if_neg (by omega), decide_eq_false (by omega)]
      simp only [rec_right.j0]
      rw [if_neg (by simp), if_neg (by rw [ints_len]; omega)]
    refine ⟨K1 + K2 + 3, fun k hk => ?_⟩
    obtain ⟨k, rfl⟩ : ∃ q, k = q + 1 := ⟨k - 1, by omega⟩
    have hr := rd27 l i hlt
    rw [← hd1] at hr
    have hb := begins_eq (p.2.length % 256) (p.2.length / 256 % 256) (p.2.length / 65536 % 256) (by omega) (by omega) (by omega)
    rw [show p.2.length % 256 + 256 * (p.2.length / 256 % 256) + 65536 * (p.2.length / 65536 % 256) = p.2.length by omega] at hb
    have hkind : ([(p.1 : Int) % 256] : List Int) = ints [p.1] := by
      simp only [ints, List.map_cons, List.map_nil]; congr 1; omega
    simp only [rec_Bytes.l0]
    rw [if_pos (by omega), if_pos (by omega), if_pos (by omega), hr, hright k (by omega), Option.bind_some, if_pos rfl, ints_len, hb, Option.bind_some, hkind, Option.bind_some, if_pos (by simp [ints]), Option.bind_some, ← ints_append,
      if_pos (by simp only [ints_len, List.length_append, List.length_cons, List.length_nil]; omega), Option.bind_some, ← ints_append]
    have e : [p.2.length % 256, p.2.length / 256 % 256, p.2.length / 65536 % 256, 255 - p.2.length % 256, 255 - p.2.length / 256 % 256, 255 - p.2.length / 65536 % 256] ++ [p.1] ++ p.2 = encH p := by
      unfold encH; simp only [List.cons_append, List.nil_append]
    rw [e, if_pos (by simp only [ints_len, encH, List.length_append, List.length_cons, List.length_nil]; omega), Option.bind_some, ← ints_append, h1 _ (by omega), Option.bind_some,
      if_pos (by simp only [ints_len, encH, tail4, List.length_append, List.length_cons, List.length_nil]; omega), ← ints_append, wrap_in (n := (i : Int) + 1) (by omega) (by omega)]
    have hh := h2 k (by omega)
    rw [show (((i + 1 : Nat)) : Int) = (i : Int) + 1 by omega] at hh
    rw [show acc ++ encH p ++ tail4 (crc (encH p)) = acc ++ encS p by unfold encS; rw [List.append_assoc], hh, List.flatMap_cons, List.append_assoc]
theorem bytes_eq (l : List (Nat × List Nat)) (hl : l.length ≤ 1000) (hp : ∀ p ∈ l, okRec p) : ∃ K, ∀ k, K ≤ k → rec_Bytes.f k (mk27 l) = some (ints (l.flatMap encS), 0) := by
  obtain ⟨K, hK⟩ := bytes_l0 l hl l 0 [] (Nat.zero_le _) rfl hp (by simp)
  refine ⟨K, fun k hk => ?_⟩
  have := hK k hk
  rw [List.nil_append] at this
  unfold rec_Bytes.f
  have l1 : (mk27 l).length = l.length := by simp [mk27]
  rw [l1]
  exact this
theorem nextS_enc (p : Nat × List Nat) (hp : okRec p) (rest : List Nat) : nextS (encS p ++ rest) = (p.1, p.2, p.2.length + 11, 0) := by
  obtain ⟨h1, h2, h3⟩ := hp
  have hH : (encH p).length = p.2.length + 7 := by simp only [encH, List.length_append, List.length_cons, List.length_nil]; omega
  have hE := encS_len p
  have hd : dlen (encS p ++ rest) = p.2.length := by
    show p.2.length % 256 + 256 * (p.2.length / 256 % 256) + 65536 * (p.2.length / 65536 % 256) = p.2.length
    omega
  have t1 : (encS p ++ rest).take (p.2.length + 7) = encH p := by
    unfold encS
    rw [List.append_assoc, List.take_append_of_le_length (by omega), ← hH, List.take_length]
  have t2 : (encS p ++ rest).take (p.2.length + 11) = encS p := by
    rw [List.take_append_of_le_length (by omega), ← hE, List.take_length]
  have t3 : (encS p).drop (p.2.length + 7) = tail4 (crc (encH p)) := by
    unfold encS
    rw [← hH, List.drop_left]
  have t4 : (encH p).drop 7 = p.2 := by unfold encH; rfl
  unfold nextS
  rw [hd, t1, t2, t3, t4, if_neg (by rw [List.length_append]; omega), if_neg, if_neg (by omega), if_neg (by rw [List.length_append]; omega), if_neg (not_not_intro rfl)]
  · rfl
  · apply not_not_intro
    refine ⟨?_, ?_, ?_⟩
    · show p.2.length % 256 + (255 - p.2.length % 256) = 255; omega
    · show p.2.length / 256 % 256 + (255 - p.2.length / 256 % 256) = 255; omega
    · show p.2.length / 65536 % 256 + (255 - p.2.length / 65536 % 256) = 255; omega
theorem enc_lt (t : List (Nat × List Nat)) (hp : ∀ p ∈ t, okRec p) : ∀ b ∈ t.flatMap encS, b < 256 := by
  intro b hb
  obtain ⟨p, hpm, hb2⟩ := List.mem_flatMap.1 hb
  exact encS_lt p (hp p hpm) b hb2
/-- Encoded records are decoded again. -/
theorem all_enc (m : List Nat) (hm : ∀ b ∈ m, b < 256) (hl : m.length < 1000000000) : ∀ (t acc : List (Nat × List Nat)) (p : Nat), (∀ q ∈ t, okRec q) → p ≤ m.length → m.drop p = t.flatMap encS → acc.length ≤ p →
    ∃ K, ∀ k, K ≤ k → rec_All.l0 k (ints m) (mk27 acc) (p : Int) = some (mk27 (acc ++ t), (m.length : Int), 0) := by
  intro t
  induction t with
  | nil =>
    intro acc p ht hp hd ha
    have := congrArg List.length hd
    rw [List.length_drop, List.flatMap_nil, List.length_nil] at this
    refine ⟨1, fun k hk => ?_⟩
    obtain ⟨k, rfl⟩ : ∃ q, k = q + 1 := ⟨k - 1, by omega⟩
    simp only [rec_All.l0]
    rw [if_neg (by rw [ints_len]; omega), List.append_nil, show (p : Int) = (m.length : Int) by omega]
  | cons q t ih =>
    intro acc p ht hp hd ha
    have hq := ht q (List.mem_cons_self ..)
    rw [List.flatMap_cons] at hd
    have hlen := congrArg List.length hd
    rw [List.length_drop, List.length_append, encS_len] at hlen
    obtain ⟨K1, h1⟩ := next_eq (m.drop p) (mem_drop hm) (by rw [List.length_drop]; omega)
    have hn : nextS (m.drop p) = (q.1, q.2, q.2.length + 11, 0) := by rw [hd]; exact nextS_enc q hq _
    have hd2 : m.drop (p + (q.2.length + 11)) = t.flatMap encS := by
      rw [← List.drop_drop, hd, ← encS_len q, List.drop_left]
    obtain ⟨K2, h2⟩ := ih (acc ++ [q]) (p + (q.2.length + 11)) (fun x hx => ht x (List.mem_cons_of_mem _ hx)) (by omega) hd2 (by rw [List.length_append, List.length_singleton]; omega)
    refine ⟨K1 + K2 + 1, fun k hk => ?_⟩
    obtain ⟨k, rfl⟩ : ∃ q, k = q + 1 := ⟨k - 1, by omega⟩
    have e1 := h1 k (by omega)
    rw [hn] at e1
    have l1 : (mk27 acc).length = acc.length := by simp [mk27]
    have hs : mk27 acc ++ [⟨(q.1 : Int), ints q.2⟩] = mk27 (acc ++ [q]) := by simp [mk27]
    simp only [rec_All.l0]
    rw [if_pos (by rw [ints_len]; omega), if_pos (by omega), if_pos (by rw [ints_len]; omega), Int.toNat_natCast, ints_drop, e1, Option.bind_some]
    have hw : Aside0 (wrap64 ((p : Int) + ((q.2.length + 11 : Nat) : Int)) = ((p + (q.2.length + 11) : Nat) : Int)) := ⟨by rw [wrap_in (by omega) (by omega)]; omega⟩
    show (if (((0 : Nat)) : Int) = 0 then if (mk27 acc).length < 4398046511104 then rec_All.l0 k (ints m) (mk27 acc ++ [⟨(q.1 : Int), ints q.2⟩]) (wrap64 ((p : Int) + ((q.2.length + 11 : Nat) : Int))) else none else _) = _
    rw [if_pos (show (((0 : Nat)) : Int) = 0 from rfl), if_pos (by omega), hs, hw.out, h2 k (by omega), List.append_assoc]
    rfl
/-- Records whose kinds are any whole numbers. -/
def mkI (l : List (Int × List Nat)) : List S27 := l.map fun p => ⟨p.1, ints p.2⟩
def okI (p : Int × List Nat) : Prop := 0 ≤ p.1 ∧ p.1 ≤ 255
instance (p : Int × List Nat) : Decidable (okI p) := by unfold okI; infer_instance
def toN (l : List (Int × List Nat)) : List (Nat × List Nat) := l.map fun p => (p.1.toNat, p.2)
theorem mkI_toN (l : List (Int × List Nat)) (h : ∀ p ∈ l, okI p) : mkI l = mk27 (toN l) := by
  unfold mkI mk27 toN
  rw [List.map_map]
  apply List.map_congr_left
  intro p hp
  have := h p hp
  unfold okI at this
  show (⟨p.1, ints p.2⟩ : S27) = ⟨((p.1.toNat : Nat) : Int), ints p.2⟩
  congr 1
  omega
theorem rdI (l : List (Int × List Nat)) (i : Nat) (h : i < l.length) : rd_T27 (mkI l) (i : Int) = ⟨(l[i]).1, ints (l[i]).2⟩ := by
  unfold rd_T27 mkI
  rw [Int.toNat_natCast, List.getD_eq_getElem?_getD, List.getElem?_map, List.getElem?_eq_getElem h]; rfl
theorem mkI_len (l : List (Int × List Nat)) : (mkI l).length = l.length := by simp [mkI]
theorem small_l0 (x0 : List S27) (l : List (Int × List Nat)) (hl : l.length < 4611686018427387904) : ∀ (t : List (Int × List Nat)) (i k : Nat), i ≤ l.length → l.drop i = t → t.length < k →
    mutoscopelaw04_small.l0 k x0 (mkI l) (l.length : Int) (i : Int) = some (t.all (fun p => decide (p.2.length ≤ 2000)) && decide ((x0.length : Int) ≤ 30)) := by
  intro t
  induction t with
  | nil =>
    intro i k hi ht hk
    have := congrArg List.length ht
    rw [List.length_drop, List.length_nil] at this
    obtain ⟨k, rfl⟩ : ∃ q, k = q + 1 := ⟨k - 1, by omega⟩
    simp only [mutoscopelaw04_small.l0]
    rw [if_neg (by omega)]
    simp
  | cons p t ih =>
    intro i k hi ht hk
    have hlt : i < l.length := by
      have := congrArg List.length ht
      rw [List.length_drop, List.length_cons] at this; omega
    have hd := List.drop_eq_getElem_cons hlt
    rw [ht] at hd
    injection hd with hd1 hd2
    rw [List.length_cons] at hk
    obtain ⟨k, rfl⟩ : ∃ q, k = q + 1 := ⟨k - 1, by omega⟩
    have hr := rdI l i hlt
    rw [← hd1] at hr
    simp only [mutoscopelaw04_small.l0]
    rw [if_pos (by omega), if_pos (by omega), if_pos (by rw [mkI_len]; omega), hr, List.all_cons]
    by_cases c : ((ints p.2).length : Int) > 2000
    · rw [if_pos c, decide_eq_false (by rw [ints_len] at c; omega)]; rfl
    · rw [if_neg c, decide_eq_true (by rw [ints_len] at c; omega), wrap_in (n := (i : Int) + 1) (by omega) (by omega), Bool.true_and]
      exact ih (i + 1) k (by omega) hd2.symm (by omega)
theorem right_ok (k : Nat) (hk : 1 ≤ k) (p : Int × List Nat) (hp : p.2.length ≤ 2000) : mutoscoperef04_Right.f k p.1 (strOfNums (ints p.2)) = some (if okI p then 0 else 11) := by
  obtain ⟨k, rfl⟩ : ∃ q, k = q + 1 := ⟨k - 1, by omega⟩
  unfold mutoscoperef04_Right.f
  by_cases c1 : p.1 < 0
  · rw [if_pos c1, if_neg (fun h : okI p => by have := h.1; have := h.2; omega)]
    simp only [mutoscoperef04_Right.j0]
    rw [if_pos trivial]
  · rw [if_neg c1]
    simp only [mutoscoperef04_Right.j0]
    by_cases c2 : p.1 > 255
    · rw [decide_eq_true c2, if_pos rfl, if_neg (fun h : okI p => by have := h.1; have := h.2; omega)]
    · rw [decide_eq_false c2, if_neg (by simp), if_neg (by rw [str_size]; omega), if_pos (show okI p from ⟨by omega, by omega⟩)]
theorem refBytes_eq (p : Int × List Nat) (hp : p.2.length ≤ 2000) (hb : ∀ b ∈ p.2, b < 256) (ho : okI p) : ∃ K, ∀ k, K ≤ k → mutoscoperef04_Bytes.f k p.1 (strOfNums (ints p.2)) = some (strOfNums (ints (encS (p.1.toNat, p.2)))) := by
  have hok : okRec (p.1.toNat, p.2) := ⟨by show p.1.toNat < 256; have := ho.2; omega, by show p.2.length ≤ 1048576; omega, hb⟩
  have hH : (encH (p.1.toNat, p.2)).length = p.2.length + 7 := by simp only [encH, List.length_append, List.length_cons, List.length_nil]; omega
  obtain ⟨K, hK⟩ := sum4_eq (encH (p.1.toNat, p.2)) (encH_lt _ hok) (by omega)
  refine ⟨K, fun k hk => ?_⟩
  have e : ([((strOfNums (ints p.2)).size : Int) % 256, (Int.tmod (wrap64 (((strOfNums (ints p.2)).size : Int) / 256)) 256) % 256, (wrap64 (((strOfNums (ints p.2)).size : Int) / 65536)) % 256, 255 - (((strOfNums (ints p.2)).size : Int) % 256), 255 - ((Int.tmod (wrap64 (((strOfNums (ints p.2)).size : Int) / 256)) 256) % 256), 255 - ((wrap64 (((strOfNums (ints p.2)).size : Int) / 65536)) % 256), (p.1) % 256] : List Int)
      = ints [p.2.length % 256, p.2.length / 256 % 256, p.2.length / 65536 % 256, 255 - p.2.length % 256, 255 - p.2.length / 256 % 256, 255 - p.2.length / 65536 % 256, p.1.toNat] := by
    rw [str_size, wrap_in (n := (p.2.length : Int) / 256) (by omega) (by omega), wrap_in (n := (p.2.length : Int) / 65536) (by omega) (by omega), Int.tmod_eq_emod_of_nonneg (by omega)]
    have := ho.1
    have := ho.2
    simp only [ints, List.map_cons, List.map_nil, List.cons.injEq, and_true]
    omega
  have e2 : [p.2.length % 256, p.2.length / 256 % 256, p.2.length / 65536 % 256, 255 - p.2.length % 256, 255 - p.2.length / 256 % 256, 255 - p.2.length / 65536 % 256, p.1.toNat] ++ p.2 = encH (p.1.toNat, p.2) := rfl
  unfold mutoscoperef04_Bytes.f
  rw [e, Option.bind_some, str_size, str_size, if_pos (by simp only [List.length_cons, List.length_nil]; omega), str_append, e2, hK k hk, Option.bind_some, str_size, str_size, if_pos (by rw [hH]; simp only [tail4, List.length_cons, List.length_nil]; omega), str_append]
  rfl
/-- Behind a record that may not be, nothing changes. -/
theorem loop_bad (l : List (Int × List Nat)) (hl : l.length ≤ 30) (x3 : ByteArray) (K : Nat) (R : Bool) (hfin : ∀ k, K ≤ k → mutoscopelaw04_RecBytes.l0 (k + 1) (mkI l) x3 11 (mkI l) (l.length : Int) (l.length : Int) = some R) :
    ∀ (d i k : Nat), l.length - i = d → i ≤ l.length → K + 2 * d + 2 ≤ k → mutoscopelaw04_RecBytes.l0 k (mkI l) x3 11 (mkI l) (l.length : Int) (i : Int) = some R := by
  intro d
  induction d with
  | zero =>
    intro i k hd hi hk
    obtain ⟨k, rfl⟩ : ∃ q, k = q + 1 := ⟨k - 1, by omega⟩
    obtain rfl : i = l.length := by omega
    exact hfin k (by omega)
  | succ d ih =>
    intro i k hd hi hk
    obtain ⟨k, rfl⟩ : ∃ q, k = q + 1 := ⟨k - 1, by omega⟩
    have hj : ∀ k a b, K + 2 * d + 2 ≤ k → mutoscopelaw04_RecBytes.j1 (k + 1) (mkI l) x3 11 (mkI l) (l.length : Int) (i : Int) a b = some R := by
      intro k a b hk
      simp only [mutoscopelaw04_RecBytes.j1]
      rw [if_neg (by omega), wrap_in (n := (i : Int) + 1) (by omega) (by omega)]
      exact ih (i + 1) k (by omega) (by omega) (by omega)
    simp only [mutoscopelaw04_RecBytes.l0]
    rw [if_pos (by omega), if_pos (by omega), if_pos (by rw [mkI_len]; omega), if_neg (by omega)]
    obtain ⟨k, rfl⟩ : ∃ q, k = q + 1 := ⟨k - 1, by omega⟩
    exact hj k _ _ (by omega)
theorem loop_good (l : List (Int × List Nat)) (hl : l.length ≤ 30) (hsm : ∀ p ∈ l, p.2.length ≤ 2000) (hby : ∀ p ∈ l, ∀ b ∈ p.2, b < 256) (K : Nat)
    (hfin0 : (∀ p ∈ l, okI p) → ∀ k, K ≤ k → mutoscopelaw04_RecBytes.l0 (k + 1) (mkI l) (strOfNums (ints ((toN l).flatMap encS))) 0 (mkI l) (l.length : Int) (l.length : Int) = some true)
    (hfin1 : (¬ ∀ p ∈ l, okI p) → ∀ x3 k, K ≤ k → mutoscopelaw04_RecBytes.l0 (k + 1) (mkI l) x3 11 (mkI l) (l.length : Int) (l.length : Int) = some true) :
    ∀ (t : List (Int × List Nat)) (i : Nat), i ≤ l.length → l.drop i = t → (∀ p ∈ l.take i, okI p) →
    ∃ K', ∀ k, K' ≤ k → mutoscopelaw04_RecBytes.l0 k (mkI l) (strOfNums (ints ((toN (l.take i)).flatMap encS))) 0 (mkI l) (l.length : Int) (i : Int) = some true := by
  intro t
  induction t with
  | nil =>
    intro i hi ht hok
    have := congrArg List.length ht
    rw [List.length_drop, List.length_nil] at this
    obtain rfl : i = l.length := by omega
    rw [List.take_length] at hok ⊢
    refine ⟨K + 1, fun k hk => ?_⟩
    obtain ⟨k, rfl⟩ : ∃ q, k = q + 1 := ⟨k - 1, by omega⟩
    exact hfin0 hok k (by omega)
  | cons p t ih =>
    intro i hi ht hok
    have hlt : i < l.length := by
      have := congrArg List.length ht
      rw [List.length_drop, List.length_cons] at this; omega
    have hd := List.drop_eq_getElem_cons hlt
    rw [ht] at hd
    injection hd with hd1 hd2
    have hpm : p ∈ l := by rw [hd1]; exact List.getElem_mem hlt
    have hr := rdI l i hlt
    rw [← hd1] at hr
    have hsz := hsm p hpm
    by_cases c : okI p
    · have htk : l.take (i + 1) = l.take i ++ [p] := by rw [List.take_succ_eq_append_getElem hlt, ← hd1]
      have hok2 : ∀ q ∈ l.take (i + 1), okI q := by
        rw [htk]
        intro q hq
        rcases List.mem_append.1 hq with h1 | h1
        · exact hok q h1
        · rw [List.mem_singleton.1 h1]; exact c
      obtain ⟨K1, h1⟩ := ih (i + 1) (by omega) hd2.symm hok2
      obtain ⟨K2, h2⟩ := refBytes_eq p hsz (hby p hpm) c
      have hacc : ∀ (a : List (Nat × List Nat)), (∀ q ∈ a, q.2.length ≤ 2000) → (a.flatMap encS).length ≤ a.length * 2011 := by
        intro a
        induction a with
        | nil => intro _; simp
        | cons q a iha =>
          intro h
          have h0 := h q (List.mem_cons_self ..)
          have h3 := iha (fun x hx => h x (List.mem_cons_of_mem _ hx))
          rw [List.flatMap_cons, List.length_append, encS_len, List.length_cons]; omega
      have hb1 : ((toN (l.take i)).flatMap encS).length ≤ 60330 := by
        have := hacc (toN (l.take i)) (by
          intro q hq
          obtain ⟨y, hy, rfl⟩ := List.mem_map.1 hq
          exact hsm y (List.mem_of_mem_take hy))
        have hl2 : (toN (l.take i)).length ≤ 30 := by simp only [toN, List.length_map, List.length_take]; omega
        omega
      have henc : encS (p.1.toNat, p.2) = encS (p.1.toNat, p.2) := rfl
      have hle : (encS (p.1.toNat, p.2)).length ≤ 2011 := by rw [encS_len]; show p.2.length + 11 ≤ 2011; omega
      refine ⟨K1 + K2 + 3, fun k hk => ?_⟩
      obtain ⟨k, rfl⟩ : ∃ q, k = q + 1 := ⟨k - 1, by omega⟩
      have hj : ∀ k, K1 + K2 ≤ k → mutoscopelaw04_RecBytes.j1 (k + 1) (mkI l) (strOfNums (ints ((toN (l.take i)).flatMap encS))) 0 (mkI l) (l.length : Int) (i : Int) p.1 (ints p.2) = some true := by
        intro k hk
        have hh := h1 k (by omega)
        rw [htk] at hh
        simp only [mutoscopelaw04_RecBytes.j1]
        unfold mutoscopelaw04_ref.f
        rw [if_pos trivial, Option.bind_some, h2 k (by omega), Option.bind_some, str_size, str_size, if_pos (by omega), str_append, wrap_in (n := (i : Int) + 1) (by omega) (by omega)]
        have e : (toN (l.take i)).flatMap encS ++ encS (p.1.toNat, p.2) = (toN (l.take i ++ [p])).flatMap encS := by simp [toN]
        rw [e]
        rw [show (((i + 1 : Nat)) : Int) = (i : Int) + 1 by omega] at hh
        exact hh
      simp only [mutoscopelaw04_RecBytes.l0]
      rw [if_pos (by omega), if_pos (by omega), if_pos (by rw [mkI_len]; omega), if_pos trivial, hr]
      show ((mutoscopelaw04_ref.f p.1 (ints p.2)).bind _) = _
      have hrf : mutoscopelaw04_ref.f p.1 (ints p.2) = some (p.1, strOfNums (ints p.2)) := rfl
      rw [hrf, Option.bind_some, right_ok k (by omega) p hsz, if_pos c, Option.bind_some]
      obtain ⟨k, rfl⟩ : ∃ q, k = q + 1 := ⟨k - 1, by omega⟩
      exact hj k (by omega)
    · have hnot : ¬ ∀ p ∈ l, okI p := fun h => c (h p hpm)
      have hbad := loop_bad l hl (strOfNums (ints ((toN (l.take i)).flatMap encS))) K true (fun k hk => hfin1 hnot _ k hk)
      refine ⟨K + 2 * 31 + 6, fun k hk => ?_⟩
      obtain ⟨k, rfl⟩ : ∃ q, k = q + 1 := ⟨k - 1, by omega⟩
      have hj : ∀ k, K + 2 * 31 + 3 ≤ k → mutoscopelaw04_RecBytes.j1 (k + 1) (mkI l) (strOfNums (ints ((toN (l.take i)).flatMap encS))) 11 (mkI l) (l.length : Int) (i : Int) p.1 (ints p.2) = some true := by
        intro k hk
        simp only [mutoscopelaw04_RecBytes.j1]
        rw [if_neg (by omega), wrap_in (n := (i : Int) + 1) (by omega) (by omega)]
        exact hbad (l.length - (i + 1)) (i + 1) k rfl (by omega) (by omega)
      simp only [mutoscopelaw04_RecBytes.l0]
      rw [if_pos (by omega), if_pos (by omega), if_pos (by rw [mkI_len]; omega), if_pos trivial, hr]
      show ((mutoscopelaw04_ref.f p.1 (ints p.2)).bind _) = _
      have hrf : mutoscopelaw04_ref.f p.1 (ints p.2) = some (p.1, strOfNums (ints p.2)) := rfl
      rw [hrf, Option.bind_some, right_ok k (by omega) p hsz, if_neg c, Option.bind_some]
      obtain ⟨k, rfl⟩ : ∃ q, k = q + 1 := ⟨k - 1, by omega⟩
      exact hj k (by omega)
theorem rdN (l : List (Nat × List Nat)) (i : Nat) (h : i < l.length) : rd_T27 (mk27 l) (i : Int) = ⟨((l[i]).1 : Int), ints (l[i]).2⟩ := rd27 l i h
theorem size_sum (l : List (Nat × List Nat)) : ∀ (t : List (Nat × List Nat)) (i k : Nat) (s : Nat) (x7 : List Int), i ≤ l.length → l.drop i = t → (∀ p ∈ t, okRec p) → l.length ≤ 30 → s + (t.flatMap encS).length = x7.length → x7.length < 1000000000 → t.length < k →
    mutoscopelaw04_RecBytes.l1 k (mk27 l) x7 (mk27 l) (s : Int) (l.length : Int) (i : Int) = some true := by
  have l1 : (mk27 l).length = l.length := by simp [mk27]
  intro t
  induction t with
  | nil =>
    intro i k s x7 hi ht hp hl hs hx hk
    have := congrArg List.length ht
    rw [List.length_drop, List.length_nil] at this
    rw [List.flatMap_nil, List.length_nil] at hs
    obtain ⟨k, rfl⟩ : ∃ q, k = q + 1 := ⟨k - 1, by omega⟩
    simp only [mutoscopelaw04_RecBytes.l1]
    rw [if_neg (by omega), if_pos (by omega)]
    rfl
  | cons p t ih =>
    intro i k s x7 hi ht hp hl hs hx hk
    have hlt : i < l.length := by
      have := congrArg List.length ht
      rw [List.length_drop, List.length_cons] at this; omega
    have hd := List.drop_eq_getElem_cons hlt
    rw [ht] at hd
    injection hd with hd1 hd2
    rw [List.length_cons] at hk
    obtain ⟨k, rfl⟩ : ∃ q, k = q + 1 := ⟨k - 1, by omega⟩
    have hr := rdN l i hlt
    rw [← hd1] at hr
    have hpk := hp p (List.mem_cons_self ..)
    rw [List.flatMap_cons, List.length_append, encS_len] at hs
    have heq : rec_Equal.f (p.1 : Int) (ints p.2) (p.1 : Int) (ints p.2) = some true := by
      unfold rec_Equal.f
      rw [if_pos rfl, equal_eq _ _ hpk.2.2 hpk.2.2, Option.bind_some, decide_eq_true rfl]
    have h2 := hpk.2.1
    simp only [mutoscopelaw04_RecBytes.l1]
    rw [if_pos (by omega), if_pos (by omega), if_pos (by omega), if_pos (by omega), hr, heq, Option.bind_some, if_pos rfl, ints_len, size_eq p.2.length h2, Option.bind_some, wrap_in (n := (i : Int) + 1) (by omega) (by omega)]
    have hw : Aside0 (wrap64 ((s : Int) + ((p.2.length + 11 : Nat) : Int)) = ((s + (p.2.length + 11) : Nat) : Int)) := ⟨by rw [wrap_in (by omega) (by omega)]; omega⟩
    rw [hw.out]
    exact ih (i + 1) k (s + (p.2.length + 11)) x7 (by omega) hd2.symm (fun q hq => hp q (List.mem_cons_of_mem _ hq)) hl (by omega) hx (by omega)
theorem bytes_bad (l : List (Int × List Nat)) (hl : l.length ≤ 30) (hsm : ∀ p ∈ l, p.2.length ≤ 2000) (hby : ∀ p ∈ l, ∀ b ∈ p.2, b < 256) :
    ∀ (t : List (Int × List Nat)) (i : Nat) (acc : List Nat), i ≤ l.length → l.drop i = t → (¬ ∀ p ∈ t, okI p) → acc.length ≤ i * 2100 →
    ∃ K, ∀ k, K ≤ k → rec_Bytes.l0 k (ints acc) (mkI l) (l.length : Int) (i : Int) = some ([], 11) := by
  have l1 := mkI_len l
  intro t
  induction t with
  | nil => intro i acc hi ht hp _; exact absurd (fun p hp => by cases hp) hp
  | cons p t ih =>
    intro i acc hi ht hp ha
    have hlt : i < l.length := by
      have := congrArg List.length ht
      rw [List.length_drop, List.length_cons] at this; omega
    have hd := List.drop_eq_getElem_cons hlt
    rw [ht] at hd
    injection hd with hd1 hd2
    have hpm : p ∈ l := by rw [hd1]; exact List.getElem_mem hlt
    have hr := rdI l i hlt
    rw [← hd1] at hr
    have hsz := hsm p hpm
    have hright : ∀ k, 1 ≤ k → rec_right.f k p.1 (ints p.2) = some (if okI p then 0 else 11) := by
      intro k hk
      obtain ⟨k, rfl⟩ : ∃ q, k = q + 1 := ⟨k - 1, by omega⟩
      unfold rec_right.f
      by_cases c1 : p.1 < 0
      · rw [if_pos c1, if_neg (fun h : okI p => by have := h.1; have := h.2; omega)]
        simp only [rec_right.j0]
        rw [if_pos trivial]
      · rw [if_neg c1]
        simp only [rec_right.j0]
        by_cases c2 : p.1 > 255
        · rw [decide_eq_true c2, if_pos rfl, if_neg (fun h : okI p => by have := h.1; have := h.2; omega)]
        · rw [decide_eq_false c2, if_neg (by simp), if_neg (by rw [ints_len]; omega), if_pos (show okI p from ⟨by omega, by omega⟩)]
    by_cases c : okI p
    · have hrest : ¬ ∀ q ∈ t, okI q := fun h => hp (List.forall_mem_cons.2 ⟨c, h⟩)
      have hok : okRec (p.1.toNat, p.2) := ⟨by show p.1.toNat < 256; have := c.2; omega, by show p.2.length ≤ 1048576; omega, hby p hpm⟩
      have hlen : (encS (p.1.toNat, p.2)).length = p.2.length + 11 := encS_len _
      have hH : (encH (p.1.toNat, p.2)).length = p.2.length + 7 := by simp only [encH, List.length_append, List.length_cons, List.length_nil]; omega
      obtain ⟨K1, h1⟩ := ends_eq (encH (p.1.toNat, p.2)) (encH_lt _ hok) (by omega)
      obtain ⟨K2, h2⟩ := ih (i + 1) (acc ++ encS (p.1.toNat, p.2)) (by omega) hd2.symm hrest (by rw [List.length_append]; omega)
      refine ⟨K1 + K2 + 3, fun k hk => ?_⟩
      obtain ⟨k, rfl⟩ : ∃ q, k = q + 1 := ⟨k - 1, by omega⟩
      have hb := begins_eq (p.2.length % 256) (p.2.length / 256 % 256) (p.2.length / 65536 % 256) (by omega) (by omega) (by omega)
      rw [show p.2.length % 256 + 256 * (p.2.length / 256 % 256) + 65536 * (p.2.length / 65536 % 256) = p.2.length by omega] at hb
      have hkind : ([p.1 % 256] : List Int) = ints [p.1.toNat] := by
        have := c.1
        have := c.2
        simp only [ints, List.map_cons, List.map_nil]; congr 1; omega
      simp only [rec_Bytes.l0]
      rw [if_pos (by omega), if_pos (by omega), if_pos (by omega), hr, hright k (by omega), if_pos c, Option.bind_some, if_pos rfl, ints_len, hb, Option.bind_some, hkind, Option.bind_some, if_pos (by simp [ints]), Option.bind_some, ← ints_append,
        if_pos (by simp only [ints_len, List.length_append, List.length_cons, List.length_nil]; omega), Option.bind_some, ← ints_append]
      have e : [p.2.length % 256, p.2.length / 256 % 256, p.2.length / 65536 % 256, 255 - p.2.length % 256, 255 - p.2.length / 256 % 256, 255 - p.2.length / 65536 % 256] ++ [p.1.toNat] ++ p.2 = encH (p.1.toNat, p.2) := by
        unfold encH; simp only [List.cons_append, List.nil_append]
      rw [e, if_pos (by rw [ints_len, ints_len, hH]; omega), Option.bind_some, ← ints_append, h1 _ (by omega), Option.bind_some,
        if_pos (by rw [ints_len, ints_len, List.length_append, hH]; simp only [tail4, List.length_cons, List.length_nil]; omega), ← ints_append, wrap_in (n := (i : Int) + 1) (by omega) (by omega)]
      have hh := h2 k (by omega)
      rw [show (((i + 1 : Nat)) : Int) = (i : Int) + 1 by omega] at hh
      rw [show acc ++ encH (p.1.toNat, p.2) ++ tail4 (crc (encH (p.1.toNat, p.2))) = acc ++ encS (p.1.toNat, p.2) by unfold encS; rw [List.append_assoc], hh]
    · refine ⟨2, fun k hk => ?_⟩
      obtain ⟨k, rfl⟩ : ∃ q, k = q + 1 := ⟨k - 1, by omega⟩
      simp only [rec_Bytes.l0]
      rw [if_pos (by omega), if_pos (by omega), if_pos (by omega), hr, hright k (by omega), if_neg c, Option.bind_some, if_neg (by omega)]
theorem RecBytes_all (l : List (Int × List Nat)) (hby : ∀ p ∈ l, ∀ b ∈ p.2, b < 256) (hll : l.length < 4611686018427387904) : ∃ k, mutoscopelaw04_RecBytes.f k (mkI l) = some true := by
  have hsmall : ∀ k, l.length < k → mutoscopelaw04_small.f k (mkI l) = some (l.all (fun p => decide (p.2.length ≤ 2000)) && decide ((l.length : Int) ≤ 30)) := by
    intro k hk
    unfold mutoscopelaw04_small.f
    have := small_l0 (mkI l) l hll l 0 k (Nat.zero_le _) rfl hk
    rw [mkI_len] at this ⊢
    exact this
  by_cases c : (l.all (fun p => decide (p.2.length ≤ 2000)) && decide ((l.length : Int) ≤ 30)) = true
  · rw [c] at hsmall
    rw [Bool.and_eq_true] at c
    have hl : l.length ≤ 30 := by have := of_decide_eq_true c.2; omega
    have hsm : ∀ p ∈ l, p.2.length ≤ 2000 := fun p hp => of_decide_eq_true (List.all_eq_true.1 c.1 p hp)
    have l1 := mkI_len l
    have hN : (toN l).length = l.length := by simp [toN]
    have hokN : (∀ p ∈ l, okI p) → ∀ q ∈ toN l, okRec q := by
      intro h q hq
      obtain ⟨p, hp, rfl⟩ := List.mem_map.1 hq
      have h1 := h p hp
      have h2 := hsm p hp
      exact ⟨by show p.1.toNat < 256; have := h1.2; omega, by show p.2.length ≤ 1048576; omega, hby p hp⟩
    have hlenN : ((toN l).flatMap encS).length ≤ 60330 := by
      have hacc : ∀ (a : List (Nat × List Nat)), (∀ q ∈ a, q.2.length ≤ 2000) → (a.flatMap encS).length ≤ a.length * 2011 := by
        intro a
        induction a with
        | nil => intro _; simp
        | cons q a iha =>
          intro h
          have h0 := h q (List.mem_cons_self ..)
          have h3 := iha (fun x hx => h x (List.mem_cons_of_mem _ hx))
          rw [List.flatMap_cons, List.length_append, encS_len, List.length_cons]; omega
      have := hacc (toN l) (by
        intro q hq
        obtain ⟨y, hy, rfl⟩ := List.mem_map.1 hq
        exact hsm y hy)
      omega
    have fin0 : ∃ K, (∀ p ∈ l, okI p) → ∀ k, K ≤ k → mutoscopelaw04_RecBytes.l0 (k + 1) (mkI l) (strOfNums (ints ((toN l).flatMap encS))) 0 (mkI l) (l.length : Int) (l.length : Int) = some true := by
      by_cases hok : ∀ p ∈ l, okI p
      · obtain ⟨K1, h1⟩ := bytes_eq (toN l) (by omega) (hokN hok)
        obtain ⟨K2, h2⟩ := all_enc ((toN l).flatMap encS) (enc_lt _ (hokN hok)) (by omega) (toN l) [] 0 (hokN hok) (by omega) rfl (by simp)
        refine ⟨K1 + K2 + l.length + 3, fun _ k hk => ?_⟩
        obtain ⟨k, rfl⟩ : ∃ q, k = q + 1 := ⟨k - 1, by omega⟩
        have e1 := h1 (k + 1) (by omega)
        have e2 : rec_All.f (k + 1) (ints ((toN l).flatMap encS)) = some (mk27 (toN l), (((toN l).flatMap encS).length : Int), 0) := h2 (k + 1) (by omega)
        have lk : (mk27 (toN l)).length = l.length := by simp [mk27, toN]
        have hj2 : ∀ k, l.length < k → mutoscopelaw04_RecBytes.j2 (k + 1) (mk27 (toN l)) (ints ((toN l).flatMap encS)) (mk27 (toN l)) (((mk27 (toN l)).length : Int) != ((mk27 (toN l)).length : Int)) = some true := by
          intro k hk
          simp only [mutoscopelaw04_RecBytes.j2]
          rw [if_neg (by simp)]
          have := size_sum (toN l) (toN l) 0 k 0 (ints ((toN l).flatMap encS)) (Nat.zero_le _) rfl (hokN hok) (by omega) (by rw [ints_len]; omega) (by rw [ints_len]; omega) (by omega)
          rw [lk]
          rw [hN] at this
          exact this
        rw [mkI_toN l hok]
        simp only [mutoscopelaw04_RecBytes.l0]
        rw [if_neg (by omega), e1, Option.bind_some, if_pos trivial, e2, Option.bind_some, if_pos rfl, if_pos rfl, if_pos (by rw [ints_len]), if_pos rfl]
        exact hj2 k (by omega)
      · exact ⟨0, fun h => absurd h hok⟩
    have fin1 : ∃ K, (¬ ∀ p ∈ l, okI p) → ∀ x3 k, K ≤ k → mutoscopelaw04_RecBytes.l0 (k + 1) (mkI l) x3 11 (mkI l) (l.length : Int) (l.length : Int) = some true := by
      by_cases hok : ∀ p ∈ l, okI p
      · exact ⟨0, fun h => absurd hok h⟩
      · obtain ⟨K1, h1⟩ := bytes_bad l hl hsm hby l 0 [] (Nat.zero_le _) rfl hok (by simp)
        refine ⟨K1 + 1, fun _ x3 k hk => ?_⟩
        have e1 : rec_Bytes.f k (mkI l) = some ([], 11) := by
          unfold rec_Bytes.f
          rw [l1]
          exact h1 k (by omega)
        simp only [mutoscopelaw04_RecBytes.l0]
        rw [if_neg (by omega), e1, Option.bind_some, if_neg (by omega), if_pos rfl, if_pos (by simp)]
        rfl
    obtain ⟨Ka, ha⟩ := fin0
    obtain ⟨Kb, hb⟩ := fin1
    obtain ⟨K, hK⟩ := loop_good l hl hsm hby (Ka + Kb) (fun h k hk => ha h k (by omega)) (fun h x3 k hk => hb h x3 k (by omega)) l 0 (Nat.zero_le _) rfl (by intro p hp; rw [List.take_zero] at hp; cases hp)
    refine ⟨K + l.length + 1, ?_⟩
    unfold mutoscopelaw04_RecBytes.f
    rw [hsmall _ (by omega), Option.bind_some, if_pos rfl]
    have := hK (K + l.length + 1) (by omega)
    rw [l1]
    exact this
  · refine ⟨l.length + 1, ?_⟩
    unfold mutoscopelaw04_RecBytes.f
    rw [hsmall _ (by omega), Option.bind_some, if_neg c]
    rfl

end Go.Proofs.Ytcpakbppnkknlaa.PureRecBytes
