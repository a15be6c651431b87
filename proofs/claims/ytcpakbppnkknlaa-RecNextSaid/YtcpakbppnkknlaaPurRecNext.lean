/- The plain law of RecNext: any bytes begin with a record, or not, as the reference says, and a decoded record has exactly these bytes. -/
import Derived.Test.YtcpakbppnkknlaaQRecNextc
import Derived.Laws.BitsLemmas
import Derived.Laws.Strings
namespace Go.Proofs.Ytcpakbppnkknlaa.PureRecNext
open Go Go.RowKit Go.Proofs.Ytcpakbppnkknlaa.QRecNext Go.Proofs.YtcpakbppnkknlaaW.PrintWords Go.Proofs.YtcpakbppnkknlaaW.PrintLast Go.Proofs.YtcpakbppnkknlaaW.PrintMore
/-- One step of the sum, on a number: the message's later bits come down. -/
def U (x : Nat) : Nat := if x % 2 = 1 then (x / 2) ^^^ 3988292384 else x / 2
def Un : Nat → Nat → Nat
  | 0, x => x
  | n + 1, x => Un n (U x)
theorem xor_cancel (a b p : Nat) : (a ^^^ p) ^^^ (b ^^^ p) = a ^^^ b := by
  apply Nat.eq_of_testBit_eq; intro i; simp only [Nat.testBit_xor]; cases a.testBit i <;> cases b.testBit i <;> cases p.testBit i <;> rfl
theorem xor_left (a b p : Nat) : (a ^^^ p) ^^^ b = (a ^^^ b) ^^^ p := by
  apply Nat.eq_of_testBit_eq; intro i; simp only [Nat.testBit_xor]; cases a.testBit i <;> cases b.testBit i <;> cases p.testBit i <;> rfl
theorem xor_right (a b p : Nat) : a ^^^ (b ^^^ p) = (a ^^^ b) ^^^ p := by
  apply Nat.eq_of_testBit_eq; intro i; simp only [Nat.testBit_xor]; cases a.testBit i <;> cases b.testBit i <;> cases p.testBit i <;> rfl
theorem xor_half (a b : Nat) : (a ^^^ b) / 2 = a / 2 ^^^ b / 2 := by
  apply Nat.eq_of_testBit_eq; intro i; simp only [Nat.testBit_div_two, Nat.testBit_xor]
theorem odd_bit (a : Nat) : a % 2 = 1 ↔ a.testBit 0 = true := by simp [Nat.testBit_zero]
theorem U_xor (a b : Nat) : U (a ^^^ b) = U a ^^^ U b := by
  unfold U
  have h : ((a ^^^ b) % 2 = 1) ↔ ¬ ((a % 2 = 1) ↔ (b % 2 = 1)) := by
    simp only [odd_bit, Nat.testBit_xor]; cases a.testBit 0 <;> cases b.testBit 0 <;> simp
  rw [xor_half]
  by_cases ha : a % 2 = 1 <;> by_cases hb : b % 2 = 1
  · rw [if_neg (by rw [h]; simp [ha, hb]), if_pos ha, if_pos hb, xor_cancel]
  · rw [if_pos (by rw [h]; simp [ha, hb]), if_pos ha, if_neg hb, xor_left]
  · rw [if_pos (by rw [h]; simp [ha, hb]), if_neg ha, if_pos hb, xor_right]
  · rw [if_neg (by rw [h]; simp [ha, hb]), if_neg ha, if_neg hb]
theorem Un_xor : ∀ (n a b : Nat), Un n (a ^^^ b) = Un n a ^^^ Un n b
  | 0, _, _ => rfl
  | n + 1, a, b => by rw [Un, Un, Un, U_xor, Un_xor n]
theorem Un_add : ∀ (m n x : Nat), Un (m + n) x = Un n (Un m x)
  | 0, n, x => by rw [Nat.zero_add]; rfl
  | m + 1, n, x => by rw [Nat.add_right_comm, Un, Un, Un_add m]
theorem U_even (x : Nat) : U (2 * x) = x := by unfold U; rw [if_neg (by omega)]; omega
theorem Un_shift : ∀ (n x : Nat), Un n (2 ^ n * x) = x
  | 0, x => by simp [Un]
  | n + 1, x => by rw [Un, Nat.pow_succ, Nat.mul_comm (2 ^ n) 2, Nat.mul_assoc, U_even, Un_shift n]
theorem U_zero : U 0 = 0 := by unfold U; simp
theorem Un_zero : ∀ n, Un n 0 = 0
  | 0 => rfl
  | n + 1 => by rw [Un, U_zero, Un_zero n]
theorem U_lt {x : Nat} (h : x < 4294967296) : U x < 4294967296 := by
  unfold U
  split
  · exact Nat.xor_lt_two_pow (n := 32) (by omega) (by omega)
  · omega
theorem U_ne {x : Nat} (h : x < 4294967296) (h0 : x ≠ 0) : U x ≠ 0 := by
  unfold U
  split
  · intro e
    have : x / 2 = 3988292384 := by
      have e2 := congrArg (fun y => y ^^^ 3988292384) e
      simp only [Nat.xor_assoc, Nat.xor_self, Nat.xor_zero, Nat.zero_xor] at e2
      exact e2
    omega
  · omega
theorem Un_lt : ∀ (n : Nat) {x : Nat}, x < 4294967296 → Un n x < 4294967296
  | 0, _, h => h
  | n + 1, _, h => Un_lt n (U_lt h)
theorem Un_ne : ∀ (n : Nat) {x : Nat}, x < 4294967296 → x ≠ 0 → Un n x ≠ 0
  | 0, _, _, h => h
  | n + 1, _, h, h0 => Un_ne n (U_lt h) (U_ne h h0)
/-- A part below a power of two, and a part above: added, or exclusively ored. -/
theorem add_xor (i a b : Nat) (h : b < 2 ^ i) : 2 ^ i * a + b = b ^^^ (2 ^ i * a) := by
  apply Nat.eq_of_testBit_eq; intro j
  rw [Nat.testBit_two_pow_mul_add a h, Nat.testBit_xor]
  have h2 : (2 ^ i * a).testBit j = if j < i then false else a.testBit (j - i) := by
    have := Nat.testBit_two_pow_mul_add a (Nat.two_pow_pos i) j
    rw [Nat.add_zero] at this
    rw [this]; simp
  rw [h2]
  by_cases hj : j < i
  · rw [if_pos hj, if_pos hj]; simp
  · rw [if_neg hj, if_neg hj, Nat.testBit_lt_two_pow (Nat.lt_of_lt_of_le h (Nat.pow_le_pow_right (by decide) (by omega)))]; simp
theorem Un_split (n x : Nat) : Un n x = Un n (x % 2 ^ n) ^^^ x / 2 ^ n := by
  have h := Nat.div_add_mod x (2 ^ n)
  have h2 : Un n x = Un n (2 ^ n * (x / 2 ^ n) + x % 2 ^ n) := by rw [h]
  rw [h2, add_xor n _ _ (Nat.mod_lt _ (Nat.two_pow_pos n)), Un_xor, Un_shift]
/-- The state behind bytes. -/
def run (r : Nat) (l : List Nat) : Nat := l.foldl (fun r b => Un 8 (r ^^^ b)) r
/-- Bytes as one number, the first the lowest. -/
def num : List Nat → Nat
  | [] => 0
  | b :: l => b + 256 * num l
theorem run_num : ∀ (l : List Nat) (r : Nat), (∀ b ∈ l, b < 256) → run r l = Un (8 * l.length) (r ^^^ num l)
  | [], r, _ => by simp [run, Un, num]
  | b :: l, r, h => by
    have hb : b < 2 ^ 8 := h b (List.mem_cons_self ..)
    show run (Un 8 (r ^^^ b)) l = _
    rw [run_num l _ (fun x hx => h x (List.mem_cons_of_mem _ hx)), List.length_cons, Nat.mul_add, Nat.mul_one, Nat.add_comm (8 * l.length) 8, Un_add, num]
    congr 1
    have : b + 256 * num l = 2 ^ 8 * num l + b := by omega
    rw [this, add_xor 8 _ _ hb, ← Nat.xor_assoc, Un_xor 8 (r ^^^ b), Un_shift]
theorem run_append (r : Nat) (l m : List Nat) : run r (l ++ m) = run (run r l) m := by unfold run; rw [List.foldl_append]
theorem run_lt : ∀ (l : List Nat) (r : Nat), r < 4294967296 → (∀ b ∈ l, b < 256) → run r l < 4294967296
  | [], _, h, _ => h
  | b :: l, r, h, hb => run_lt l _ (Un_lt 8 (Nat.xor_lt_two_pow (n := 32) (by omega) (by have := hb b (List.mem_cons_self ..); omega))) (fun x hx => hb x (List.mem_cons_of_mem _ hx))
theorem wrap_in {n : Int} (h : -9223372036854775808 ≤ n) (h' : n ≤ 9223372036854775807) : wrap64 n = n := by unfold wrap64; omega
theorem wraps_u32 (n : Int) (h₀ : 0 ≤ n) (h₁ : n < 2 ^ 32) : IntKind.u32.wrap n = n := by rw [IntKind.wrap_u32]; omega
theorem xor32 (a b : Nat) (ha : a < 4294967296) (hb : b < 4294967296) : Go.bits .xor .u32 (a : Int) (b : Int) = ((a ^^^ b : Nat) : Int) := by
  have hx : a ^^^ b < 2 ^ 32 := Nat.xor_lt_two_pow (n := 32) (by omega) (by omega)
  have ha' : a % 2 ^ 32 = a := Nat.mod_eq_of_lt (by omega)
  have hb' : b % 2 ^ 32 = b := Nat.mod_eq_of_lt (by omega)
  have hT : (BitVec.ofNat 32 a ^^^ BitVec.ofNat 32 b).toNat = a ^^^ b := by rw [BitVec.toNat_xor, BitVec.toNat_ofNat, BitVec.toNat_ofNat, ha', hb']
  show IntKind.u32.wrap (((BitVec.ofInt 32 (a : Int) ^^^ BitVec.ofInt 32 (b : Int)).toNat : Nat) : Int) = _
  rw [BitVec.ofInt_natCast, BitVec.ofInt_natCast, hT]
  exact wraps_u32 _ (Int.natCast_nonneg _) (by exact_mod_cast hx)
theorem xor8 (a b : Nat) (ha : a < 256) (hb : b < 256) : Go.bits .xor .u8 (a : Int) (b : Int) = ((a ^^^ b : Nat) : Int) := by
  have hx : a ^^^ b < 2 ^ 8 := Nat.xor_lt_two_pow (n := 8) (by omega) (by omega)
  have ha' : a % 2 ^ 8 = a := Nat.mod_eq_of_lt (by omega)
  have hb' : b % 2 ^ 8 = b := Nat.mod_eq_of_lt (by omega)
  have hT : (BitVec.ofNat 8 a ^^^ BitVec.ofNat 8 b).toNat = a ^^^ b := by rw [BitVec.toNat_xor, BitVec.toNat_ofNat, BitVec.toNat_ofNat, ha', hb']
  show IntKind.u8.wrap (((BitVec.ofInt 8 (a : Int) ^^^ BitVec.ofInt 8 (b : Int)).toNat : Nat) : Int) = _
  rw [BitVec.ofInt_natCast, BitVec.ofInt_natCast, hT]
  exact Go.wraps_u8 _ (Int.natCast_nonneg _) (by exact_mod_cast hx)
theorem and1 (a : Nat) (ha : a < 4294967296) : Go.bits .and .u32 (a : Int) 1 = ((a % 2 : Nat) : Int) := by
  have h := (Go.bits_nat .u32 32 (by decide) wraps_u32 a 1 ha (by decide)).1
  rw [Nat.and_one_is_mod] at h
  exact h
theorem and15 (a : Nat) (ha : a < 4294967296) : Go.bits .and .u32 (a : Int) 15 = ((a % 16 : Nat) : Int) := by
  have h := (Go.bits_nat .u32 32 (by decide) wraps_u32 a 15 ha (by decide)).1
  rw [show (15 : Nat) = 2 ^ 4 - 1 by decide, Nat.and_two_pow_sub_one_eq_mod] at h
  exact h
theorem table_l : ∀ (j k x : Nat) (i : Int), i = 4 - (j : Int) → j ≤ 4 → x < 4294967296 → j < k → crc_table.l0 k (x : Int) i = some ((Un j x : Nat) : Int) := by
  intro j
  induction j with
  | zero =>
    intro k x i hi _ _ hk
    obtain ⟨k, rfl⟩ : ∃ m, k = m + 1 := ⟨k - 1, by omega⟩
    simp only [crc_table.l0]; rw [if_neg (by omega)]; rfl
  | succ j ih =>
    intro k x i hi hj hx hk
    obtain ⟨k, rfl⟩ : ∃ m, k = m + 1 := ⟨k - 1, by omega⟩
    simp only [crc_table.l0]
    rw [if_pos (by omega), wrap_in (n := i + 1) (by omega) (by omega), and1 x hx, show ((x : Int) / 2) = ((x / 2 : Nat) : Int) by omega]
    have hU : Un (j + 1) x = Un j (U x) := rfl
    rw [hU]
    by_cases h : x % 2 = 1
    · rw [if_pos (by omega)]
      have e : Go.bits .xor .u32 ((x / 2 : Nat) : Int) 3988292384 = ((U x : Nat) : Int) := by
        unfold U; rw [if_pos h]; exact xor32 _ 3988292384 (by omega) (by omega)
      rw [e]
      exact ih k _ _ (by omega) (by omega) (U_lt hx) (by omega)
    · rw [if_neg (by omega)]
      have e : ((x / 2 : Nat) : Int) = ((U x : Nat) : Int) := by unfold U; rw [if_neg h]
      rw [e]
      exact ih k _ _ (by omega) (by omega) (U_lt hx) (by omega)
theorem table_eq (k x : Nat) (hx : x < 4294967296) (hk : 5 ≤ k) : crc_table.f k (x : Int) = some ((Un 4 x : Nat) : Int) := table_l 4 k x 0 (by omega) (by omega) hx (by omega)
theorem step_eq (k r b : Nat) (hr : r < 4294967296) (hb : b < 256) (hk : 5 ≤ k) : crc_step.f k (r : Int) (b : Int) = some ((Un 8 (r ^^^ b) : Nat) : Int) := by
  have hx : r ^^^ b < 4294967296 := Nat.xor_lt_two_pow (n := 32) (by omega) (by omega)
  have h4 : ∀ y : Nat, Un 4 y = Un 4 (y % 16) ^^^ y / 16 := fun y => Un_split 4 y
  have ht : ∀ y : Nat, Un 4 (y % 16) < 4294967296 := fun y => Un_lt 4 (by omega)
  have hs : ∀ y : Nat, y < 4294967296 → y / 16 ^^^ Un 4 (y % 16) = Un 4 y := fun y _ => by rw [h4 y, Nat.xor_comm]
  unfold crc_step.f
  rw [show ((b : Int) % 4294967296) = (b : Int) by omega, xor32 r b hr (by omega), and15 _ hx, table_eq k _ (by omega) hk, Option.bind_some,
    show (((r ^^^ b : Nat) : Int) / 16) = (((r ^^^ b) / 16 : Nat) : Int) by omega, xor32 _ _ (by omega) (ht _), hs _ hx]
  have hy : Un 4 (r ^^^ b) < 4294967296 := Un_lt 4 hx
  rw [and15 _ hy, table_eq k _ (by omega) hk, Option.bind_some, show (((Un 4 (r ^^^ b) : Nat) : Int) / 16) = ((Un 4 (r ^^^ b) / 16 : Nat) : Int) by omega, xor32 _ _ (by omega) (ht _), hs _ hy, ← Un_add 4 4]
/-- Numbers, as the printed functions hold them. -/
def ints (l : List Nat) : List Int := l.map (fun n : Nat => (n : Int))
theorem ints_len (l : List Nat) : (ints l).length = l.length := by simp [ints]
theorem ints_of (l : List Int) (h : ∀ n ∈ l, 0 ≤ n ∧ n < 256) : ∃ m : List Nat, l = ints m ∧ ∀ b ∈ m, b < 256 := by
  refine ⟨l.map Int.toNat, ?_, ?_⟩
  · unfold ints
    rw [List.map_map]
    conv => lhs; rw [← List.map_id l]
    apply List.map_congr_left
    intro a ha
    have := h a ha
    simp; omega
  · intro b hb
    obtain ⟨a, ha, rfl⟩ := List.mem_map.1 hb
    have := h a ha
    omega
theorem ints_rd (l : List Nat) (i : Nat) (h : i < l.length) : rd (ints l) (i : Int) = ((l[i] : Nat) : Int) := by
  unfold rd ints
  rw [Int.toNat_natCast, List.getD_eq_getElem?_getD, List.getElem?_map, List.getElem?_eq_getElem h]; rfl
theorem sum_l1 (ls : List (List Int)) (i : Int) (row : List Nat) (n : Int) (hrow : ∀ b ∈ row, b < 256) (hlen : row.length < 4611686018427387904) (K : Nat) (hK : 5 ≤ K) (R : Int) :
    ∀ (t : List Nat) (x j k : Nat), j ≤ row.length → row.drop j = t → x < 4294967296 → (∀ k, K ≤ k → crc_Sum.l0 k ((run x t : Nat) : Int) ls n (wrap64 (i + 1)) = some R) → K + t.length + 1 ≤ k →
    crc_Sum.l1 k (x : Int) ls n i (ints row) ((ints row).length : Int) (j : Int) = some R := by
  intro t
  induction t with
  | nil =>
    intro x j k hj ht hx h0 hk
    have := congrArg List.length ht
    rw [List.length_drop, List.length_nil] at this
    obtain ⟨k, rfl⟩ : ∃ m, k = m + 1 := ⟨k - 1, by omega⟩
    simp only [crc_Sum.l1]; rw [if_neg (by rw [ints_len]; omega)]
    exact h0 k (by simp only [List.length_nil] at hk; omega)
  | cons b t ih =>
    intro x j k hj ht hx h0 hk
    have hlt : j < row.length := by
      have := congrArg List.length ht
      rw [List.length_drop, List.length_cons] at this; omega
    have hd := List.drop_eq_getElem_cons hlt
    rw [ht] at hd
    injection hd with hd1 hd2
    have hb : b < 256 := by rw [hd1]; exact hrow _ (List.getElem_mem hlt)
    rw [List.length_cons] at hk
    obtain ⟨k, rfl⟩ : ∃ m, k = m + 1 := ⟨k - 1, by omega⟩
    have hr := ints_rd row j hlt
    rw [← hd1] at hr
    simp only [crc_Sum.l1]
    rw [if_pos (by rw [ints_len]; omega), if_pos (by omega), if_pos (by rw [ints_len]; omega), hr, step_eq k x b hx hb (by omega), Option.bind_some, wrap_in (n := (j : Int) + 1) (by omega) (by omega)]
    have hx' : Un 8 (x ^^^ b) < 4294967296 := Un_lt 8 (Nat.xor_lt_two_pow (n := 32) (by omega) (by omega))
    exact ih (Un 8 (x ^^^ b)) (j + 1) k (by omega) hd2.symm hx' h0 (by omega)
theorem sum_l0 (ls : List (List Nat)) (hls : ∀ row ∈ ls, (∀ b ∈ row, b < 256) ∧ row.length < 4611686018427387904) (hn : ls.length < 4611686018427387904) :
    ∀ (t : List (List Nat)) (x i : Nat), i ≤ ls.length → ls.drop i = t → x < 4294967296 → ∃ K, ∀ k, K ≤ k →
    crc_Sum.l0 k (x : Int) (ls.map ints) (ls.length : Int) (i : Int) = some ((run x t.flatten ^^^ 4294967295 : Nat) : Int) := by
  intro t
  induction t with
  | nil =>
    intro x i hi ht hx
    refine ⟨1, fun k hk => ?_⟩
    have := congrArg List.length ht
    rw [List.length_drop, List.length_nil] at this
    obtain ⟨k, rfl⟩ : ∃ m, k = m + 1 := ⟨k - 1, by omega⟩
    simp only [crc_Sum.l0]; rw [if_neg (by omega)]
    have := xor32 x 4294967295 hx (by omega)
    rw [show ((4294967295 : Nat) : Int) = 4294967295 from rfl] at this
    rw [this]; rfl
  | cons row t ih =>
    intro x i hi ht hx
    have hlt : i < ls.length := by
      have := congrArg List.length ht
      rw [List.length_drop, List.length_cons] at this; omega
    have hd := List.drop_eq_getElem_cons hlt
    rw [ht] at hd
    injection hd with hd1 hd2
    have hrow := hls row (by rw [hd1]; exact List.getElem_mem hlt)
    obtain ⟨K, hK⟩ := ih (run x row) (i + 1) (by omega) hd2.symm (run_lt row x hx hrow.1)
    refine ⟨K + 5 + row.length + 2, fun k hk => ?_⟩
    obtain ⟨k, rfl⟩ : ∃ m, k = m + 1 := ⟨k - 1, by omega⟩
    have hr : rd_L1 (ls.map ints) (i : Int) = ints row := by
      unfold rd_L1
      rw [Int.toNat_natCast, List.getD_eq_getElem?_getD, List.getElem?_map, List.getElem?_eq_getElem hlt, hd1]; rfl
    simp only [crc_Sum.l0]
    rw [if_pos (by omega), if_pos (by omega), if_pos (by rw [List.length_map]; omega), hr]
    refine sum_l1 (ls.map ints) i row ls.length hrow.1 hrow.2 (K + 5) (by omega) _ row x 0 k (Nat.zero_le _) rfl hx (fun k' hk' => ?_) (by omega)
    rw [wrap_in (n := (i : Int) + 1) (by omega) (by omega)]
    have := hK k' (by omega)
    rw [show (((i + 1 : Nat)) : Int) = (i : Int) + 1 by omega] at this
    rw [this, List.flatten_cons, run_append]
/-- The sum of all bytes, as a number. -/
def crc (l : List Nat) : Nat := run 4294967295 l ^^^ 4294967295
theorem sum_eq (ls : List (List Nat)) (hls : ∀ row ∈ ls, (∀ b ∈ row, b < 256) ∧ row.length < 4611686018427387904) (hn : ls.length < 4611686018427387904) :
    ∃ K, ∀ k, K ≤ k → crc_Sum.f k (ls.map ints) = some ((crc ls.flatten : Nat) : Int) := by
  obtain ⟨K, hK⟩ := sum_l0 ls hls hn ls 4294967295 0 (Nat.zero_le _) rfl (by omega)
  refine ⟨K, fun k hk => ?_⟩
  unfold crc_Sum.f
  rw [List.length_map]
  exact hK k hk
theorem bt_str (l : List Nat) (hl : ∀ b ∈ l, b < 256) (i : Nat) (h : i < l.length) : bt (strOfNums (ints l)) (i : Int) = ((l[i] : Nat) : Int) := by
  have hb : l[i] < 256 := hl _ (List.getElem_mem h)
  have hs : i < (strOfNums (ints l)).size := by simp [strOfNums, ints, ByteArray.size, h]
  unfold bt
  rw [Int.toNat_natCast, dif_pos hs]
  have e : (strOfNums (ints l))[i] = UInt8.ofNat l[i] := by
    show (strOfNums (ints l)).data[i] = _
    simp [strOfNums, ints]
  rw [e]
  simp
  omega
theorem str_size (l : List Nat) : (strOfNums (ints l)).size = l.length := by simp [strOfNums, ints, ByteArray.size]
theorem str_append (l m : List Nat) : strOfNums (ints l) ++ strOfNums (ints m) = strOfNums (ints (l ++ m)) := by
  apply ByteArray.ext
  simp [strOfNums, ints]
theorem ref_l1 (s : ByteArray) (i : Int) (K : Nat) (R : Int) : ∀ (j x k : Nat) (c : Int), c = 8 - (j : Int) → j ≤ 8 → x < 4294967296 → (∀ k, K ≤ k → mutoscoperef01_Sum.l0 k s ((Un j x : Nat) : Int) (wrap64 (i + 1)) = some R) → K + j + 1 ≤ k →
    mutoscoperef01_Sum.l1 k s (x : Int) i c = some R := by
  intro j
  induction j with
  | zero =>
    intro x k c hc _ _ h0 hk
    obtain ⟨k, rfl⟩ : ∃ m, k = m + 1 := ⟨k - 1, by omega⟩
    simp only [mutoscoperef01_Sum.l1]; rw [if_neg (by omega)]
    exact h0 k (by omega)
  | succ j ih =>
    intro x k c hc hj hx h0 hk
    obtain ⟨k, rfl⟩ : ∃ m, k = m + 1 := ⟨k - 1, by omega⟩
    simp only [mutoscoperef01_Sum.l1]
    rw [if_pos (by omega), wrap_in (n := c + 1) (by omega) (by omega), Int.tmod_eq_emod_of_nonneg (by omega), Int.tdiv_eq_ediv_of_nonneg (by omega), show ((x : Int) / 2 % 4294967296) = ((x / 2 : Nat) : Int) by omega]
    by_cases h : x % 2 = 1
    · rw [if_pos (by omega)]
      have e : Go.bits .xor .u32 ((x / 2 : Nat) : Int) 3988292384 = ((U x : Nat) : Int) := by
        unfold U; rw [if_pos h]; exact xor32 _ 3988292384 (by omega) (by omega)
      rw [e]
      exact ih _ k _ (by omega) (by omega) (U_lt hx) h0 (by omega)
    · rw [if_neg (by omega)]
      have e : ((x / 2 : Nat) : Int) = ((U x : Nat) : Int) := by unfold U; rw [if_neg h]
      rw [e]
      exact ih _ k _ (by omega) (by omega) (U_lt hx) h0 (by omega)
theorem ref_l0 (l : List Nat) (hl : ∀ b ∈ l, b < 256) (hn : l.length < 4611686018427387904) : ∀ (t : List Nat) (x i : Nat), i ≤ l.length → l.drop i = t → x < 4294967296 → ∃ K, ∀ k, K ≤ k →
    mutoscoperef01_Sum.l0 k (strOfNums (ints l)) (x : Int) (i : Int) = some ((run x t ^^^ 4294967295 : Nat) : Int) := by
  intro t
  induction t with
  | nil =>
    intro x i hi ht hx
    refine ⟨1, fun k hk => ?_⟩
    have := congrArg List.length ht
    rw [List.length_drop, List.length_nil] at this
    obtain ⟨k, rfl⟩ : ∃ m, k = m + 1 := ⟨k - 1, by omega⟩
    simp only [mutoscoperef01_Sum.l0]; rw [if_neg (by rw [str_size]; omega)]
    have := xor32 x 4294967295 hx (by omega)
    rw [show ((4294967295 : Nat) : Int) = 4294967295 from rfl] at this
    rw [this]; rfl
  | cons b t ih =>
    intro x i hi ht hx
    have hlt : i < l.length := by
      have := congrArg List.length ht
      rw [List.length_drop, List.length_cons] at this; omega
    have hd := List.drop_eq_getElem_cons hlt
    rw [ht] at hd
    injection hd with hd1 hd2
    have hb : b < 256 := by rw [hd1]; exact hl _ (List.getElem_mem hlt)
    have hr := bt_str l hl i hlt
    rw [← hd1] at hr
    have hxb : x ^^^ b < 4294967296 := Nat.xor_lt_two_pow (n := 32) (by omega) (by omega)
    obtain ⟨K, hK⟩ := ih (Un 8 (x ^^^ b)) (i + 1) (by omega) hd2.symm (Un_lt 8 hxb)
    refine ⟨K + 10, fun k hk => ?_⟩
    obtain ⟨k, rfl⟩ : ∃ m, k = m + 1 := ⟨k - 1, by omega⟩
    simp only [mutoscoperef01_Sum.l0]
    rw [if_pos (by rw [str_size]; omega), if_pos (by omega), hr, show ((b : Int) % 4294967296) = (b : Int) by omega, xor32 x b hx (by omega)]
    refine ref_l1 _ i K _ 8 _ k 0 (by omega) (by omega) hxb (fun k' hk' => ?_) (by omega)
    rw [wrap_in (n := (i : Int) + 1) (by omega) (by omega)]
    exact hK k' hk'
theorem ref_eq (l : List Nat) (hl : ∀ b ∈ l, b < 256) (hn : l.length < 4611686018427387904) : ∃ K, ∀ k, K ≤ k → mutoscoperef01_Sum.f k (strOfNums (ints l)) = some ((crc l : Nat) : Int) :=
  ref_l0 l hl hn l 4294967295 0 (Nat.zero_le _) rfl (by omega)
theorem str_list (l : List Nat) : (strOfNums (ints l)).toList = l.map UInt8.ofNat := by
  rw [ByteArray.toList_eq]
  simp [strOfNums, ints]
theorem u8_inj : ∀ (l m : List Nat), (∀ b ∈ l, b < 256) → (∀ b ∈ m, b < 256) → l.map UInt8.ofNat = m.map UInt8.ofNat → l = m
  | [], [], _, _, _ => rfl
  | [], _ :: _, _, _, h => by simp at h
  | _ :: _, [], _, _, h => by simp at h
  | a :: l, b :: m, hl, hm, h => by
    simp only [List.map_cons, List.cons.injEq] at h
    have ha := hl a (List.mem_cons_self ..)
    have hb := hm b (List.mem_cons_self ..)
    have e : a = b := by
      have := congrArg UInt8.toNat h.1
      simp at this
      omega
    rw [e, u8_inj l m (fun x hx => hl x (List.mem_cons_of_mem _ hx)) (fun x hx => hm x (List.mem_cons_of_mem _ hx)) h.2]
theorem equal_eq (l m : List Nat) (hl : ∀ b ∈ l, b < 256) (hm : ∀ b ∈ m, b < 256) : bytes_Equal.f (ints l) (ints m) = some (decide (l = m)) := by
  unfold bytes_Equal.f
  rw [str_list, str_list]
  congr 1
  by_cases h : l = m
  · subst h; simp
  · rw [decide_eq_false h, beq_eq_false_iff_ne]
    exact fun e => h (u8_inj l m hl hm e)
theorem wraps_i64 (n : Int) (h₀ : 0 ≤ n) (h₁ : n < 2 ^ 62) : IntKind.i64.wrap n = n := by rw [IntKind.wrap_i64]; omega
theorem or_low (i a b : Nat) (ha : a < 2 ^ i) (hb : 2 ^ i * b < 4611686018427387904) (ha' : a < 4611686018427387904) : Go.bits .or .i64 (a : Int) ((2 ^ i * b : Nat) : Int) = ((a + 2 ^ i * b : Nat) : Int) := by
  rw [(Go.bits_nat .i64 62 (by decide) wraps_i64 a (2 ^ i * b) ha' hb).2, Nat.or_comm, ← Nat.two_pow_add_eq_or_of_lt ha b, Nat.add_comm]
theorem inv8 : ∀ x : Nat, x < 256 → Go.bits .xor .u8 255 (x : Int) = ((255 - x : Nat) : Int) := by
  intro x hx
  have h := xor8 255 x (by omega) hx
  have h2 : ∀ y, y < 256 → 255 ^^^ y = 255 - y := by decide +kernel
  rw [h2 x hx] at h
  exact h
theorem begins_eq (a b c : Nat) (ha : a < 256) (hb : b < 256) (hc : c < 256) : rec_begins.f ((a + 256 * b + 65536 * c : Nat) : Int) = some (ints [a, b, c, 255 - a, 255 - b, 255 - c]) := by
  unfold rec_begins.f
  have e1 : (((a + 256 * b + 65536 * c : Nat) : Int)) % 256 = (a : Int) := by omega
  have e2 : (((a + 256 * b + 65536 * c : Nat) : Int)) / 256 % 256 = (b : Int) := by omega
  have e3 : (((a + 256 * b + 65536 * c : Nat) : Int)) / 65536 % 256 = (c : Int) := by omega
  rw [e1, e2, e3, inv8 a ha, inv8 b hb, inv8 c hc]
  rfl
/-- A sum's four bytes. -/
def tail4 (x : Nat) : List Nat := [x % 256, x / 256 % 256, x / 65536 % 256, x / 16777216 % 256]
theorem tail4_lt (x : Nat) : ∀ b ∈ tail4 x, b < 256 := by
  intro b hb
  simp only [tail4, List.mem_cons, List.not_mem_nil, or_false] at hb
  omega
theorem ends_eq (l : List Nat) (hl : ∀ b ∈ l, b < 256) (hn : l.length < 4611686018427387904) : ∃ K, ∀ k, K ≤ k → rec_ends.f k (ints l) = some (ints (tail4 (crc l))) := by
  obtain ⟨K, hK⟩ := sum_eq [l] (List.forall_mem_cons.2 ⟨⟨hl, hn⟩, (fun _ h => by cases h)⟩) (by simp)
  simp only [List.map_cons, List.map_nil, List.flatten_cons, List.flatten_nil, List.append_nil] at hK
  refine ⟨K, fun k hk => ?_⟩
  unfold rec_ends.f
  rw [hK k hk, Option.bind_some]
  simp only [tail4, ints, List.map_cons, List.map_nil]
  congr 1
def dlen (m : List Nat) : Nat := m.getD 0 0 + 256 * m.getD 1 0 + 65536 * m.getD 2 0
/-- The record with which bytes begin: kind, data, size, an error's number. -/
def nextS (m : List Nat) : Nat × List Nat × Nat × Nat :=
  if m.length < 6 then (0, [], 0, 16)
  else if ¬ (m.getD 0 0 + m.getD 3 0 = 255 ∧ m.getD 1 0 + m.getD 4 0 = 255 ∧ m.getD 2 0 + m.getD 5 0 = 255) then (0, [], 0, 10)
  else if dlen m > 1048576 then (0, [], 0, 17)
  else if m.length < dlen m + 11 then (0, [], 0, 16)
  else if tail4 (crc (m.take (dlen m + 7))) ≠ (m.take (dlen m + 11)).drop (dlen m + 7) then (0, [], 0, 18)
  else (m.getD 6 0, (m.take (dlen m + 7)).drop 7, dlen m + 11, 0)
theorem ints_take (m : List Nat) (n : Nat) : (ints m).take n = ints (m.take n) := by unfold ints; rw [List.map_take]
theorem ints_drop (m : List Nat) (n : Nat) : (ints m).drop n = ints (m.drop n) := by unfold ints; rw [List.map_drop]
theorem ints_nil : ints [] = [] := rfl
theorem rd_ints (m : List Nat) (i : Int) (j : Nat) (h : i = (j : Int)) : rd (ints m) i = ((m.getD j 0 : Nat) : Int) := by
  subst h
  unfold rd ints
  rw [Int.toNat_natCast, List.getD_eq_getElem?_getD, List.getElem?_map, List.getD_eq_getElem?_getD]
  cases m[j]? <;> rfl
theorem getD_lt (m : List Nat) (hm : ∀ b ∈ m, b < 256) (j : Nat) : m.getD j 0 < 256 := by
  rw [List.getD_eq_getElem?_getD]
  cases h : m[j]? with
  | none => simp
  | some x => exact hm x (List.mem_of_getElem? h)
theorem take6 (m : List Nat) (h : 6 ≤ m.length) : m.take 6 = [m.getD 0 0, m.getD 1 0, m.getD 2 0, m.getD 3 0, m.getD 4 0, m.getD 5 0] := by
  match m, h with
  | a :: b :: c :: d :: e :: f :: t, _ => rfl
theorem head_eq (a b c d e f : Nat) (ha : a < 256) (hb : b < 256) (hc : c < 256) : [a, b, c, 255 - a, 255 - b, 255 - c] = [a, b, c, d, e, f] ↔ (a + d = 255 ∧ b + e = 255 ∧ c + f = 255) := by
  simp only [List.cons.injEq, and_true, true_and]
  omega
theorem mem_take {m : List Nat} {n : Nat} (hm : ∀ b ∈ m, b < 256) : ∀ b ∈ m.take n, b < 256 := fun b hb => hm b (List.mem_of_mem_take hb)
theorem mem_drop {m : List Nat} {n : Nat} (hm : ∀ b ∈ m, b < 256) : ∀ b ∈ m.drop n, b < 256 := fun b hb => hm b (List.mem_of_mem_drop hb)
theorem size_eq (n : Nat) (h : n ≤ 1048576) : rec_Size.f (n : Int) = some ((n + 11 : Nat) : Int) := by
  unfold rec_Size.f
  rw [if_neg (by omega), if_neg (by omega), wrap_in (n := 7 + (n : Int)) (by omega) (by omega), wrap_in (n := 7 + (n : Int) + 4) (by omega) (by omega)]
  congr 1; omega
theorem clone_eq (m : List Nat) (h : m.length < 140737488355328) : bytes_Clone.f (ints m) = some (ints m) := by
  unfold bytes_Clone.f; rw [ints_len, if_pos h]
theorem next_eq (m : List Nat) (hm : ∀ b ∈ m, b < 256) (hl : m.length < 4611686018427387) : ∃ K, ∀ k, K ≤ k → rec_Next.f k (ints m) = some ((((nextS m).1 : Nat) : Int), ints (nextS m).2.1, (((nextS m).2.2.1 : Nat) : Int), (((nextS m).2.2.2 : Nat) : Int)) := by
  obtain ⟨K, hK⟩ := ends_eq (m.take (dlen m + 7)) (mem_take hm) (by rw [List.length_take]; omega)
  refine ⟨K, fun k hk => ?_⟩
  have g0 := getD_lt m hm 0
  have g1 := getD_lt m hm 1
  have g2 := getD_lt m hm 2
  unfold rec_Next.f nextS
  simp only [ints_len]
  by_cases c1 : m.length < 6
  · rw [if_pos (by omega), if_pos c1]; rfl
  rw [if_neg (by omega), if_neg c1, if_pos (by omega), if_pos (by omega), if_pos (by omega), rd_ints m 0 0 rfl, rd_ints m 1 1 rfl, rd_ints m 2 2 rfl,
    wrap_in (n := ((m.getD 0 0 : Nat) : Int)) (by omega) (by omega), wrap_in (n := ((m.getD 1 0 : Nat) : Int)) (by omega) (by omega), wrap_in (n := ((m.getD 2 0 : Nat) : Int)) (by omega) (by omega),
    wrap_in (n := ((m.getD 1 0 : Nat) : Int) * 256) (by omega) (by omega), wrap_in (n := ((m.getD 2 0 : Nat) : Int) * 65536) (by omega) (by omega)]
  have o1 := or_low 8 (m.getD 0 0) (m.getD 1 0) g0 (by omega) (by omega)
  have o2 := or_low 16 (m.getD 0 0 + 2 ^ 8 * m.getD 1 0) (m.getD 2 0) (by omega) (by omega) (by omega)
  rw [show ((m.getD 1 0 : Nat) : Int) * 256 = ((2 ^ 8 * m.getD 1 0 : Nat) : Int) by omega, show ((m.getD 2 0 : Nat) : Int) * 65536 = ((2 ^ 16 * m.getD 2 0 : Nat) : Int) by omega, o1, o2,
    show m.getD 0 0 + 2 ^ 8 * m.getD 1 0 + 2 ^ 16 * m.getD 2 0 = dlen m by unfold dlen; omega]
  clear o1 o2
  have hb := begins_eq (m.getD 0 0) (m.getD 1 0) (m.getD 2 0) g0 g1 g2
  rw [show m.getD 0 0 + 256 * m.getD 1 0 + 65536 * m.getD 2 0 = dlen m from rfl] at hb
  rw [hb, Option.bind_some, if_pos (by omega), ints_take, take6 m (by omega)]
  rw [equal_eq _ _ (by intro b hb; simp only [List.mem_cons, List.not_mem_nil, or_false] at hb; omega) (by rw [← take6 m (by omega)]; exact mem_take hm), Option.bind_some]
  have hh := head_eq (m.getD 0 0) (m.getD 1 0) (m.getD 2 0) (m.getD 3 0) (m.getD 4 0) (m.getD 5 0) g0 g1 g2
  by_cases c2 : m.getD 0 0 + m.getD 3 0 = 255 ∧ m.getD 1 0 + m.getD 4 0 = 255 ∧ m.getD 2 0 + m.getD 5 0 = 255
  · rw [if_pos (decide_eq_true (hh.2 c2)), if_neg (not_not_intro c2)]
    by_cases c3 : dlen m > 1048576
    · rw [if_pos (by omega), if_pos c3]; rfl
    rw [if_neg (by omega), if_neg c3, size_eq (dlen m) (by omega), Option.bind_some]
    by_cases c4 : m.length < dlen m + 11
    · rw [if_pos (by omega), if_pos c4]; rfl
    have w1 : Aside0 (wrap64 (((dlen m + 11 : Nat) : Int) - 4) = ((dlen m + 7 : Nat) : Int)) := ⟨by rw [wrap_in (by omega) (by omega)]; omega⟩
    rw [if_neg (by omega), if_neg c4, w1.out, if_pos (by omega), if_pos (by omega), Int.toNat_natCast, Int.toNat_natCast, ints_take, hK k hk, Option.bind_some, if_pos (by omega), if_pos (by omega), ints_take, ints_drop,
      equal_eq _ _ (tail4_lt _) (mem_drop (mem_take hm)), Option.bind_some]
    by_cases c5 : tail4 (crc (m.take (dlen m + 7))) = (m.take (dlen m + 11)).drop (dlen m + 7)
    · rw [if_pos (decide_eq_true c5), if_neg (not_not_intro c5), if_pos (by omega), if_pos (by omega), ints_drop, clone_eq _ (by rw [List.length_drop, List.length_take]; omega), Option.bind_some, rd_ints m 6 6 rfl]
      have g6 := getD_lt m hm 6
      rw [wrap_in (n := ((m.getD 6 0 : Nat) : Int)) (by omega) (by omega)]
      rfl
    · rw [if_neg (by rw [decide_eq_false c5]; simp), if_pos c5]; rfl
  · rw [if_neg (by rw [decide_eq_false (fun e => c2 (hh.1 e))]; simp), if_pos c2]; rfl
theorem bt_ints (m : List Nat) (hm : ∀ b ∈ m, b < 256) (i : Int) (j : Nat) (h : i = (j : Int)) (hj : j < m.length) : bt (strOfNums (ints m)) i = ((m.getD j 0 : Nat) : Int) := by
  subst h
  rw [bt_str m hm j hj, List.getD_eq_getElem?_getD, List.getElem?_eq_getElem hj]; rfl
theorem str_extract (m : List Nat) (a b : Nat) : (strOfNums (ints m)).extract a b = strOfNums (ints ((m.take b).drop a)) := by
  apply ByteArray.ext
  apply Array.ext'
  simp [strOfNums, ints, List.drop_take]
theorem str_nil : (⟨#[]⟩ : ByteArray) = strOfNums (ints []) := rfl
theorem sum4_l (x : Nat) (hx : x < 4294967296) : mutoscoperef04_Sum.l0 5 (x : Int) (strOfNums (ints [])) 0 = some (strOfNums (ints (tail4 x))) := by
  have st : ∀ (k y : Nat) (l : List Nat) (i : Int), 0 ≤ i → i < 4 → y < 4294967296 → l.length < 1000 → mutoscoperef04_Sum.l0 (k + 1) (y : Int) (strOfNums (ints l)) i = mutoscoperef04_Sum.l0 k ((y / 256 : Nat) : Int) (strOfNums (ints (l ++ [y % 256]))) (i + 1) := by
    intro k y l i h0 h4 hy hl
    have e1 : ([(Int.tmod (y : Int) 256) % 256] : List Int) = ints [y % 256] := by
      rw [Int.tmod_eq_emod_of_nonneg (by omega)]
      simp only [ints, List.map_cons, List.map_nil]
      congr 1; omega
    simp only [mutoscoperef04_Sum.l0]
    rw [if_pos h4, Option.bind_some, e1, str_size, str_size, if_pos (by simp only [List.length_cons, List.length_nil]; omega), str_append, wrap_in (n := i + 1) (by omega) (by omega), Int.tdiv_eq_ediv_of_nonneg (by omega), show ((y : Int) / 256 % 4294967296) = ((y / 256 : Nat) : Int) by omega]
  rw [st 4 x [] 0 (by omega) (by omega) hx (by simp), st 3 _ _ _ (by omega) (by omega) (by omega) (by simp), st 2 _ _ _ (by omega) (by omega) (by omega) (by simp), st 1 _ _ _ (by omega) (by omega) (by omega) (by simp)]
  simp only [mutoscoperef04_Sum.l0]
  rw [if_neg (by omega)]
  congr 3
  simp only [List.nil_append, List.cons_append, tail4, List.cons.injEq, and_true, true_and]
  omega
theorem crc_lt (l : List Nat) (hl : ∀ b ∈ l, b < 256) : crc l < 4294967296 := Nat.xor_lt_two_pow (n := 32) (run_lt l _ (by omega) hl) (by omega)
theorem sum4_eq (l : List Nat) (hl : ∀ b ∈ l, b < 256) (hn : l.length < 4611686018427387904) : ∃ K, ∀ k, K ≤ k → mutoscoperef04_Sum.f k (strOfNums (ints l)) = some (strOfNums (ints (tail4 (crc l)))) := by
  obtain ⟨K, hK⟩ := ref_eq l hl hn
  refine ⟨K + 5, fun k hk => at_rounds (g := fun k => mutoscoperef04_Sum.f k (strOfNums (ints l))) (fun k => mutoscoperef04_Sum.mono _ k) (k := K + 5) hk ?_⟩
  show mutoscoperef04_Sum.f (K + 5) (strOfNums (ints l)) = _
  unfold mutoscoperef04_Sum.f
  rw [hK _ (by omega), Option.bind_some, str_nil]
  exact at_rounds (g := fun k => mutoscoperef04_Sum.l0 k ((crc l : Nat) : Int) (strOfNums (ints [])) 0) (fun k => mutoscoperef04_Sum.mono_l k _ _ _) (k := 5) (by omega) (sum4_l _ (crc_lt l hl))
theorem refNext_step (m : List Nat) (hm : ∀ b ∈ m, b < 256) (k n i : Nat) (hi : i < 3) (hl : 6 ≤ m.length) (hn : n < 4294967296) :
    mutoscoperef04_Next.l0 (k + 1) (strOfNums (ints m)) (n : Int) (i : Int) = if m.getD i 0 + m.getD (i + 3) 0 = 255 then mutoscoperef04_Next.l0 k (strOfNums (ints m)) ((n * 256 + m.getD i 0 : Nat) : Int) ((i : Int) - 1) else some (0, strOfNums (ints []), 0, 10) := by
  have g0 := getD_lt m hm i
  have g3 := getD_lt m hm (i + 3)
  have w1 : Aside0 (wrap64 ((i : Int) + 3) = (i : Int) + 3) := ⟨wrap_in (by omega) (by omega)⟩
  have w2 : Aside0 (wrap64 ((i : Int) - 1) = (i : Int) - 1) := ⟨wrap_in (by omega) (by omega)⟩
  simp only [mutoscoperef04_Next.l0]
  rw [if_pos (by omega), if_pos (by omega), if_pos (by rw [str_size]; omega), w1.out, if_pos (by omega), if_pos (by rw [str_size]; omega), bt_ints m hm (i : Int) i rfl (by omega), bt_ints m hm ((i : Int) + 3) (i + 3) (by omega) (by omega), w2.out,
    wrap_in (n := ((m.getD i 0 : Nat) : Int)) (by omega) (by omega), wrap_in (n := ((m.getD (i + 3) 0 : Nat) : Int)) (by omega) (by omega), wrap_in (n := ((m.getD i 0 : Nat) : Int) + ((m.getD (i + 3) 0 : Nat) : Int)) (by omega) (by omega),
    wrap_in (n := (n : Int) * 256) (by omega) (by omega), wrap_in (n := (n : Int) * 256 + ((m.getD i 0 : Nat) : Int)) (by omega) (by omega)]
  by_cases c : m.getD i 0 + m.getD (i + 3) 0 = 255
  · rw [if_pos (by omega), if_pos c, show (n : Int) * 256 + ((m.getD i 0 : Nat) : Int) = ((n * 256 + m.getD i 0 : Nat) : Int) by omega]
  · rw [if_neg (by omega), if_neg c]; rfl
theorem refNext_eq (m : List Nat) (hm : ∀ b ∈ m, b < 256) (hl : m.length < 4611686018427387) : ∃ K, ∀ k, K ≤ k → mutoscoperef04_Next.f k (strOfNums (ints m)) = some ((((nextS m).1 : Nat) : Int), strOfNums (ints (nextS m).2.1), (((nextS m).2.2.1 : Nat) : Int), (((nextS m).2.2.2 : Nat) : Int)) := by
  obtain ⟨K, hK⟩ := sum4_eq (m.take (dlen m + 7)) (mem_take hm) (by rw [List.length_take]; omega)
  refine ⟨K + 4, fun k hk => ?_⟩
  obtain ⟨k, rfl⟩ : ∃ q, k = q + 1 + 1 + 1 + 1 := ⟨k - 4, by omega⟩
  have g0 := getD_lt m hm 0
  have g1 := getD_lt m hm 1
  have g2 := getD_lt m hm 2
  unfold mutoscoperef04_Next.f nextS
  rw [str_size]
  by_cases c1 : m.length < 6
  · rw [if_pos (by omega), if_pos c1]; rfl
  rw [if_neg (by omega), if_neg c1]
  have s2 := refNext_step m hm (k + 1 + 1 + 1) 0 2 (by omega) (by omega) (by omega)
  have s1 := refNext_step m hm (k + 1 + 1) (0 * 256 + m.getD 2 0) 1 (by omega) (by omega) (by omega)
  have s0 := refNext_step m hm (k + 1) ((0 * 256 + m.getD 2 0) * 256 + m.getD 1 0) 0 (by omega) (by omega) (by omega)
  rw [show (((0 : Nat)) : Int) = 0 from rfl, show (((2 : Nat)) : Int) = 2 from rfl] at s2
  rw [s2]
  by_cases d2 : m.getD 2 0 + m.getD 5 0 = 255
  · rw [if_pos d2, show ((2 : Int) - 1) = ((1 : Nat) : Int) by omega, s1]
    by_cases d1 : m.getD 1 0 + m.getD 4 0 = 255
    · rw [if_pos d1, show (((1 : Nat) : Int) - 1) = ((0 : Nat) : Int) by omega, s0]
      by_cases d0 : m.getD 0 0 + m.getD 3 0 = 255
      · rw [if_pos d0, if_neg (not_not_intro ⟨d0, d1, d2⟩), show ((0 * 256 + m.getD 2 0) * 256 + m.getD 1 0) * 256 + m.getD 0 0 = dlen m by unfold dlen; omega, show (((0 : Nat) : Int) - 1) = -1 by omega]
        clear s0 s1 s2
        simp only [mutoscoperef04_Next.l0]
        rw [if_neg (by omega)]
        have hd : dlen m < 16777216 := by unfold dlen; omega
        have w11 : Aside0 (wrap64 (((dlen m : Nat) : Int) + 11) = ((dlen m + 11 : Nat) : Int)) := ⟨by rw [wrap_in (by omega) (by omega)]; omega⟩
        have w7 : Aside0 (wrap64 (((dlen m : Nat) : Int) + 7) = ((dlen m + 7 : Nat) : Int)) := ⟨by rw [wrap_in (by omega) (by omega)]; omega⟩
        have w4 : Aside0 (wrap64 (((dlen m + 11 : Nat) : Int) - 4) = ((dlen m + 7 : Nat) : Int)) := ⟨by rw [wrap_in (by omega) (by omega)]; omega⟩
        rw [w11.out, w7.out, w4.out, str_size]
        by_cases c3 : dlen m > 1048576
        · rw [if_pos (by omega), if_pos c3]; rfl
        rw [if_neg (by omega), if_neg c3]
        by_cases c4 : m.length < dlen m + 11
        · rw [if_pos (by omega), if_pos c4]; rfl
        rw [if_neg (by omega), if_neg c4, if_pos (by omega), if_pos (by omega), if_pos (by omega), if_pos (by omega), Int.toNat_natCast, Int.toNat_natCast, str_extract, str_extract, str_extract, List.drop_zero, hK k (by omega), Option.bind_some, str_list, str_list]
        have hl6 : 6 < m.length := by omega
        by_cases c5 : tail4 (crc (m.take (dlen m + 7))) = (m.take (dlen m + 11)).drop (dlen m + 7)
        · rw [if_pos (by rw [c5]), if_neg (not_not_intro c5), if_pos (by omega), if_pos (by omega), if_pos (by omega), bt_ints m hm 6 6 rfl hl6]
          have g6 := getD_lt m hm 6
          rw [wrap_in (n := ((m.getD 6 0 : Nat) : Int)) (by omega) (by omega)]
          rfl
        · rw [if_neg (fun e => c5 (u8_inj _ _ (tail4_lt _) (mem_drop (mem_take hm)) e.symm)), if_pos c5]; rfl
      · rw [if_neg d0, if_pos (fun e => d0 e.1)]; rfl
    · rw [if_neg d1, if_pos (fun e => d1 e.2.1)]; rfl
  · rw [if_neg d2, if_pos (fun e => d2 e.2.2)]; rfl
theorem nextS_ok (m : List Nat) (h : (nextS m).2.2.2 = 0) : 11 ≤ (nextS m).2.2.1 ∧ (nextS m).2.2.1 ≤ m.length := by
  unfold nextS at h ⊢
  by_cases c1 : m.length < 6
  · rw [if_pos c1] at h; cases h
  rw [if_neg c1] at h ⊢
  by_cases c2 : m.getD 0 0 + m.getD 3 0 = 255 ∧ m.getD 1 0 + m.getD 4 0 = 255 ∧ m.getD 2 0 + m.getD 5 0 = 255
  · rw [if_neg (not_not_intro c2)] at h ⊢
    by_cases c3 : dlen m > 1048576
    · rw [if_pos c3] at h; cases h
    rw [if_neg c3] at h ⊢
    by_cases c4 : m.length < dlen m + 11
    · rw [if_pos c4] at h; cases h
    rw [if_neg c4] at h ⊢
    by_cases c5 : tail4 (crc (m.take (dlen m + 7))) = (m.take (dlen m + 11)).drop (dlen m + 7)
    · rw [if_neg (not_not_intro c5)] at h ⊢
      exact ⟨by show 11 ≤ dlen m + 11; omega, by show dlen m + 11 ≤ m.length; omega⟩
    · rw [if_pos c5] at h; cases h
  · rw [if_pos c2] at h; cases h
def mk27 (l : List (Nat × List Nat)) : List S27 := l.map fun p => ⟨(p.1 : Int), ints p.2⟩
theorem rd27 (l : List (Nat × List Nat)) (i : Nat) (h : i < l.length) : rd_T27 (mk27 l) (i : Int) = ⟨((l[i]).1 : Int), ints (l[i]).2⟩ := by
  unfold rd_T27 mk27
  rw [Int.toNat_natCast, List.getD_eq_getElem?_getD, List.getElem?_map, List.getElem?_eq_getElem h]; rfl
theorem bytes_of {l : List Int} (h : ∀ n ∈ l, (Lit.int .u8 n).wf = true) : ∀ n ∈ l, 0 ≤ n ∧ n < 256 := by
  intro n hn
  have := h n hn
  simp only [Lit.wf, Bool.and_eq_true, decide_eq_true_eq] at this
  have e1 : IntKind.u8.min = 0 := by rfl
  have e2 : IntKind.u8.max = 255 := by rfl
  omega
theorem ints_append (l m : List Nat) : ints (l ++ m) = ints l ++ ints m := by simp [ints]
/-- What stands ahead of a record's sum. -/
def encH (p : Nat × List Nat) : List Nat := [p.2.length % 256, p.2.length / 256 % 256, p.2.length / 65536 % 256, 255 - p.2.length % 256, 255 - p.2.length / 256 % 256, 255 - p.2.length / 65536 % 256, p.1] ++ p.2
/-- A record's bytes. -/
def encS (p : Nat × List Nat) : List Nat := encH p ++ tail4 (crc (encH p))
def okRec (p : Nat × List Nat) : Prop := p.1 < 256 ∧ p.2.length ≤ 1048576 ∧ ∀ b ∈ p.2, b < 256
theorem encH_lt (p : Nat × List Nat) (h : okRec p) : ∀ b ∈ encH p, b < 256 := by
  intro b hb
  unfold encH at hb
  rcases List.mem_append.1 hb with h1 | h1
  · have := h.1
    simp only [List.mem_cons, List.not_mem_nil, or_false] at h1
    omega
  · exact h.2.2 b h1
theorem encS_lt (p : Nat × List Nat) (h : okRec p) : ∀ b ∈ encS p, b < 256 := by
  intro b hb
  rcases List.mem_append.1 hb with h1 | h1
  · exact encH_lt p h b h1
  · exact tail4_lt _ b h1
theorem encS_len (p : Nat × List Nat) : (encS p).length = p.2.length + 11 := by
  unfold encS encH tail4
  simp only [List.length_append, List.length_cons, List.length_nil]
  omega
theorem bytes_l0 (l : List (Nat × List Nat)) (hl : l.length ≤ 1000) : ∀ (t : List (Nat × List Nat)) (i : Nat) (acc : List Nat), i ≤ l.length → l.drop i = t → (∀ p ∈ t, okRec p) → acc.length ≤ i * 1048600 →
    ∃ K, ∀ k, K ≤ k → rec_Bytes.l0 k (ints acc) (mk27 l) (l.length : Int) (i : Int) = some (ints (acc ++ t.flatMap encS), 0) := by
  have l1 : (mk27 l).length = l.length := by simp [mk27]
  intro t
  induction t with
  | nil =>
    intro i acc hi ht hp ha
    refine ⟨1, fun k hk => ?_⟩
    have := congrArg List.length ht
    rw [List.length_drop, List.length_nil] at this
    obtain ⟨k, rfl⟩ : ∃ q, k = q + 1 := ⟨k - 1, by omega⟩
    simp only [rec_Bytes.l0]
    rw [if_neg (by omega)]
    simp
  | cons p t ih =>
    intro i acc hi ht hp ha
    have hlt : i < l.length := by
      have := congrArg List.length ht
      rw [List.length_drop, List.length_cons] at this; omega
    have hd := List.drop_eq_getElem_cons hlt
    rw [ht] at hd
    injection hd with hd1 hd2
    have hpk := hp p (List.mem_cons_self ..)
    obtain ⟨hk1, hk2, hk3⟩ := hpk
    have hlen : (encS p).length = p.2.length + 11 := encS_len p
    obtain ⟨K1, h1⟩ := ends_eq (encH p) (encH_lt p ⟨hk1, hk2, hk3⟩) (by simp only [encH, List.length_append, List.length_cons, List.length_nil]; omega)
    obtain ⟨K2, h2⟩ := ih (i + 1) (acc ++ encS p) (by omega) hd2.symm (fun q hq => hp q (List.mem_cons_of_mem _ hq)) (by rw [List.length_append]; omega)
    have hright : ∀ k, 1 ≤ k → rec_right.f k (p.1 : Int) (ints p.2) = some 0 := by
      intro k hk
      obtain ⟨k, rfl⟩ : ∃ q, k = q + 1 := ⟨k - 1, by omega⟩
      unfold rec_right.f
      rw [if_neg (by omega), decide_eq_false (by omega)]
      simp only [rec_right.j0]
      rw [if_neg (by simp), if_neg (by rw [ints_len]; omega)]
    refine ⟨K1 + K2 + 3, fun k hk => ?_⟩
    obtain ⟨k, rfl⟩ : ∃ q, k = q + 1 := ⟨k - 1, by omega⟩
    have hr := rd27 l i hlt
    rw [← hd1] at hr
    have hb := begins_eq (p.2.length % 256) (p.2.length / 256 % 256) (p.2.length / 65536 % 256) (by omega) (by omega) (by omega)
    rw [show p.2.length % 256 + 256 * (p.2.length / 256 % 256) + 65536 * (p.2.length / 65536 % 256) = p.2.length by omega] at hb
    have hkind : ([(p.1 : Int) % 256] : List Int) = ints [p.1] := by
      simp only [ints, List.map_cons, List.map_nil]; congr 1; omega
    simp only [rec_Bytes.l0]
    rw [if_pos (by omega), if_pos (by omega), if_pos (by omega), hr, hright k (by omega), Option.bind_some, if_pos rfl, ints_len, hb, Option.bind_some, hkind, Option.bind_some, if_pos (by simp [ints]), Option.bind_some, ← ints_append,
      if_pos (by simp only [ints_len, List.length_append, List.length_cons, List.length_nil]; omega), Option.bind_some, ← ints_append]
    have e : [p.2.length % 256, p.2.length / 256 % 256, p.2.length / 65536 % 256, 255 - p.2.length % 256, 255 - p.2.length / 256 % 256, 255 - p.2.length / 65536 % 256] ++ [p.1] ++ p.2 = encH p := by
      unfold encH; simp only [List.cons_append, List.nil_append]
    rw [e, if_pos (by simp only [ints_len, encH, List.length_append, List.length_cons, List.length_nil]; omega), Option.bind_some, ← ints_append, h1 _ (by omega), Option.bind_some,
      if_pos (by simp only [ints_len, encH, tail4, List.length_append, List.length_cons, List.length_nil]; omega), ← ints_append, wrap_in (n := (i : Int) + 1) (by omega) (by omega)]
    have hh := h2 k (by omega)
    rw [show (((i + 1 : Nat)) : Int) = (i : Int) + 1 by omega] at hh
    rw [show acc ++ encH p ++ tail4 (crc (encH p)) = acc ++ encS p by unfold encS; rw [List.append_assoc], hh, List.flatMap_cons, List.append_assoc]
theorem bytes_eq (l : List (Nat × List Nat)) (hl : l.length ≤ 1000) (hp : ∀ p ∈ l, okRec p) : ∃ K, ∀ k, K ≤ k → rec_Bytes.f k (mk27 l) = some (ints (l.flatMap encS), 0) := by
  obtain ⟨K, hK⟩ := bytes_l0 l hl l 0 [] (Nat.zero_le _) rfl hp (by simp)
  refine ⟨K, fun k hk => ?_⟩
  have := hK k hk
  rw [List.nil_append] at this
  unfold rec_Bytes.f
  have l1 : (mk27 l).length = l.length := by simp [mk27]
  rw [l1]
  exact this
theorem take_enc (m : List Nat) (hm : ∀ b ∈ m, b < 256) (h : (nextS m).2.2.2 = 0) : okRec ((nextS m).1, (nextS m).2.1) ∧ encS ((nextS m).1, (nextS m).2.1) = m.take (nextS m).2.2.1 := by
  have g0 := getD_lt m hm 0
  have g1 := getD_lt m hm 1
  have g2 := getD_lt m hm 2
  have g6 := getD_lt m hm 6
  unfold nextS at h ⊢
  by_cases c1 : m.length < 6
  · rw [if_pos c1] at h; cases h
  rw [if_neg c1] at h ⊢
  by_cases c2 : m.getD 0 0 + m.getD 3 0 = 255 ∧ m.getD 1 0 + m.getD 4 0 = 255 ∧ m.getD 2 0 + m.getD 5 0 = 255
  · rw [if_neg (not_not_intro c2)] at h ⊢
    by_cases c3 : dlen m > 1048576
    · rw [if_pos c3] at h; cases h
    rw [if_neg c3] at h ⊢
    by_cases c4 : m.length < dlen m + 11
    · rw [if_pos c4] at h; cases h
    rw [if_neg c4] at h ⊢
    by_cases c5 : tail4 (crc (m.take (dlen m + 7))) = (m.take (dlen m + 11)).drop (dlen m + 7)
    · rw [if_neg (not_not_intro c5)]
      show okRec (m.getD 6 0, (m.take (dlen m + 7)).drop 7) ∧ encS (m.getD 6 0, (m.take (dlen m + 7)).drop 7) = m.take (dlen m + 11)
      have hlen : ((m.take (dlen m + 7)).drop 7).length = dlen m := by rw [List.length_drop, List.length_take]; omega
      have hH : encH (m.getD 6 0, (m.take (dlen m + 7)).drop 7) = m.take (dlen m + 7) := by
        unfold encH
        show [((m.take (dlen m + 7)).drop 7).length % 256, ((m.take (dlen m + 7)).drop 7).length / 256 % 256, ((m.take (dlen m + 7)).drop 7).length / 65536 % 256, 255 - ((m.take (dlen m + 7)).drop 7).length % 256, 255 - ((m.take (dlen m + 7)).drop 7).length / 256 % 256, 255 - ((m.take (dlen m + 7)).drop 7).length / 65536 % 256, m.getD 6 0] ++ (m.take (dlen m + 7)).drop 7 = m.take (dlen m + 7)
        rw [hlen]
        have d0 : dlen m % 256 = m.getD 0 0 := by unfold dlen; omega
        have d1 : dlen m / 256 % 256 = m.getD 1 0 := by unfold dlen; omega
        have d2 : dlen m / 65536 % 256 = m.getD 2 0 := by unfold dlen; omega
        rw [d0, d1, d2, show 255 - m.getD 0 0 = m.getD 3 0 by omega, show 255 - m.getD 1 0 = m.getD 4 0 by omega, show 255 - m.getD 2 0 = m.getD 5 0 by omega]
        have t7 : [m.getD 0 0, m.getD 1 0, m.getD 2 0, m.getD 3 0, m.getD 4 0, m.getD 5 0, m.getD 6 0] = (m.take (dlen m + 7)).take 7 := by
          rw [List.take_take, Nat.min_eq_left (by omega)]
          match m, (show 7 ≤ m.length by omega) with
          | a :: b :: c :: d :: e :: f :: g :: t, _ => rfl
        rw [t7, List.take_append_drop]
      refine ⟨⟨g6, by rw [hlen]; omega, mem_drop (mem_take hm)⟩, ?_⟩
      unfold encS
      rw [hH, c5]
      have e : m.take (dlen m + 7) = (m.take (dlen m + 11)).take (dlen m + 7) := by rw [List.take_take, Nat.min_eq_left (by omega)]
      rw [e, List.take_append_drop]
    · rw [if_pos c5] at h; cases h
  · rw [if_pos c2] at h; cases h
theorem RecNext_nat (m : List Nat) (hm : ∀ b ∈ m, b < 256) : ∃ k, mutoscopelaw04_RecNext.f k (ints m) = some true := by
  by_cases h : (m.length : Int) > 5000
  · refine ⟨0, ?_⟩
    unfold mutoscopelaw04_RecNext.f
    rw [ints_len, if_pos h]; rfl
  · obtain ⟨K1, h1⟩ := next_eq m hm (by omega)
    obtain ⟨K2, h2⟩ := refNext_eq m hm (by omega)
    have hok := take_enc m hm
    have hsz := nextS_ok m
    have hex : ∃ K3, (nextS m).2.2.2 = 0 → ∀ k, K3 ≤ k → rec_Bytes.f k (mk27 [((nextS m).1, (nextS m).2.1)]) = some (ints (m.take (nextS m).2.2.1), 0) := by
      by_cases c : (nextS m).2.2.2 = 0
      · obtain ⟨K3, h3⟩ := bytes_eq [((nextS m).1, (nextS m).2.1)] (by simp) (by intro p hp; rw [List.mem_singleton.1 hp]; exact (hok c).1)
        refine ⟨K3, fun _ k hk => ?_⟩
        rw [h3 k hk, List.flatMap_cons, List.flatMap_nil, List.append_nil, (hok c).2]
      · exact ⟨0, fun e => absurd e c⟩
    obtain ⟨K3, h3⟩ := hex
    refine ⟨K1 + K2 + K3 + 1, ?_⟩
    have e1 := h1 (K1 + K2 + K3 + 1) (by omega)
    have e2 := h2 (K1 + K2 + K3 + 1) (by omega)
    have e3 := fun c => h3 c (K1 + K2 + K3) (by omega)
    unfold mutoscopelaw04_RecNext.f mutoscopelaw04_ref.f
    rw [ints_len, if_neg h]
    generalize nextS m = R at e1 e2 e3 hsz ⊢
    rw [e1, Option.bind_some, e2, Option.bind_some, if_pos rfl, if_pos rfl, Option.bind_some]
    simp only [mutoscopelaw04_RecNext.j0]
    rw [if_neg (by simp)]
    by_cases c : R.2.2.2 = 0
    · have hs := hsz c
      have e4 := e3 c
      rw [if_pos (by omega)]
      have em : mk27 [(R.1, R.2.1)] = [⟨(R.1 : Int), ints R.2.1⟩] := rfl
      rw [em] at e4
      rw [e4, Option.bind_some, if_pos rfl, if_pos (by omega), if_pos (by rw [ints_len]; omega), Int.toNat_natCast, ints_take, if_pos rfl]
      rfl
    · rw [if_neg (by omega)]; rfl
theorem RecNext (l0 : List Int) (w0 : ∀ n ∈ l0, (Lit.int .u8 n).wf = true) : ∃ k, mutoscopelaw04_RecNext.f k l0 = some true := by
  obtain ⟨m, rfl, hm⟩ := ints_of l0 (bytes_of w0)
  exact RecNext_nat m hm

end Go.Proofs.Ytcpakbppnkknlaa.PureRecNext
