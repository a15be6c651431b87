/- fix.Dot answers as the reference's Dot, for every slice of int64 (of more than 60 numbers only the fixed answer is asked). -/
import Derived.Test.YtbkjkjcpclaijaaPFixDotsx2
namespace Go.Proofs.Ytbkjkjcpclaijaa.Pure
open Go.RowKit Go.Proofs.Ytbkjkjcpclaijaa.PFixDots Go.Proofs.YtbkjkjcpclaijaaW.PrintWords Go.Proofs.YtbkjkjcpclaijaaW.PrintLast Go.Proofs.YtbkjkjcpclaijaaW.PrintMore
theorem mul_bd {a b A B : Int} (ha : -A ≤ a) (ha' : a ≤ A) (hb : -B ≤ b) (hb' : b ≤ B) : -(A*B) ≤ a*b ∧ a*b ≤ A*B := by
  have h1 : 0 ≤ (A - a) * (B + b) := Int.mul_nonneg (by omega) (by omega)
  have h2 : 0 ≤ (A + a) * (B - b) := Int.mul_nonneg (by omega) (by omega)
  have h3 : 0 ≤ (A - a) * (B - b) := Int.mul_nonneg (by omega) (by omega)
  have h4 : 0 ≤ (A + a) * (B + b) := Int.mul_nonneg (by omega) (by omega)
  simp only [Int.sub_mul, Int.add_mul, Int.mul_sub, Int.mul_add] at h1 h2 h3 h4
  omega
theorem wrap_in {n : Int} (h : -9223372036854775808 ≤ n) (h' : n ≤ 9223372036854775807) : wrap64 n = n := by unfold wrap64; omega
theorem wf_bd {n : Int} (h : (Lit.int .i64 n).wf = true) : -9223372036854775808 ≤ n ∧ n ≤ 9223372036854775807 := by
  simp only [Lit.wf, Bool.and_eq_true, decide_eq_true_eq] at h
  have e1 : IntKind.i64.min = -9223372036854775808 := by rfl
  have e2 : IntKind.i64.max = 9223372036854775807 := by rfl
  omega
/-- A ratio, rounded to the nearest whole number, ties up. -/
def rnd (n d : Int) : Int := if n % d ≥ d - n % d then n / d + 1 else n / d

theorem tdm (n d : Int) (hd : 1 ≤ d) : ∃ q r, Int.tdiv n d = q ∧ Int.tmod n d = r ∧ n = d * q + r ∧ ((0 ≤ n ∧ 0 ≤ r ∧ r < d ∧ n / d = q ∧ n % d = r) ∨ (n < 0 ∧ r = 0 ∧ n / d = q ∧ n % d = 0) ∨ (n < 0 ∧ -d < r ∧ r < 0 ∧ n / d = q - 1 ∧ n % d = r + d)) := by
  refine ⟨_, _, rfl, rfl, (Int.mul_tdiv_add_tmod n d).symm, ?_⟩
  by_cases hn : 0 ≤ n
  · left
    rw [Int.tdiv_eq_ediv_of_nonneg hn, Int.tmod_eq_emod_of_nonneg hn]
    exact ⟨hn, Int.emod_nonneg _ (by omega), Int.emod_lt_of_pos _ (by omega), rfl, rfl⟩
  · right
    have hm : 0 ≤ -n := by omega
    have e := Int.mul_tdiv_add_tmod n d
    have er : Int.tmod n d = -((-n) % d) := by
      rw [← Int.tmod_eq_emod_of_nonneg hm, Int.neg_tmod, Int.neg_neg]
    have b0 := Int.emod_nonneg (-n) (b := d) (by omega)
    have b1 := Int.emod_lt_of_pos (-n) (b := d) (by omega)
    generalize Int.tmod n d = r at *
    generalize Int.tdiv n d = q at *
    by_cases hr : r = 0
    · left
      have := (Int.ediv_emod_unique (a := n) (r := 0) (q := q) (b := d) (by omega)).2 ⟨by omega, by omega, by omega⟩
      exact ⟨by omega, hr, this.1, this.2⟩
    · right
      have := (Int.ediv_emod_unique (a := n) (r := r + d) (q := q - 1) (b := d) (by omega)).2 ⟨by rw [Int.mul_sub]; omega, by omega, by omega⟩
      exact ⟨by omega, by omega, by omega, this.1, this.2⟩

/-- The quotient lies between the number and 0, and below half of it where something is left. -/
theorem q_bd {n d q r : Int} (hd : 1 ≤ d) (e : n = d * q + r) (h : (0 ≤ n ∧ 0 ≤ r ∧ r < d) ∨ (n < 0 ∧ -d < r ∧ r ≤ 0)) :
    (0 ≤ n → 0 ≤ q ∧ q ≤ n) ∧ (n < 0 → q ≤ 0 ∧ n ≤ q) ∧ (r ≠ 0 → -4611686018427387905 * 2 ≤ n → n ≤ 4611686018427387904 * 2 → -4611686018427387905 ≤ q ∧ q ≤ 4611686018427387904) := by
  have hq : (0 ≤ n → 0 ≤ q) ∧ (n < 0 → q ≤ 0) := by
    refine ⟨fun hn => ?_, fun hn => ?_⟩
    · rcases Int.lt_or_le q 0 with h0 | h0
      · have : d * q ≤ d * (-1) := Int.mul_le_mul_of_nonneg_left (by omega) (by omega)
        omega
      · exact h0
    · rcases Int.lt_or_le 0 q with h0 | h0
      · have : d * 1 ≤ d * q := Int.mul_le_mul_of_nonneg_left (by omega) (by omega)
        omega
      · exact h0
  refine ⟨fun hn => ?_, fun hn => ?_, fun hr hlo hhi => ?_⟩
  · have h0 := hq.1 hn
    have : 1 * q ≤ d * q := Int.mul_le_mul_of_nonneg_right hd h0
    omega
  · have h0 := hq.2 hn
    have : d * q ≤ 1 * q := Int.mul_le_mul_of_nonpos_right hd h0
    omega
  · have d2 : 2 ≤ d := by omega
    rcases Int.lt_or_le n 0 with hn | hn
    · have h0 := hq.2 hn
      have : d * q ≤ 2 * q := Int.mul_le_mul_of_nonpos_right d2 h0
      omega
    · have h0 := hq.1 hn
      have : 2 * q ≤ d * q := Int.mul_le_mul_of_nonneg_right d2 h0
      omega

theorem round_eq (n d : Int) (hd : 1 ≤ d) (hd' : d ≤ 9223372036854775807) (hn : -9223372036854775808 ≤ n) (hn' : n ≤ 9223372036854775807) : fix_Round.f n d = some (rnd n d) := by
  obtain ⟨q, r, e1, e2, e, h⟩ := tdm n d hd
  have hb := q_bd (n := n) (d := d) (q := q) (r := r) hd e (by omega)
  unfold fix_Round.f rnd
  rw [if_neg (by omega), e1, e2]
  have wq : wrap64 q = q := wrap_in (by omega) (by omega)
  rw [wq]
  by_cases hr : r < 0
  · rw [if_pos hr, wrap_in (n := r + d) (by omega) (by omega), wrap_in (n := d - (r + d)) (by omega) (by omega), wrap_in (n := q - 1) (by omega) (by omega), wrap_in (n := q - 1 + 1) (by omega) (by omega)]
    have h3 : n / d = q - 1 ∧ n % d = r + d := by omega
    rw [h3.1, h3.2]
    by_cases c : r + d ≥ d - (r + d)
    · rw [if_pos c, if_pos c]
    · rw [if_neg c, if_neg c]
  · rw [if_neg hr, wrap_in (n := d - r) (by omega) (by omega)]
    have h3 : n / d = q ∧ n % d = r := by omega
    rw [h3.1, h3.2]
    by_cases c : r ≥ d - r
    · rw [if_pos c, if_pos c, wrap_in (n := q + 1) (by omega) (by omega)]
    · rw [if_neg c, if_neg c]

theorem floor_mod (n d : Int) (hd : 1 ≤ d) : n = n / d * d + n % d ∧ 0 ≤ n % d ∧ n % d < d := by
  refine ⟨?_, Int.emod_nonneg _ (by omega), Int.emod_lt_of_pos _ (by omega)⟩
  have := Int.mul_ediv_add_emod n d
  rw [Int.mul_comm]; omega
theorem floor_bd (n d : Int) (hd : 1 ≤ d) : (0 ≤ n → 0 ≤ n / d ∧ n / d ≤ n) ∧ (n < 0 → n ≤ n / d ∧ n / d < 0) := by
  obtain ⟨q, r, e1, e2, e, h⟩ := tdm n d hd
  have hb := q_bd (n := n) (d := d) (q := q) (r := r) hd e (by omega)
  refine ⟨fun hn => by omega, fun hn => ?_⟩
  have h1 : n / d < 0 := Int.ediv_neg_of_neg_of_pos hn (by omega)
  refine ⟨?_, h1⟩
  have h2 := floor_mod n d hd
  have : n / d * d ≤ n / d * 1 := Int.mul_le_mul_of_nonpos_left (by omega) (by omega)
  rcases Int.lt_or_le (n / d) n with h3 | h3
  · have h4 : n / d * d ≤ (n - 1) * d := Int.mul_le_mul_of_nonneg_right (by omega) (by omega)
    have h5 : n * d ≤ n * 1 := Int.mul_le_mul_of_nonpos_left (by omega) (by omega)
    rw [Int.sub_mul] at h4
    omega
  · exact h3

theorem refFloor (n d : Int) (hd : 1 ≤ d) (hd' : d ≤ 4611686018427387904) (hn : -4611686018427387904 ≤ n) (hn' : n ≤ 4611686018427387904) : ∀ k, mutoscoperef05_Floor.f (k + 2) n d = some (n / d) := by
  intro k
  obtain ⟨q, r, e1, e2, e, h⟩ := tdm n d hd
  have hb := q_bd (n := n) (d := d) (q := q) (r := r) hd e (by omega)
  have wq : wrap64 q = q := wrap_in (by omega) (by omega)
  have ec : q * d = d * q := Int.mul_comm _ _
  have ec' : (q - 1) * d = d * q - d := by rw [Int.sub_mul]; omega
  have w1 : wrap64 (q * d) = q * d := wrap_in (by omega) (by omega)
  unfold mutoscoperef05_Floor.f
  simp only [mutoscoperef05_Floor.l0]
  rw [if_neg (by omega), e1, wq, w1]
  by_cases hr : r < 0
  · have w2 : wrap64 (q - 1) = q - 1 := wrap_in (by omega) (by omega)
    have w3 : wrap64 ((q - 1) * d) = (q - 1) * d := wrap_in (by omega) (by omega)
    rw [if_pos (by omega), w2, w3, if_neg (by omega)]
    have h3 : n / d = q - 1 := by omega
    rw [h3]
  · rw [if_neg (by omega)]
    have h3 : n / d = q := by omega
    rw [h3]

theorem refRound (n d : Int) (hd : 1 ≤ d) (hd' : d ≤ 4611686018427387904) (hn : -4611686018427387904 ≤ n) (hn' : n ≤ 4611686018427387904) : ∀ k, mutoscoperef05_Round.f (k + 2) n d = some (rnd n d) := by
  intro k
  have h1 := floor_mod n d hd
  have h2 := floor_bd n d hd
  unfold mutoscoperef05_Round.f rnd
  rw [refFloor n d hd hd' hn hn', Option.bind_some, wrap_in (n := n / d * d) (by omega) (by omega), show n - n / d * d = n % d by omega,
    wrap_in (n := n % d) (by omega) (by omega), wrap_in (n := d - n % d) (by omega) (by omega), wrap_in (n := n / d + 1) (by omega) (by omega)]
  by_cases c : n % d ≥ d - n % d
  · rw [if_pos c, if_pos c]
  · rw [if_neg c, if_neg c]
theorem awake_ok (k : Nat) : mutoscopelaw05_awake.f (k + 12) = some true := at_rounds mutoscopelaw05_awake.mono (k := 12) (by omega) (by decide +kernel)
theorem rnd_p (p : Int) : rnd p 65536 = (p + 32768) / 65536 := by unfold rnd; omega
/-- Is a number right? -/
def inR (x : Int) : Bool := decide (-1073741824 ≤ x ∧ x ≤ 1073741824)
theorem refRight (a : Int) : mutoscoperef05_Right.f a = some (inR a) := by
  unfold mutoscoperef05_Right.f inR
  by_cases h : a ≥ -1073741824
  · rw [if_pos h]; congr 1; apply decide_eq_decide.2; omega
  · rw [if_neg h, decide_eq_false (by omega)]
theorem drop_step {l t : List Int} {x : Int} {i : Nat} (h : l.drop i = x :: t) : i < l.length ∧ l.getD i 0 = x ∧ l.drop (i + 1) = t ∧ l.length = i + 1 + t.length := by
  have h1 : i < l.length := by
    rcases Nat.lt_or_ge i l.length with h0 | h0
    · exact h0
    · rw [List.drop_eq_nil_of_le h0] at h; cases h
  have h2 := List.drop_eq_getElem_cons h1
  rw [h] at h2
  injection h2 with h3 h4
  refine ⟨h1, by rw [List.getD_eq_getElem?_getD, List.getElem?_eq_getElem h1]; exact h3.symm, h4.symm, ?_⟩
  have := congrArg List.length h
  rw [List.length_drop, List.length_cons] at this
  omega
theorem rightL (l : List Int) (hl : l.length ≤ 4611686018427387904) : ∀ (t : List Int) (i k : Nat), i ≤ l.length → l.drop i = t → t.length < k → fix_Right.l0 k l (l.length : Int) i = some (t.all inR) := by
  intro t
  induction t with
  | nil =>
    intro i k hi ht hk
    have := congrArg List.length ht
    rw [List.length_drop, List.length_nil] at this
    obtain ⟨k, rfl⟩ : ∃ m, k = m + 1 := ⟨k - 1, by omega⟩
    simp only [fix_Right.l0]; rw [if_neg (by omega)]; rfl
  | cons x t ih =>
    intro i k hi ht hk
    obtain ⟨h1, h2, h3, h4⟩ := drop_step ht
    rw [List.length_cons] at hk
    obtain ⟨k, rfl⟩ : ∃ m, k = m + 1 := ⟨k - 1, by omega⟩
    have hr : rd l (i : Int) = x := by unfold rd; rw [Int.toNat_natCast]; exact h2
    have hw : Aside0 (wrap64 ((i : Int) + 1) = ((i + 1 : Nat) : Int)) := ⟨by rw [wrap_in (by omega) (by omega)]; omega⟩
    simp only [fix_Right.l0]
    rw [if_pos (by omega), if_pos (by omega), if_pos (by omega), hr, hw.out, ih (i + 1) k (by omega) h3 (by omega)]
    rw [List.all_cons]
    unfold inR
    by_cases c1 : x < -1073741824
    · rw [if_pos c1, decide_eq_false (by omega)]; rfl
    rw [if_neg c1]
    by_cases c2 : x > 1073741824
    · rw [if_pos c2, decide_eq_false (by omega)]; rfl
    rw [if_neg c2, decide_eq_true (by omega)]; rfl
theorem right_eq (l : List Int) (hl : l.length ≤ 4611686018427387904) (k : Nat) (hk : l.length < k) : fix_Right.f k l = some (l.all inR) := rightL l hl l 0 k (Nat.zero_le _) rfl hk
/-- The sum of products. -/
def dsum : List Int → Int
  | [] => 0
  | [x] => x * 65536
  | x :: y :: t => x * y + dsum t
/-- What is told of a sum. -/
def fin (s : Int) : Option (Int × Bool) := if inR ((s + 32768) / 65536) = true then some ((s + 32768) / 65536, true) else some (0, false)
theorem inR_bd {x : Int} (h : inR x = true) : -1073741824 ≤ x ∧ x ≤ 1073741824 := of_decide_eq_true h
theorem fixDotL (l : List Int) (hl : l.length ≤ 8) : ∀ (m : Nat) (t : List Int) (i : Nat) (s : Int) (k : Nat), t.length ≤ m → i ≤ l.length + 1 → l.drop i = t → t.all inR = true →
    -(576460752303423488 * (8 - (t.length : Int))) ≤ s → s ≤ 576460752303423488 * (8 - (t.length : Int)) → t.length ≤ 8 → t.length + 3 ≤ k →
    fix_Dot.l0 k l s i = fin (s + dsum t) := by
  intro m
  induction m with
  | zero =>
    intro t i s k hm hi ht ha hb1 hb2 hl8 hk
    obtain rfl : t = [] := List.length_eq_zero_iff.1 (by omega)
    have := congrArg List.length ht
    rw [List.length_drop, List.length_nil] at this
    obtain ⟨k, rfl⟩ : ∃ m, k = m + 1 := ⟨k - 1, by omega⟩
    simp only [fix_Dot.l0]
    simp only [List.length_nil] at hb1 hb2
    rw [if_neg (by omega), right_eq _ (by simp) k (by simp only [List.length_cons, List.length_nil] at hk ⊢; omega), wrap_in (n := s + 32768) (by omega) (by omega), Option.bind_some]
    simp only [List.all_cons, List.all_nil, Bool.and_true, dsum, Int.add_zero, fin]
  | succ m ih =>
    intro t i s k hm hi ht ha hb1 hb2 hl8 hk
    rcases t with _ | ⟨x, _ | ⟨y, t⟩⟩
    · exact ih [] i s k (Nat.zero_le _) hi ht ha hb1 hb2 hl8 hk
    · skip
      obtain ⟨h1, h2, h3, h4⟩ := drop_step ht
      simp only [List.all_cons, List.all_nil, Bool.and_true] at ha
      have hx := inR_bd ha
      simp only [List.length_cons, List.length_nil] at hb1 hb2 hk h4
      have w1 : Aside0 (wrap64 (x * 65536) = x * 65536) := ⟨wrap_in (by omega) (by omega)⟩
      have w2 : Aside0 (wrap64 (s + x * 65536) = s + x * 65536) := ⟨wrap_in (by omega) (by omega)⟩
      have nb1 : -(576460752303423488 * (8 - (([] : List Int).length : Int))) ≤ s + x * 65536 := by simp only [List.length_nil]; omega
      have nb2 : s + x * 65536 ≤ 576460752303423488 * (8 - (([] : List Int).length : Int)) := by simp only [List.length_nil]; omega
      clear hb1 hb2 hx
      have n1 := Aside0.mk nb1
      have n2 := Aside0.mk nb2
      clear nb1 nb2
      obtain ⟨k, rfl⟩ : ∃ m, k = m + 1 := ⟨k - 1, by omega⟩
      have hr : rd l (i : Int) = x := by unfold rd; rw [Int.toNat_natCast]; exact h2
      have hw : Aside0 (wrap64 ((i : Int) + 1) = ((i + 1 : Nat) : Int)) := ⟨by rw [wrap_in (by omega) (by omega)]; omega⟩
      have hw2 : Aside0 (wrap64 ((i : Int) + 2) = ((i + 2 : Nat) : Int)) := ⟨by rw [wrap_in (by omega) (by omega)]; omega⟩
      have hdn : l.drop (i + 2) = [] := List.drop_eq_nil_of_le (by omega)
      simp only [fix_Dot.l0]
      rw [if_pos (by omega), hw.out, if_neg (by omega), if_pos (by omega), hr, hw2.out, w1.out, w2.out]
      rw [ih [] (i + 2) (s + x * 65536) k (Nat.zero_le _) (by omega) hdn rfl n1.out n2.out (Nat.zero_le _) (by simp only [List.length_nil]; omega)]
      simp only [dsum, Int.add_zero]
    · skip
      obtain ⟨h1, h2, h3, h4⟩ := drop_step ht
      obtain ⟨g1, g2, g3, g4⟩ := drop_step h3
      simp only [List.all_cons, Bool.and_eq_true] at ha
      have hx := inR_bd ha.1
      have hy := inR_bd ha.2.1
      have hp := mul_bd (A := 1073741824) (B := 1073741824) hx.1 hx.2 hy.1 hy.2
      simp only [List.length_cons] at hb1 hb2 hk h4 hm hl8
      have w1 : Aside0 (wrap64 (x * y) = x * y) := ⟨wrap_in (by omega) (by omega)⟩
      have w2 : Aside0 (wrap64 (s + x * y) = s + x * y) := ⟨wrap_in (by omega) (by omega)⟩
      have nb1 : -(576460752303423488 * (8 - (t.length : Int))) ≤ s + x * y := by omega
      have nb2 : s + x * y ≤ 576460752303423488 * (8 - (t.length : Int)) := by omega
      clear hb1 hb2 hx hy hp
      have n1 := Aside0.mk nb1
      have n2 := Aside0.mk nb2
      clear nb1 nb2
      obtain ⟨k, rfl⟩ : ∃ m, k = m + 1 := ⟨k - 1, by omega⟩
      have hr : rd l (i : Int) = x := by unfold rd; rw [Int.toNat_natCast]; exact h2
      have hr2 : rd l ((i + 1 : Nat) : Int) = y := by unfold rd; rw [Int.toNat_natCast]; exact g2
      have hw : Aside0 (wrap64 ((i : Int) + 1) = ((i + 1 : Nat) : Int)) := ⟨by rw [wrap_in (by omega) (by omega)]; omega⟩
      have hw2 : Aside0 (wrap64 ((i : Int) + 2) = ((i + 2 : Nat) : Int)) := ⟨by rw [wrap_in (by omega) (by omega)]; omega⟩
      simp only [fix_Dot.l0]
      rw [if_pos (by omega), hw.out, if_pos (by omega), if_pos (by omega), if_pos (by omega), hr, hr2, hw2.out, w1.out, w2.out]
      rw [ih t (i + 2) (s + x * y) k (by omega) (by omega) g3 ha.2.2 n1.out n2.out (by omega) (by omega)]
      rw [dsum]; congr 1; omega
theorem fixDot (l : List Int) (hl : l.length ≤ 8) (ha : l.all inR = true) (k : Nat) (hk : l.length + 4 ≤ k) : fix_Dot.f k l = fin (dsum l) := by
  obtain ⟨k, rfl⟩ : ∃ m, k = m + 1 := ⟨k - 1, by omega⟩
  unfold fix_Dot.f
  rw [if_neg (by omega), right_eq l (by omega) _ (by omega), Option.bind_some, ha]
  simp only [fix_Dot.j0]
  rw [if_neg (by simp)]
  have := fixDotL l hl l.length l 0 0 k (Nat.le_refl _) (Nat.zero_le _) rfl ha (by omega) (by omega) hl (by omega)
  rw [Int.zero_add] at this
  exact this
theorem fixDot_no (l : List Int) (hl : ¬ (l.length ≤ 8 ∧ l.all inR = true)) (k : Nat) (hk : 12 ≤ k) : fix_Dot.f k l = some (0, false) := by
  obtain ⟨k, rfl⟩ : ∃ m, k = m + 1 := ⟨k - 1, by omega⟩
  unfold fix_Dot.f
  by_cases h : l.length ≤ 8
  · have ha : l.all inR = false := by
      cases hh : l.all inR with
      | false => rfl
      | true => exact absurd ⟨h, hh⟩ hl
    rw [if_neg (by omega), right_eq l (by omega) _ (by omega), Option.bind_some, ha]
    simp only [fix_Dot.j0]
    rw [if_pos (by simp)]
  · rw [if_pos (by omega)]
    simp only [fix_Dot.j0]
    rw [if_pos trivial]
theorem refDotL1 (l : List Int) (hl : l.length ≤ 8) : ∀ (m : Nat) (t : List Int) (i : Nat) (s : Int) (k : Nat), t.length ≤ m → i ≤ l.length + 1 → l.drop i = t → t.all inR = true →
    -(576460752303423488 * (8 - (t.length : Int))) ≤ s → s ≤ 576460752303423488 * (8 - (t.length : Int)) → t.length ≤ 8 → t.length + 3 ≤ k →
    mutoscoperef05_Dot.l1 k l s i = fin (s + dsum t) := by
  intro m
  induction m with
  | zero =>
    intro t i s k hm hi ht ha hb1 hb2 hl8 hk
    obtain rfl : t = [] := List.length_eq_zero_iff.1 (by omega)
    have := congrArg List.length ht
    rw [List.length_drop, List.length_nil] at this
    obtain ⟨k, rfl⟩ : ∃ m, k = m + 1 := ⟨k - 1, by omega⟩
    simp only [mutoscoperef05_Dot.l1]
    simp only [List.length_nil] at hb1 hb2 hk
    have hrr : mutoscoperef05_Round.f k s 65536 = some (rnd s 65536) := by
      obtain ⟨m, rfl⟩ : ∃ m, k = m + 2 := ⟨k - 2, by omega⟩
      exact refRound _ _ (by omega) (by omega) (by omega) (by omega) m
    rw [if_neg (by omega), hrr, Option.bind_some, rnd_p, refRight, Option.bind_some]
    simp only [dsum, Int.add_zero, fin]
  | succ m ih =>
    intro t i s k hm hi ht ha hb1 hb2 hl8 hk
    rcases t with _ | ⟨x, _ | ⟨y, t⟩⟩
    · exact ih [] i s k (Nat.zero_le _) hi ht ha hb1 hb2 hl8 hk
    · skip
      obtain ⟨h1, h2, h3, h4⟩ := drop_step ht
      simp only [List.all_cons, List.all_nil, Bool.and_true] at ha
      have hx := inR_bd ha
      simp only [List.length_cons, List.length_nil] at hb1 hb2 hk h4
      have w1 : Aside0 (wrap64 (x * 65536) = x * 65536) := ⟨wrap_in (by omega) (by omega)⟩
      have w2 : Aside0 (wrap64 (s + x * 65536) = s + x * 65536) := ⟨wrap_in (by omega) (by omega)⟩
      have nb1 : -(576460752303423488 * (8 - (([] : List Int).length : Int))) ≤ s + x * 65536 := by simp only [List.length_nil]; omega
      have nb2 : s + x * 65536 ≤ 576460752303423488 * (8 - (([] : List Int).length : Int)) := by simp only [List.length_nil]; omega
      clear hb1 hb2 hx
      have n1 := Aside0.mk nb1
      have n2 := Aside0.mk nb2
      clear nb1 nb2
      obtain ⟨k, rfl⟩ : ∃ m, k = m + 1 := ⟨k - 1, by omega⟩
      have hr : rd l (i : Int) = x := by unfold rd; rw [Int.toNat_natCast]; exact h2
      have hw : Aside0 (wrap64 ((i : Int) + 1) = ((i + 1 : Nat) : Int)) := ⟨by rw [wrap_in (by omega) (by omega)]; omega⟩
      have hw2 : Aside0 (wrap64 ((i : Int) + 2) = ((i + 2 : Nat) : Int)) := ⟨by rw [wrap_in (by omega) (by omega)]; omega⟩
      have hdn : l.drop (i + 2) = [] := List.drop_eq_nil_of_le (by omega)
      simp only [mutoscoperef05_Dot.l1]
      rw [if_pos (by omega), hw.out, if_neg (by omega), if_pos (by omega), hr, hw2.out, w1.out, w2.out]
      rw [ih [] (i + 2) (s + x * 65536) k (Nat.zero_le _) (by omega) hdn rfl n1.out n2.out (Nat.zero_le _) (by simp only [List.length_nil]; omega)]
      simp only [dsum, Int.add_zero]
    · skip
      obtain ⟨h1, h2, h3, h4⟩ := drop_step ht
      obtain ⟨g1, g2, g3, g4⟩ := drop_step h3
      simp only [List.all_cons, Bool.and_eq_true] at ha
      have hx := inR_bd ha.1
      have hy := inR_bd ha.2.1
      have hp := mul_bd (A := 1073741824) (B := 1073741824) hx.1 hx.2 hy.1 hy.2
      simp only [List.length_cons] at hb1 hb2 hk h4 hm hl8
      have w1 : Aside0 (wrap64 (x * y) = x * y) := ⟨wrap_in (by omega) (by omega)⟩
      have w2 : Aside0 (wrap64 (s + x * y) = s + x * y) := ⟨wrap_in (by omega) (by omega)⟩
      have nb1 : -(576460752303423488 * (8 - (t.length : Int))) ≤ s + x * y := by omega
      have nb2 : s + x * y ≤ 576460752303423488 * (8 - (t.length : Int)) := by omega
      clear hb1 hb2 hx hy hp
      have n1 := Aside0.mk nb1
      have n2 := Aside0.mk nb2
      clear nb1 nb2
      obtain ⟨k, rfl⟩ : ∃ m, k = m + 1 := ⟨k - 1, by omega⟩
      have hr : rd l (i : Int) = x := by unfold rd; rw [Int.toNat_natCast]; exact h2
      have hr2 : rd l ((i + 1 : Nat) : Int) = y := by unfold rd; rw [Int.toNat_natCast]; exact g2
      have hw : Aside0 (wrap64 ((i : Int) + 1) = ((i + 1 : Nat) : Int)) := ⟨by rw [wrap_in (by omega) (by omega)]; omega⟩
      have hw2 : Aside0 (wrap64 ((i : Int) + 2) = ((i + 2 : Nat) : Int)) := ⟨by rw [wrap_in (by omega) (by omega)]; omega⟩
      simp only [mutoscoperef05_Dot.l1]
      rw [if_pos (by omega), hw.out, if_pos (by omega), if_pos (by omega), if_pos (by omega), hr, hr2, hw2.out, w1.out, w2.out]
      rw [ih t (i + 2) (s + x * y) k (by omega) (by omega) g3 ha.2.2 n1.out n2.out (by omega) (by omega)]
      rw [dsum]; congr 1; omega
theorem refDotL0 (l : List Int) (hl : l.length ≤ 8) : ∀ (t : List Int) (i : Nat) (k : Nat), i ≤ l.length → l.drop i = t → t.length < k →
    mutoscoperef05_Dot.l0 k l 0 i = if t.all inR = true then mutoscoperef05_Dot.l1 (k - t.length - 1) l 0 0 else some (0, false) := by
  intro t
  induction t with
  | nil =>
    intro i k hi ht hk
    have := congrArg List.length ht
    rw [List.length_drop, List.length_nil] at this
    obtain ⟨k, rfl⟩ : ∃ m, k = m + 1 := ⟨k - 1, by omega⟩
    simp only [mutoscoperef05_Dot.l0]; rw [if_neg (by omega), if_pos (by rfl)]; rfl
  | cons x t ih =>
    intro i k hi ht hk
    obtain ⟨h1, h2, h3, h4⟩ := drop_step ht
    rw [List.length_cons] at hk
    obtain ⟨k, rfl⟩ : ∃ m, k = m + 1 := ⟨k - 1, by omega⟩
    have hr : rd l (i : Int) = x := by unfold rd; rw [Int.toNat_natCast]; exact h2
    have hw : Aside0 (wrap64 ((i : Int) + 1) = ((i + 1 : Nat) : Int)) := ⟨by rw [wrap_in (by omega) (by omega)]; omega⟩
    simp only [mutoscoperef05_Dot.l0]
    rw [if_pos (by omega), if_pos (by omega), hr, refRight, Option.bind_some, hw.out, ih (i + 1) k (by omega) h3 (by omega), List.all_cons]
    by_cases hx : inR x = true
    · rw [if_pos hx, hx, Bool.true_and, List.length_cons, show k + 1 - (t.length + 1) - 1 = k - t.length - 1 by omega]
    · rw [if_neg hx, if_neg (by simp [hx])]
theorem refDot (l : List Int) (hl : l.length ≤ 8) (ha : l.all inR = true) (k : Nat) (hk : 2 * l.length + 5 ≤ k) : mutoscoperef05_Dot.f k l = fin (dsum l) := by
  unfold mutoscoperef05_Dot.f
  rw [if_neg (by omega)]
  have h0 := refDotL0 l hl l 0 k (Nat.zero_le _) rfl (by omega)
  rw [if_pos ha] at h0
  refine h0.trans ?_
  have := refDotL1 l hl l.length l 0 0 (k - l.length - 1) (Nat.le_refl _) (Nat.zero_le _) rfl ha (by omega) (by omega) hl (by omega)
  rw [Int.zero_add] at this
  exact this
theorem refDot_no (l : List Int) (hl : ¬ (l.length ≤ 8 ∧ l.all inR = true)) (k : Nat) (hk : 12 ≤ k) : mutoscoperef05_Dot.f k l = some (0, false) := by
  unfold mutoscoperef05_Dot.f
  by_cases h : l.length ≤ 8
  · rw [if_neg (by omega)]
    have h0 := refDotL0 l h l 0 k (Nat.zero_le _) rfl (by omega)
    rw [if_neg (fun ha => hl ⟨h, ha⟩)] at h0
    exact h0
  · rw [if_pos (by omega)]
theorem FixDots : mutoscopelaw05_FixDots.Pure := by
  intro l _ _ _
  refine ⟨40, ?_⟩
  unfold mutoscopelaw05_FixDots.f
  by_cases h : (l.length : Int) > 60
  · rw [if_pos h, awake_ok 28]; rfl
  rw [if_neg h]
  have key : fix_Dot.f 40 l = mutoscoperef05_Dot.f 40 l ∧ ∃ r, fix_Dot.f 40 l = some r := by
    by_cases hh : l.length ≤ 8 ∧ l.all inR = true
    · rw [fixDot l hh.1 hh.2 40 (by omega), refDot l hh.1 hh.2 40 (by omega)]
      refine ⟨rfl, ?_⟩
      unfold fin
      split <;> exact ⟨_, rfl⟩
    · rw [fixDot_no l hh 40 (by omega), refDot_no l hh 40 (by omega)]
      exact ⟨rfl, _, rfl⟩
  obtain ⟨k1, r, k2⟩ := key
  rw [← k1, k2, Option.bind_some, Option.bind_some, if_pos rfl, if_pos (by simp), awake_ok 28]
  rfl

end Go.Proofs.Ytbkjkjcpclaijaa.Pure
