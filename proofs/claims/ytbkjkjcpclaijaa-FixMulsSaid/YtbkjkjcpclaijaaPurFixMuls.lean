/- The plain law of FixMuls: products, floors and ceilings are those of the reference. -/
import Derived.Test.YtbkjkjcpclaijaaQFixMulsx2
namespace Go.Proofs.Ytbkjkjcpclaijaa.PureFixMuls
open Go.RowKit Go.Proofs.Ytbkjkjcpclaijaa.QFixMuls Go.Proofs.YtbkjkjcpclaijaaW.PrintWords Go.Proofs.YtbkjkjcpclaijaaW.PrintLast Go.Proofs.YtbkjkjcpclaijaaW.PrintMore
theorem mul_bd {a b A B : Int} (ha : -A ≤ a) (ha' : a ≤ A) (hb : -B ≤ b) (hb' : b ≤ B) : -(A*B) ≤ a*b ∧ a*b ≤ A*B := by
  have h1 : 0 ≤ (A - a) * (B + b) := Int.mul_nonneg (by omega) (by omega)
  have h2 : 0 ≤ (A + a) * (B - b) := Int.mul_nonneg (by omega) (by omega)
  have h3 : 0 ≤ (A - a) * (B - b) := Int.mul_nonneg (by omega) (by omega)
  have h4 : 0 ≤ (A + a) * (B + b) := Int.mul_nonneg (by omega) (by omega)
  simp only [Int.sub_mul, Int.add_mul, Int.mul_sub, Int.mul_add] at h1 h2 h3 h4
  omega
theorem wrap_in {n : Int} (h : -9223372036854775808 ≤ n) (h' : n ≤ 9223372036854775807) : wrap64 n = n := by unfold wrap64; omega
theorem wf_bd {n : Int} (h : (Lit.int .i64 n).wf = true) : -9223372036854775808 ≤ n ∧ n ≤ 9223372036854775807 := by
  simp only [Lit.wf, Bool.and_eq_true, decide_eq_true_eq] at h
  have e1 : IntKind.i64.min = -9223372036854775808 := by rfl
  have e2 : IntKind.i64.max = 9223372036854775807 := by rfl
  omega
/-- A ratio, rounded to the nearest whole number, ties up. -/
def rnd (n d : Int) : Int := if n % d ≥ d - n % d then n / d + 1 else n / d

theorem tdm (n d : Int) (hd : 1 ≤ d) : ∃ q r, Int.tdiv n d = q ∧ Int.tmod n d = r ∧ n = d * q + r ∧ ((0 ≤ n ∧ 0 ≤ r ∧ r < d ∧ n / d = q ∧ n % d = r) ∨ (n < 0 ∧ r = 0 ∧ n / d = q ∧ n % d = 0) ∨ (n < 0 ∧ -d < r ∧ r < 0 ∧ n / d = q - 1 ∧ n % d = r + d)) := by
  refine ⟨_, _, rfl, rfl, (Int.mul_tdiv_add_tmod n d).symm, ?_⟩
  by_cases hn : 0 ≤ n
  · left
    rw [Int.tdiv_eq_ediv_of_nonneg hn, Int.tmod_eq_emod_of_nonneg hn]
    exact ⟨hn, Int.emod_nonneg _ (by omega), Int.emod_lt_of_pos _ (by omega), rfl, rfl⟩
  · right
    have hm : 0 ≤ -n := by omega
    have e := Int.mul_tdiv_add_tmod n d
    have er : Int.tmod n d = -((-n) % d) := by
      rw [← Int.tmod_eq_emod_of_nonneg hm, Int.neg_tmod, Int.neg_neg]
    have b0 := Int.emod_nonneg (-n) (b := d) (by omega)
    have b1 := Int.emod_lt_of_pos (-n) (b := d) (by omega)
    generalize Int.tmod n d = r at *
    generalize Int.tdiv n d = q at *
    by_cases hr : r = 0
    · left
      have := (Int.ediv_emod_unique (a := n) (r := 0) (q := q) (b := d) (by omega)).2 ⟨by omega, by omega, by omega⟩
      exact ⟨by omega, hr, this.1, this.2⟩
    · right
      have := (Int.ediv_emod_unique (a := n) (r := r + d) (q := q - 1) (b := d) (by omega)).2 ⟨by rw [Int.mul_sub]; omega, by omega, by omega⟩
      exact ⟨by omega, by omega, by omega, this.1, this.2⟩

/-- The quotient lies between the number and 0, and below half of it where something is left. -/
theorem q_bd {n d q r : Int} (hd : 1 ≤ d) (e : n = d * q + r) (h : (0 ≤ n ∧ 0 ≤ r ∧ r < d) ∨ (n < 0 ∧ -d < r ∧ r ≤ 0)) :
    (0 ≤ n → 0 ≤ q ∧ q ≤ n) ∧ (n < 0 → q ≤ 0 ∧ n ≤ q) ∧ (r ≠ 0 → -4611686018427387905 * 2 ≤ n → n ≤ 4611686018427387904 * 2 → -4611686018427387905 ≤ q ∧ q ≤ 4611686018427387904) := by
  have hq : (0 ≤ n → 0 ≤ q) ∧ (n < 0 → q ≤ 0) := by
    refine ⟨fun hn => ?_, fun hn => ?_⟩
    · rcases Int.lt_or_le q 0 with h0 | h0
      · have : d * q ≤ d * (-1) := Int.mul_le_mul_of_nonneg_left (by omega) (by omega)
        omega
      · exact h0
    · rcases Int.lt_or_le 0 q with h0 | h0
      · have : d * 1 ≤ d * q := Int.mul_le_mul_of_nonneg_left (by omega) (by omega)
        omega
      · exact h0
  refine ⟨fun hn => ?_, fun hn => ?_, fun hr hlo hhi => ?_⟩
  · have h0 := hq.1 hn
    have : 1 * q ≤ d * q := Int.mul_le_mul_of_nonneg_right hd h0
    omega
  · have h0 := hq.2 hn
    have : d * q ≤ 1 * q := Int.mul_le_mul_of_nonpos_right hd h0
    omega
  · have d2 : 2 ≤ d := by omega
    rcases Int.lt_or_le n 0 with hn | hn
    · have h0 := hq.2 hn
      have : d * q ≤ 2 * q := Int.mul_le_mul_of_nonpos_right d2 h0
      omega
    · have h0 := hq.1 hn
      have : 2 * q ≤ d * q := Int.mul_le_mul_of_nonneg_right d2 h0
      omega

theorem round_eq (n d : Int) (hd : 1 ≤ d) (hd' : d ≤ 9223372036854775807) (hn : -9223372036854775808 ≤ n) (hn' : n ≤ 9223372036854775807) : fix_Round.f n d = some (rnd n d) := by
  obtain ⟨q, r, e1, e2, e, h⟩ := tdm n d hd
  have hb := q_bd (n := n) (d := d) (q := q) (r := r) hd e (by omega)
  unfold fix_Round.f rnd
  rw [if_neg (by omega), e1, e2]
  have wq : wrap64 q = q := wrap_in (by omega) (by omega)
  rw [wq]
  by_cases hr : r < 0
  · rw [if_pos hr, wrap_in (n := r + d) (by omega) (by omega), wrap_in (n := d - (r + d)) (by omega) (by omega), wrap_in (n := q - 1) (by omega) (by omega), wrap_in (n := q - 1 + 1) (by omega) (by omega)]
    have h3 : n / d = q - 1 ∧ n % d = r + d := by omega
    rw [h3.1, h3.2]
    by_cases c : r + d ≥ d - (r + d)
    · rw [if_pos c, if_pos c]
    · rw [if_neg c, if_neg c]
  · rw [if_neg hr, wrap_in (n := d - r) (by omega) (by omega)]
    have h3 : n / d = q ∧ n % d = r := by omega
    rw [h3.1, h3.2]
    by_cases c : r ≥ d - r
    · rw [if_pos c, if_pos c, wrap_in (n := q + 1) (by omega) (by omega)]
    · rw [if_neg c, if_neg c]

theorem floor_mod (n d : Int) (hd : 1 ≤ d) : n = n / d * d + n % d ∧ 0 ≤ n % d ∧ n % d < d := by
  refine ⟨?_, Int.emod_nonneg _ (by omega), Int.emod_lt_of_pos _ (by omega)⟩
  have := Int.mul_ediv_add_emod n d
  rw [Int.mul_comm]; omega
theorem floor_bd (n d : Int) (hd : 1 ≤ d) : (0 ≤ n → 0 ≤ n / d ∧ n / d ≤ n) ∧ (n < 0 → n ≤ n / d ∧ n / d < 0) := by
  obtain ⟨q, r, e1, e2, e, h⟩ := tdm n d hd
  have hb := q_bd (n := n) (d := d) (q := q) (r := r) hd e (by omega)
  refine ⟨fun hn => by omega, fun hn => ?_⟩
  have h1 : n / d < 0 := Int.ediv_neg_of_neg_of_pos hn (by omega)
  refine ⟨?_, h1⟩
  have h2 := floor_mod n d hd
  have : n / d * d ≤ n / d * 1 := Int.mul_le_mul_of_nonpos_left (by omega) (by omega)
  rcases Int.lt_or_le (n / d) n with h3 | h3
  · have h4 : n / d * d ≤ (n - 1) * d := Int.mul_le_mul_of_nonneg_right (by omega) (by omega)
    have h5 : n * d ≤ n * 1 := Int.mul_le_mul_of_nonpos_left (by omega) (by omega)
    rw [Int.sub_mul] at h4
    omega
  · exact h3

theorem refFloor (n d : Int) (hd : 1 ≤ d) (hd' : d ≤ 4611686018427387904) (hn : -4611686018427387904 ≤ n) (hn' : n ≤ 4611686018427387904) : ∀ k, mutoscoperef05_Floor.f (k + 2) n d = some (n / d) := by
  intro k
  obtain ⟨q, r, e1, e2, e, h⟩ := tdm n d hd
  have hb := q_bd (n := n) (d := d) (q := q) (r := r) hd e (by omega)
  have wq : wrap64 q = q := wrap_in (by omega) (by omega)
  have ec : q * d = d * q := Int.mul_comm _ _
  have ec' : (q - 1) * d = d * q - d := by rw [Int.sub_mul]; omega
  have w1 : wrap64 (q * d) = q * d := wrap_in (by omega) (by omega)
  unfold mutoscoperef05_Floor.f
  simp only [mutoscoperef05_Floor.l0]
  rw [if_neg (by omega), e1, wq, w1]
  by_cases hr : r < 0
  · have w2 : wrap64 (q - 1) = q - 1 := wrap_in (by omega) (by omega)
    have w3 : wrap64 ((q - 1) * d) = (q - 1) * d := wrap_in (by omega) (by omega)
    rw [if_pos (by omega), w2, w3, if_neg (by omega)]
    have h3 : n / d = q - 1 := by omega
    rw [h3]
  · rw [if_neg (by omega)]
    have h3 : n / d = q := by omega
    rw [h3]

theorem refRound (n d : Int) (hd : 1 ≤ d) (hd' : d ≤ 4611686018427387904) (hn : -4611686018427387904 ≤ n) (hn' : n ≤ 4611686018427387904) : ∀ k, mutoscoperef05_Round.f (k + 2) n d = some (rnd n d) := by
  intro k
  have h1 := floor_mod n d hd
  have h2 := floor_bd n d hd
  unfold mutoscoperef05_Round.f rnd
  rw [refFloor n d hd hd' hn hn', Option.bind_some, wrap_in (n := n / d * d) (by omega) (by omega), show n - n / d * d = n % d by omega,
    wrap_in (n := n % d) (by omega) (by omega), wrap_in (n := d - n % d) (by omega) (by omega), wrap_in (n := n / d + 1) (by omega) (by omega)]
  by_cases c : n % d ≥ d - n % d
  · rw [if_pos c, if_pos c]
  · rw [if_neg c, if_neg c]
theorem awake_ok (k : Nat) : mutoscopelaw05_awake.f (k + 12) = some true := at_rounds mutoscopelaw05_awake.mono (k := 12) (by omega) (by decide +kernel)
theorem refRight (a : Int) : mutoscoperef05_Right.f a = some (decide (-1073741824 ≤ a ∧ a ≤ 1073741824)) := by
  unfold mutoscoperef05_Right.f
  by_cases h : a ≥ -1073741824
  · rw [if_pos h]; congr 1; apply decide_eq_decide.2; omega
  · rw [if_neg h, decide_eq_false (by omega)]
theorem right2 (a b : Int) (k : Nat) : fix_Right.f (k + 3) [a, b] = some (decide ((-1073741824 ≤ a ∧ a ≤ 1073741824) ∧ (-1073741824 ≤ b ∧ b ≤ 1073741824))) := by
  unfold fix_Right.f
  have e1 : wrap64 (0 + 1) = 1 := by unfold wrap64; omega
  have e2 : wrap64 (1 + 1) = 2 := by unfold wrap64; omega
  simp only [fix_Right.l0, List.length_cons, List.length_nil, e1, e2, rd]
  by_cases h1 : a < -1073741824
  · rw [decide_eq_false (by omega)]; simp [h1]
  by_cases h2 : a > 1073741824
  · rw [decide_eq_false (by omega)]; simp [h1, h2]
  by_cases h3 : b < -1073741824
  · rw [decide_eq_false (by omega)]; simp [h1, h2, h3]
  by_cases h4 : b > 1073741824
  · rw [decide_eq_false (by omega)]; simp [h1, h2, h3, h4]
  · rw [decide_eq_true (by omega)]; simp [h1, h2, h3, h4]
theorem rnd_p (p : Int) : rnd p 65536 = (p + 32768) / 65536 := by unfold rnd; omega
theorem FixMuls (a b : Int) (wa : (Lit.int .i64 a).wf = true) (wb : (Lit.int .i64 b).wf = true) : ∃ k, mutoscopelaw05_FixMuls.f k a b = some true := by
  have ba := wf_bd wa
  have bb := wf_bd wb
  refine ⟨14, ?_⟩
  have jt : ¬ ((-1073741824 ≤ a ∧ a ≤ 1073741824) ∧ (-1073741824 ≤ b ∧ b ≤ 1073741824)) → mutoscopelaw05_FixMuls.j0 14 a b true = some true := by
    intro h
    simp only [mutoscopelaw05_FixMuls.j0]
    rw [if_pos trivial, right2 a b 10, decide_eq_false h, right2 b a 10, decide_eq_false (by omega), awake_ok 1]
    rfl
  unfold mutoscopelaw05_FixMuls.f
  rw [refRight, Option.bind_some]
  by_cases h1 : -1073741824 ≤ a ∧ a ≤ 1073741824
  · rw [if_pos (decide_eq_true h1), refRight, Option.bind_some]
    by_cases h2 : -1073741824 ≤ b ∧ b ≤ 1073741824
    · rw [decide_eq_true h2]
      have hm := mul_bd (A := 1073741824) (B := 1073741824) h1.1 h1.2 h2.1 h2.2
      have hc : b * a = a * b := Int.mul_comm _ _
      have m1 : fix_Mul.f a b = some ((a * b + 32768) / 65536) := by
        unfold fix_Mul.f
        rw [wrap_in (n := a * b) (by omega) (by omega), wrap_in (n := a * b + 32768) (by omega) (by omega)]
      have m2 : fix_Mul.f b a = some ((a * b + 32768) / 65536) := by
        unfold fix_Mul.f
        rw [hc, wrap_in (n := a * b) (by omega) (by omega), wrap_in (n := a * b + 32768) (by omega) (by omega)]
      have m3 : mutoscoperef05_Mul.f 13 a b = some ((a * b + 32768) / 65536) := by
        unfold mutoscoperef05_Mul.f
        rw [wrap_in (n := a * b) (by omega) (by omega), refRound _ _ (by omega) (by omega) (by omega) (by omega) 11, rnd_p]; rfl
      have f1 : fix_Floor.f a = some (a / 65536) := rfl
      have f2 : fix_Ceil.f a = some (-((-a) / 65536)) := by
        unfold fix_Ceil.f
        rw [wrap_in (n := -a) (by omega) (by omega), wrap_in (n := -(-a / 65536)) (by omega) (by omega)]
      have f3 := refFloor a 65536 (by omega) (by omega) (by omega) (by omega) 11
      have hz : ((-(-a / 65536) == a / 65536) == (Int.tmod a 65536 == 0)) = true := by
        obtain ⟨q, r, e1, e2, e, h⟩ := tdm a 65536 (by omega)
        rw [e2]
        by_cases hr : r = 0
        · rw [beq_iff_eq.2 hr, beq_iff_eq.2 (show -(-a / 65536) = a / 65536 by omega)]; rfl
        · rw [beq_eq_false_iff_ne.2 hr, beq_eq_false_iff_ne.2 (show -(-a / 65536) ≠ a / 65536 by omega)]; rfl
      simp only [mutoscopelaw05_FixMuls.j0]
      rw [if_neg (by simp), f1, Option.bind_some, f2, Option.bind_some, right2 a b 10, Option.bind_some, if_pos (decide_eq_true ⟨h1, h2⟩), m1, Option.bind_some, m3, Option.bind_some, if_pos rfl, m2, Option.bind_some, Option.bind_some,
        if_pos rfl, f3, Option.bind_some, if_pos rfl, wrap_in (n := a / 65536 * 65536) (by omega) (by omega), if_pos (by omega), wrap_in (n := -(-a / 65536) * 65536) (by omega) (by omega), if_pos (by omega),
        wrap_in (n := -(-a / 65536) - a / 65536) (by omega) (by omega), if_pos (by omega), if_pos hz, awake_ok 1]
      rfl
    · rw [decide_eq_false h2]; exact jt (fun h => h2 h.2)
  · rw [decide_eq_false h1, if_neg (by simp)]; exact jt (fun h => h1 h.1)

end Go.Proofs.Ytbkjkjcpclaijaa.PureFixMuls
