/- An abstract machine for the program's code, and what it says of the machine's own runs. -/
import Derived.Test.YtalnfojlmkebnaaAIF
namespace Go.Proofs.Ytalnfojlmkebnaa.AI
open Go Go.RowKit
set_option linter.unusedVariables false
set_option linter.unusedSimpArgs false
/-! Code, told with what comes behind; loops that are told by a function of their own. -/
section
variable {ρ : Type}
abbrev KontK (ρ : Type) := Ex × St → Option ρ
abbrev LoopK (ρ : Type) := St → KontK ρ → Option ρ
/-- A loop's name: its first region. -/
def keyOf : Code → Option Nat
  | .region i _ _ => some i
  | .seq a b => match keyOf a with | some i => some i | none => keyOf b
  | .cond _ a b => match keyOf a with | some i => some i | none => keyOf b
  | .block _ a => keyOf a
  | .loop a => keyOf a
  | .scope a => keyOf a
  | _ => none
def iterK (f : St → KontK ρ → Option ρ) : Nat → St → KontK ρ → Option ρ
  | 0, _, _ => none
  | k + 1, st, κ => f st fun y => match y.1 with
    | .normal => iterK f k y.2 κ
    | _ => κ y
def evK (P : Program) (E : Bool) (call : CallK ρ) (L : Nat → Option (LoopK ρ)) (dr : List Nat) (n k : Nat) : Code → St → KontK ρ → Option ρ
  | .skip, st, κ => κ (.normal, st)
  | .label _, st, κ => κ (.normal, st)
  | .region _ ops d, st, κ => (match d with | true => evDrawK P E call n ops st | false => evOpsK P E call n ops ops.toList st) fun s => κ (.normal, ⟨s.env.drop dr, s.heap, s.dirty⟩)
  | .seq a b, st, κ => evK P E call L dr n k a st fun y => match y.1 with
    | .normal => evK P E call L dr n k b y.2 κ
    | _ => κ y
  | .cond c a b, st, κ => match evA st.env c with
    | .v (.c (.s (.bool t))) => cond t (evK P E call L dr n k a ⟨know c true st.env, st.heap, st.dirty⟩ κ) (evK P E call L dr n k b ⟨know c false st.env, st.heap, st.dirty⟩ κ)
    | _ => none
  | .block id body, st, κ => evK P E call L dr n k body st fun y => κ (inBlock id y.1, y.2)
  | .loop body, st, κ => match (keyOf body).bind L with
    | some F => F st κ
    | none => iterK (evK P E call L dr n k body) k st κ
  | .exit id, st, κ => κ (.exit id, st)
  | .ret, st, κ => κ (.ret, st)
  | .scope body, st, κ => evK P E call L dr n k body st κ
  | _, _, _ => none
/-- Without loops that are told apart: what the abstract machine says. -/
theorem evK_refines {P : Program} {E : Bool} {call : CallF} {callk : CallK ρ} (hc : Refines call callk) {dr : List Nat} {n k : Nat} : ∀ (c : Code) (st : St) (κ : KontK ρ) (r : ρ), evK P E callk (fun _ => none) dr n k c st κ = some r →
    ∃ y, evCode P (evDraw P) call dr n k c st = some y ∧ κ y = some r := by
  intro c
  induction c with
  | skip => intro st κ r h; exact ⟨_, rfl, h⟩
  | label l => intro st κ r h; exact ⟨_, rfl, h⟩
  | region id ops d =>
    intro st κ r h
    cases d with
    | false =>
      simp only [evK] at h
      obtain ⟨y, hy, h⟩ := evOpsK_ok hc h
      exact ⟨_, by simp only [evCode, Bool.false_eq_true, if_false, hy, Option.map_some], h⟩
    | true =>
      simp only [evK] at h
      obtain ⟨y, hy, h⟩ := evDrawK_ok hc h
      exact ⟨_, by simp only [evCode, if_true, hy, Option.map_some], h⟩
  | seq a b iha ihb =>
    intro st κ r h
    simp only [evK] at h
    obtain ⟨y, hy, h⟩ := iha _ _ _ h
    obtain ⟨ex, st2⟩ := y
    cases ex with
    | normal =>
      obtain ⟨z, hz, h⟩ := ihb _ _ _ h
      exact ⟨z, by simp only [evCode, hy, Option.bind_some, hz], h⟩
    | ret => exact ⟨_, by simp only [evCode, hy, Option.bind_some], h⟩
    | exit id => exact ⟨_, by simp only [evCode, hy, Option.bind_some], h⟩
  | cond c a b iha ihb =>
    intro st κ r h
    simp only [evK] at h
    split at h
    · rename_i t ht
      simp only [evCode, ht]
      rcases cond_some h with ⟨h1, h⟩ | ⟨h1, h⟩
      · rw [know_same (by rw [← h1]; exact ht)] at h
        obtain ⟨y, hy, h⟩ := iha _ _ _ h
        exact ⟨y, by rw [h1]; simpa using hy, h⟩
      · rw [know_same (by rw [← h1]; exact ht)] at h
        obtain ⟨y, hy, h⟩ := ihb _ _ _ h
        exact ⟨y, by rw [h1]; simpa using hy, h⟩
    · cases h
  | block id body ih =>
    intro st κ r h
    simp only [evK] at h
    obtain ⟨y, hy, h⟩ := ih _ _ _ h
    exact ⟨_, by simp only [evCode, hy, Option.map_some], h⟩
  | loop body ih =>
    intro st κ r h
    have h : iterK (evK P E callk (fun _ => none) dr n k body) k st κ = some r := by
      simp only [evK] at h
      have e : (keyOf body).bind (fun _ => (none : Option (LoopK ρ))) = none := by cases keyOf body <;> rfl
      rw [e] at h
      exact h
    have key : ∀ (m : Nat) (st : St), iterK (evK P E callk (fun _ => none) dr n k body) m st κ = some r → ∃ y, iter (evCode P (evDraw P) call dr n k body) m st = some y ∧ κ y = some r := by
      intro m
      induction m with
      | zero => intro st h; cases h
      | succ m ihm =>
        intro st h
        simp only [iterK] at h
        obtain ⟨y, hy, h⟩ := ih _ _ _ h
        obtain ⟨ex, st2⟩ := y
        cases ex with
        | normal =>
          obtain ⟨z, hz, h⟩ := ihm _ h
          exact ⟨z, by simp only [iter, hy, Option.bind_some, hz], h⟩
        | ret => exact ⟨_, by simp only [iter, hy, Option.bind_some], h⟩
        | exit id => exact ⟨_, by simp only [iter, hy, Option.bind_some], h⟩
    obtain ⟨y, hy, h⟩ := key k st h
    exact ⟨y, by simp only [evCode, hy], h⟩
  | exit id => intro st κ r h; exact ⟨_, rfl, h⟩
  | ret => intro st κ r h; exact ⟨_, rfl, h⟩
  | scope body ih =>
    intro st κ r h
    simp only [evK] at h
    obtain ⟨y, hy, h⟩ := ih _ _ _ h
    exact ⟨y, by simp only [evCode, hy], h⟩
  | goto l => intro st κ r h; simp [evK] at h
  | refuse w => intro st κ r h; simp [evK] at h
  | rangeFunc f p as b => intro st κ r h; simp [evK] at h
/-- After some code, in the machine: the continuation answers r. -/
def After (H0 : Heap) (n : Nat) (g0 : Gh) (W0 : World) (κ : KontK ρ) (r : ρ) : Exit → Act → World → Prop := fun e a W => ∃ y, e = toExit y.1 ∧ Rel g0 H0 W0 n y.2 a W ∧ κ y = some r
/-- A loop is told rightly. -/
def LSound (P : Program) (H0 : Heap) (n : Nat) (body : Code) (F : LoopK ρ) : Prop := ∀ st κ r, F st κ = some r → ∀ (g0 : Gh) (W0 : World) (a : Act) (W : World), Rel g0 H0 W0 n st a W → (Code.loop body).wp P (After H0 n g0 W0 κ r) a W
/-- All loops of some code, from the outside. -/
def loops : Code → List Code
  | .seq a b => loops a ++ loops b
  | .cond _ a b => loops a ++ loops b
  | .block _ a => loops a
  | .loop a => a :: loops a
  | .scope a => loops a
  | _ => []
def LGood (P : Program) (H0 : Heap) (n : Nat) (L : Nat → Option (LoopK ρ)) (c : Code) : Prop := ∀ body ∈ loops c, ∀ F, (keyOf body).bind L = some F → LSound P H0 n body F
theorem evK_ok {P : Program} (hm : P.follows .mixedOrders = true) {E : Bool} {call : CallF} (hs : Sound P call) {callk : CallK ρ} (hc : Refines call callk) {L : Nat → Option (LoopK ρ)} {dr : List Nat} {n k : Nat} {H0 : Heap} : ∀ (c : Code), LGood P H0 n L c → ∀ (st : St) (κ : KontK ρ) (r : ρ),
    evK P E callk L dr n k c st κ = some r → ∀ (g0 : Gh) (W0 : World) (a : Act) (W : World), Rel g0 H0 W0 n st a W → c.wp P (After H0 n g0 W0 κ r) a W := by
  intro c
  induction c with
  | skip => intro hL st κ r h g0 W0 a W hr; exact wp_skip ⟨_, rfl, hr, h⟩
  | label l => intro hL st κ r h g0 W0 a W hr; exact wp_label ⟨_, rfl, hr, h⟩
  | region id ops d =>
    intro hL st κ r h g0 W0 a W hr
    cases d with
    | false =>
      simp only [evK] at h
      obtain ⟨y, hy, h⟩ := evOpsK_ok hc h
      have := evOps_ok hs ops.toList 0 st y rfl hy a W hr
      rw [List.drop_zero] at this
      exact wp_mono (wp_region this) fun e a' W' hh => ⟨(.normal, ⟨y.env.drop dr, y.heap, y.dirty⟩), hh.1, hh.2.drop dr, h⟩
    | true =>
      simp only [evK] at h
      obtain ⟨y, hy, h⟩ := evDrawK_ok hc h
      exact wp_mono (evDraw_ok hm call hs n ops st y hy g0 H0 W0 a W hr id) fun e a' W' hh => ⟨(.normal, ⟨y.env.drop dr, y.heap, y.dirty⟩), hh.1, hh.2.drop dr, h⟩
  | seq a b iha ihb =>
    intro hL st κ r h g0 W0 a' W hr
    simp only [evK] at h
    have hLa : LGood P H0 n L a := fun body hb => hL body (by simp [loops, hb])
    have hLb : LGood P H0 n L b := fun body hb => hL body (by simp [loops, hb])
    refine wp_seq (wp_mono (iha hLa _ _ _ h g0 W0 a' W hr) fun e a2 W2 hh => ?_)
    obtain ⟨y, rfl, h2, h⟩ := hh
    obtain ⟨ex, st2⟩ := y
    cases ex with
    | normal => exact ihb hLb _ _ _ h g0 W0 a2 W2 h2
    | ret => exact ⟨_, rfl, h2, h⟩
    | exit id => exact ⟨_, rfl, h2, h⟩
  | cond c a b iha ihb =>
    intro hL st κ r h g0 W0 a' W hr
    have hLa : LGood P H0 n L a := fun body hb => hL body (by simp [loops, hb])
    have hLb : LGood P H0 n L b := fun body hb => hL body (by simp [loops, hb])
    simp only [evK] at h
    split at h
    · rename_i t ht
      obtain ⟨g, hs', her, hn, hd⟩ := id hr
      have hv := evA_R her c
      rw [ht] at hv
      obtain ⟨_, hv⟩ := hv
      refine wp_cond hv ?_
      rcases cond_some h with ⟨rfl, h⟩ | ⟨rfl, h⟩
      all_goals rw [know_same ht] at h
      · simp only [if_true]; exact iha hLa _ _ _ h g0 W0 a' W hr
      · simp only [Bool.false_eq_true, if_false]; exact ihb hLb _ _ _ h g0 W0 a' W hr
    · cases h
  | block id body ih =>
    intro hL st κ r h g0 W0 a W hr
    simp only [evK] at h
    refine wp_block (wp_mono (ih (fun b hb => hL b (by simpa [loops] using hb)) _ _ _ h g0 W0 a W hr) fun e a2 W2 hh => ?_)
    obtain ⟨y, rfl, h2, h⟩ := hh
    obtain ⟨ex, st2⟩ := y
    cases ex with
    | normal => exact ⟨(inBlock id .normal, st2), rfl, h2, h⟩
    | ret => exact ⟨(inBlock id .ret, st2), rfl, h2, h⟩
    | exit j =>
      show (if j = id then _ else _)
      by_cases e : j = id
      · rw [if_pos e]; exact ⟨(inBlock id (.exit j), st2), by simp [inBlock, e, toExit], h2, h⟩
      · rw [if_neg e]; exact ⟨(inBlock id (.exit j), st2), by simp [inBlock, e, toExit], h2, h⟩
  | loop body ih =>
    intro hL st κ r h g0 W0 a W hr
    simp only [evK] at h
    split at h
    · rename_i F hF
      exact hL body (by simp [loops]) F hF _ _ _ h g0 W0 a W hr
    · refine wp_loop_rounds k ?_
      have key : ∀ (m : Nat) (st : St) (a : Act) (W : World), iterK (evK P E callk L dr n k body) m st κ = some r → Rel g0 H0 W0 n st a W → Code.rounds P body (After H0 n g0 W0 κ r) m a W := by
        intro m
        induction m with
        | zero => intro st a W h _; cases h
        | succ m ihm =>
          intro st a W h hr
          simp only [iterK] at h
          rw [rounds_succ]
          refine wp_mono (ih (fun b hb => hL b (by simp [loops, hb])) _ _ _ h g0 W0 a W hr) fun e a2 W2 hh => ?_
          obtain ⟨y, rfl, h2, h⟩ := hh
          obtain ⟨ex, st2⟩ := y
          cases ex with
          | normal => exact ihm st2 a2 W2 h h2
          | ret => exact ⟨_, rfl, h2, h⟩
          | exit id => exact ⟨_, rfl, h2, h⟩
      exact key k st a W h hr
  | exit id => intro hL st κ r h g0 W0 a W hr; exact wp_exit ⟨_, rfl, hr, h⟩
  | ret => intro hL st κ r h g0 W0 a W hr; exact wp_ret ⟨_, rfl, hr, h⟩
  | scope body ih =>
    intro hL st κ r h g0 W0 a W hr
    simp only [evK] at h
    refine wp_scope_straight (wp_mono (ih (fun b hb => hL b (by simpa [loops] using hb)) _ _ _ h g0 W0 a W hr) fun e a2 W2 hh => ?_)
    obtain ⟨y, rfl, h2, h⟩ := hh
    obtain ⟨ex, st2⟩ := y
    cases ex <;> exact ⟨_, rfl, h2, h⟩
  | goto l => intro hL st κ r h; simp [evK] at h
  | refuse w => intro hL st κ r h; simp [evK] at h
  | rangeFunc f p as b => intro hL st κ r h; simp [evK] at h
/-! A loop with an adjustment behind each round. -/
def AdjOk (H0 : Heap) (adj : St → Option St) : Prop := ∀ st st', adj st = some st' → ∀ (g0 : Gh) (W0 : World) (n : Nat) (a : Act) (W : World), Rel g0 H0 W0 n st a W → Rel g0 H0 W0 n st' a W
def iterA (adj : St → Option St) (f : St → KontK ρ → Option ρ) : Nat → St → KontK ρ → Option ρ
  | 0, _, _ => none
  | k + 1, st, κ => f st fun y => match y.1 with
    | .normal => match adj y.2 with
      | some st' => iterA adj f k st' κ
      | none => none
    | _ => κ y
theorem iterA_ok {P : Program} {H0 : Heap} {n : Nat} {body : Code} {adj : St → Option St} (hadj : AdjOk H0 adj) {f : LoopK ρ}
    (hf : ∀ st κ r, f st κ = some r → ∀ (g0 : Gh) (W0 : World) (a : Act) (W : World), Rel g0 H0 W0 n st a W → body.wp P (After H0 n g0 W0 κ r) a W) (k : Nat) : LSound P H0 n body (iterA adj f k) := by
  intro st κ r h g0 W0 a W hr
  refine wp_loop_rounds k ?_
  have key : ∀ (m : Nat) (st : St) (a : Act) (W : World), iterA adj f m st κ = some r → Rel g0 H0 W0 n st a W → Code.rounds P body (After H0 n g0 W0 κ r) m a W := by
    intro m
    induction m with
    | zero => intro st a W h _; cases h
    | succ m ihm =>
      intro st a W h hr
      simp only [iterA] at h
      rw [rounds_succ]
      refine wp_mono (hf _ _ _ h g0 W0 a W hr) fun e a2 W2 hh => ?_
      obtain ⟨y, rfl, h2, h⟩ := hh
      obtain ⟨ex, st2⟩ := y
      cases ex with
      | normal =>
        simp only at h
        split at h
        · rename_i st' hst
          exact ihm st' a2 W2 h (hadj _ _ hst g0 W0 n a2 W2 h2)
        · cases h
      | ret => exact ⟨_, rfl, h2, h⟩
      | exit id => exact ⟨_, rfl, h2, h⟩
  exact key k st a W h hr
theorem LSound.adj {P : Program} {H0 : Heap} {n : Nat} {body : Code} {adj : St → Option St} (hadj : AdjOk H0 adj) {F : LoopK ρ} (h : LSound P H0 n body F) : LSound P H0 n body (fun st κ => match adj st with | some st' => F st' κ | none => none) := by
  intro st κ r hF g0 W0 a W hr
  simp only at hF
  split at hF
  · rename_i st' hst
    exact h _ _ _ hF g0 W0 a W (hadj _ _ hst g0 W0 n a W hr)
  · cases hF
theorem LSound.mono {P : Program} {H0 : Heap} {n : Nat} {body : Code} {F G : LoopK ρ} (h : LSound P H0 n body F) (hG : ∀ st κ r, G st κ = some r → F st κ = some r) : LSound P H0 n body G := fun st κ r hr => h st κ r (hG st κ r hr)
end
end Go.Proofs.Ytalnfojlmkebnaa.AI
