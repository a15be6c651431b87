/- An abstract machine for the program's code, and what it says of the machine's own runs. -/
import Derived.Test.YtalnfojlmkebnaaAIH
namespace Go.Proofs.Ytalnfojlmkebnaa.AI
open Go Go.RowKit
set_option linter.unusedVariables false
set_option linter.unusedSimpArgs false
/-! What is told is so. -/
theorem bodyO_ok {P : Program} (hm : P.follows .mixedOrders = true) {T : Tab} (hT : TabOk P T) {call : CallF} (ih : Sound P call) (k : Nat) {f : Nat} {args : List AV} {H : Heap} {sv : SV} {H' : Heap} {D : List Nat} (h : bodyO P T call k f args H = some (sv, H', D)) :
    (∃ fn, P.funcs[f]? = some fn ∧ (fn.name == "runtime.NumGoroutine") = false ∧ fn.body.isNone = false) ∧
    ∀ g W (vals : Array Value), HR g H W → AVRs g W H.length args vals.toList → Calls P f vals W fun e W' => ∃ v g', e = .returned v ∧ Step g H W g' H' W' D ∧ SVR g' W' H'.length sv v := by
  unfold bodyO at h
  cases hfn : T.fn f with
  | none => rw [hfn] at h; cases h
  | some fn =>
    rw [hfn] at h
    simp only [Option.bind_some] at h
    obtain ⟨hP, hname⟩ := hT f fn hfn
    cases hb : fn.body with
    | none => rw [hb] at h; cases h
    | some c =>
      rw [hb] at h
      simp only [Option.bind_some] at h
      refine ⟨⟨fn, hP, hname, by rw [hb]; rfl⟩, fun g W vals hr hv => ?_⟩
      split at h
      · rename_i hlen
        cases hc : evCode P (evDraw P) call (T.drop f) fn.ntmps k c ⟨initEnv 0 args, H, []⟩ with
        | none => rw [hc] at h; cases h
        | some y =>
          rw [hc] at h
          simp only [Option.bind_some] at h
          have hvl := hv.length
          have hinit : Rel g H W fn.ntmps ⟨initEnv 0 args, H, []⟩ { tmps := vals ++ Array.replicate (fn.ntmps - vals.size) undef, defers := [] } W := by
            refine ⟨g, Step.refl hr, ?_, ?_, rfl⟩
            · have := initEnv_R args vals.toList 0 [] (fn.ntmps - vals.size) hv rfl
              have e : (([] : List Value) ++ vals.toList ++ List.replicate (fn.ntmps - vals.size) undef).toArray = vals ++ Array.replicate (fn.ntmps - vals.size) undef := by apply Array.ext'; simp
              rw [e] at this
              exact this
            · simp only [Array.size_append, Array.size_replicate]
              rw [Array.length_toList] at hvl
              omega
          refine calls_of_wp hP hb (wp_mono (evCode_ok (evDraw_ok hm) ih c _ y hc _ W hinit) fun e a W' hh => ?_)
          obtain ⟨rfl, g', hs, her, hn, hd⟩ := hh
          obtain ⟨ex, st⟩ := y
          have hend : ∀ l, resultsA P st fn.results.toList = some l → finish H l st = some (sv, H', D) → a.defers = [] ∧ ∃ v, (results fn a.tmps).run P W' = .ok v W' ∧ ∃ v' g', Ending.returned v = .returned v' ∧ Step g H W g' H' W' D ∧ SVR g' W' H'.length sv v' := by
            intro l h1 h2
            obtain ⟨vs, h3, h4⟩ := resultsA_R hs.hr her h1
            obtain ⟨g'', h5, h6⟩ := finish_R hr hs h4 h2
            refine ⟨hd, _, ?_, _, g'', rfl, h5, h6⟩
            rw [results_eq, Array.mapM_eq_mapM_toList]
            simp only [Sem.run_bind, Sem.run_map, h3, Result.andThen_ok, Sem.run_pure, List.size_toArray, List.getElem_toArray]
          cases ex with
          | exit id => cases h
          | normal =>
            cases hl : resultsA P st fn.results.toList with
            | none => simp only [hl] at h; cases h
            | some l => simp only [hl, Option.bind_some] at h; exact hend l hl h
          | ret =>
            cases hl : resultsA P st fn.results.toList with
            | none => simp only [hl] at h; cases h
            | some l => simp only [hl, Option.bind_some] at h; exact hend l hl h
      · cases h
theorem specO_ok {P : Program} {S : Spec} (hS : SpecOk P S) {f : Nat} {F : List AV → List (Bool × Out)} (hF : S f = some F) {args : List AV} {H : Heap} {sv : SV} {H' : Heap} {D : List Nat} (h : specO F args H = some (sv, H', D)) :
    (∃ fn, P.funcs[f]? = some fn ∧ (fn.name == "runtime.NumGoroutine") = false ∧ fn.body.isNone = false) ∧
    ∀ g W (vals : Array Value), HR g H W → AVRs g W H.length args vals.toList → Calls P f vals W fun e W' => ∃ v g', e = .returned v ∧ Step g H W g' H' W' D ∧ SVR g' W' H'.length sv v := by
  unfold specO at h
  split at h
  · rename_i a ha
    rw [Option.map_eq_some_iff] at h
    obtain ⟨o, ho, e⟩ := h
    cases e
    have hs := hS f F hF a o ho
    exact ⟨hs.1, fun g W vals hr hv => hs.lift ha hr hv⟩
  · cases h
theorem callO_ok {P : Program} (hm : P.follows .mixedOrders = true) {T : Tab} (hT : TabOk P T) {S : Spec} (hS : SpecOk P S) : ∀ d, Sound P (callO P T S d)
  | 0 => by
    intro f args H sv H' D h
    simp only [callO] at h
    split at h
    · rename_i F hF; exact specO_ok hS hF h
    · cases h
  | d + 1 => by
    intro f args H sv H' D h
    simp only [callO] at h
    split at h
    · rename_i F hF; exact specO_ok hS hF h
    · exact bodyO_ok hm hT (callO_ok hm hT hS d) d h
def rightsOf : Heap → Option (List Nat)
  | [] => some []
  | .right s :: r => match rightsOf r with | some l => some (s :: l) | none => none
  | _ => none
theorem rightsOf_eq : ∀ {H : Heap} {B : List Nat}, rightsOf H = some B → H = B.map Blk.right
  | [], B, h => by cases h; rfl
  | .right s :: r, B, h => by
    simp only [rightsOf] at h
    split at h
    · rename_i l hl; cases h; rw [rightsOf_eq hl]; rfl
    · cases h
  | .cells _ :: _, _, h => by simp [rightsOf] at h
  | .gone :: _, _, h => by simp [rightsOf] at h
section
variable {ρ : Type}
/-- A function, told in an empty memory. -/
def fnK (P : Program) (E : Bool) (T : Tab) (S : Spec) (L : Nat → Option (LoopK ρ)) (d k f : Nat) (args : List AV) (κ : Out → Option ρ) : Option ρ := bodyK P E T (callK P E T S d) L k f args [] fun o => match rightsOf o.2.1 with
  | some B => κ (o.1, B)
  | none => none
end
theorem fnK_ok {P : Program} (hm : P.follows .mixedOrders = true) {E : Bool} {T : Tab} (hT : TabOk P T) {S : Spec} (hS : SpecOk P S) {L : Nat → Option (LoopK Out)} {d k f : Nat} {args : List AV} {o : Out}
    (hL : ∀ fn c, T.fn f = some fn → fn.body = some c → LGood P [] fn.ntmps L c) (h : fnK P E T S L d k f args some = some o) : Snd P f args o := by
  unfold fnK bodyK at h
  split at h
  · rename_i fn hfn
    split at h
    · rename_i c hb
      obtain ⟨h1, h⟩ := cond_none h
      obtain ⟨hP, hname⟩ := hT f fn hfn
      refine ⟨⟨fn, hP, hname, by rw [hb]; rfl⟩, fun g W vals hr hv => ?_⟩
      have hvl := hv.length
      have hinit : Rel g [] W fn.ntmps ⟨initEnv 0 args, [], []⟩ { tmps := vals ++ Array.replicate (fn.ntmps - vals.size) undef, defers := [] } W := by
        refine ⟨g, Step.refl hr, ?_, ?_, rfl⟩
        · have := initEnv_R args vals.toList 0 [] (fn.ntmps - vals.size) hv rfl
          have e : (([] : List Value) ++ vals.toList ++ List.replicate (fn.ntmps - vals.size) undef).toArray = vals ++ Array.replicate (fn.ntmps - vals.size) undef := by apply Array.ext'; simp
          rw [e] at this
          exact this
        · have := of_decide_eq_true h1
          simp only [Array.size_append, Array.size_replicate]
          rw [Array.length_toList] at hvl
          omega
      refine calls_of_wp hP hb (wp_mono (evK_ok hm (callO_ok hm hT hS d) (callK_refines d) c (hL fn c hfn hb) _ _ _ h g W _ W hinit) fun e a W' hh => ?_)
      obtain ⟨y, rfl, ⟨g', hs, her, hn, hd⟩, h⟩ := hh
      obtain ⟨hne, l, q, hl, hq, h⟩ := endK_ok h
      split at h
      · rename_i B hB
        cases h
        obtain ⟨sv, H', D⟩ := q
        have hB := rightsOf_eq hB
        simp only at hB
        subst hB
        have hend : a.defers = [] ∧ ∃ v, (results fn a.tmps).run P W' = .ok v W' ∧ ∃ v' g', Ending.returned v = .returned v' ∧ Step g [] W g' (B.map Blk.right) W' [] ∧ SVR g' W' B.length sv v' := by
          obtain ⟨vs, h3, h4⟩ := resultsA_R hs.hr her hl
          obtain ⟨g'', h5, h6⟩ := finish_R hr hs h4 hq
          rw [List.length_map] at h6
          refine ⟨hd, _, ?_, _, g'', rfl, h5.sub (fun d _ hlt => by simp at hlt), h6⟩
          rw [results_eq, Array.mapM_eq_mapM_toList]
          simp only [Sem.run_bind, Sem.run_map, h3, Result.andThen_ok, Sem.run_pure, List.size_toArray, List.getElem_toArray]
        obtain ⟨ex, st⟩ := y
        cases ex with
        | exit id => exact absurd rfl (hne id)
        | normal => exact hend
        | ret => exact hend
      · cases h
    · cases h
  · cases h
/-- A law that is told true is true. -/
theorem law_snd {P : Program} {f : Nat} {args : List AV} {B : List Nat} (h : Snd P f args (.v (.c (.s (.bool true))), B)) {W : World} {vals : Array Value} (ha : AVRs (g0 W) W 0 args vals.toList) :
    Calls P f vals W fun e w' => e = .returned (.bool true) ∧ Below W.heap.size W w' := by
  refine (h.2 (g0 W) W vals (HR.start W) ha).mono fun e W' hh => ?_
  obtain ⟨v, g', rfl, hs, _, rfl⟩ := hh
  exact ⟨rfl, hs.os, hs.tape, hs.output, hs.size, fun B hB => hs.fr B hB fun d _ x hx => by simp at hx⟩
/-! Between two rounds: what is not needed is forgotten, and places that are left are numbered anew. -/
def posOf : List Nat → Nat → Option Nat
  | [], _ => none
  | k :: ks, r => if k = r then some 0 else match posOf ks r with | some i => some (i + 1) | none => none
theorem posOf_get : ∀ {ks : List Nat} {r i : Nat}, posOf ks r = some i → ks[i]? = some r
  | [], _, _, h => by cases h
  | k :: ks, r, i, h => by
    simp only [posOf] at h
    split at h
    · rename_i e; cases h; simp [e]
    · split at h
      · rename_i j hj; cases h; simpa using posOf_get hj
      · cases h
def reCap (ks : List Nat) : List (Nat × Nat) → Option (List (Nat × Nat))
  | [] => some []
  | x :: r => match posOf ks x.1, reCap ks r with | some i, some l => some ((i, x.2) :: l) | _, _ => none
def reC (ks : List Nat) : AC → Option AC
  | .own r l => match posOf ks r with | some i => some (.own i l) | none => some (.row l)
  | .ptr b o => match posOf ks b with | some i => some (.ptr i o) | none => none
  | .fn f cap => match reCap ks cap with | some l => some (.fn f l) | none => none
  | a => some a
def reCs (ks : List Nat) : List AC → Option (List AC)
  | [] => some []
  | a :: r => match reC ks a, reCs ks r with | some x, some y => some (x :: y) | _, _ => none
def reV (ks : List Nat) : AV → Option AV
  | .c a => match reC ks a with | some x => some (.c x) | none => none
  | .agg l => match reCs ks l with | some x => some (.agg x) | none => none
def reS (ks : List Nat) : SV → SV
  | .v a => match reV ks a with | some x => .v x | none => .any
  | _ => .any
def reB (ks : List Nat) : Blk → Option Blk
  | .cells l => match reCs ks l with | some x => some (.cells x) | none => none
  | b => some b
def reH (ks : List Nat) (H : Heap) : List Nat → Option Heap
  | [] => some []
  | k :: r => match H[k]? with
    | some b => match reB ks b, reH ks H r with | some x, some y => some (x :: y) | _, _ => none
    | none => none
def ownsC : AC → List Nat | .own r _ => [r] | _ => []
def ownsV : AV → List Nat | .c a => ownsC a | .agg l => l.flatMap ownsC
def ownsS : SV → List Nat | .v a => ownsV a | _ => []
def ownsB : Blk → List Nat | .cells l => l.flatMap ownsC | _ => []
def addNew (m : Nat) : List Nat → List Nat → List Nat
  | acc, [] => acc
  | acc, r :: l => if r < m ∨ acc.contains r = true then addNew m acc l else addNew m (acc ++ [r]) l
def nodupB : List Nat → Bool
  | [] => true
  | k :: r => !r.contains k && nodupB r
theorem nodupB_inj : ∀ {ks : List Nat}, nodupB ks = true → ∀ (i j r : Nat), ks[i]? = some r → ks[j]? = some r → i = j
  | [], _, i, j, r, h, _ => by simp at h
  | k :: ks, hn, i, j, r, hi, hj => by
    simp only [nodupB, Bool.and_eq_true, Bool.not_eq_true', List.contains_eq_mem, decide_eq_false_iff_not] at hn
    rcases i with _ | i <;> rcases j with _ | j
    · rfl
    · simp at hi; subst hi
      exact absurd (List.mem_of_getElem? (by simpa using hj)) hn.1
    · simp at hj; subst hj
      exact absurd (List.mem_of_getElem? (by simpa using hi)) hn.1
    · rw [nodupB_inj hn.2 i j r (by simpa using hi) (by simpa using hj)]
def keepEnv (keep : List Nat) (e : Env) : Env := keep.map fun t => (t, e.get t)
def adjust (keep : List Nat) (m : Nat) (st : St) : Option St :=
  let e := keepEnv keep st.env
  let ks := List.range m ++ addNew m [] (e.flatMap (fun p => ownsS p.2) ++ (st.heap.take m).flatMap ownsB)
  match nodupB ks, reH ks st.heap ks with
  | true, some H' => some ⟨e.map fun p => (p.1, reS ks p.2), H', []⟩
  | _, _ => none
def regh (ks : List Nat) (g : Gh) : Gh := ⟨fun i => g.blk (ks.getD i 0), fun i => g.rt (ks.getD i 0), fun i => g.sz (ks.getD i 0), g.imm⟩
theorem getD_of {ks : List Nat} {i r : Nat} (h : ks[i]? = some r) : ks.getD i 0 = r := by simp [List.getD, h]
theorem reCap_R {ks : List Nat} {g : Gh} : ∀ {cap l : List (Nat × Nat)}, reCap ks cap = some l → l.map (fun x => Value.pointer (some ⟨(regh ks g).blk x.1, x.2, none⟩)) = cap.map (fun x => Value.pointer (some ⟨g.blk x.1, x.2, none⟩)) ∧ ∀ x ∈ l, x.1 < ks.length
  | [], l, h => by simp only [reCap] at h; cases h; exact ⟨rfl, by simp⟩
  | x :: r, l, h => by
    simp only [reCap] at h
    split at h
    · rename_i i l' hi hl
      cases h
      have hp := posOf_get hi
      obtain ⟨e1, e2⟩ := reCap_R (g := g) hl
      refine ⟨?_, fun y hy => ?_⟩
      · rw [List.map_cons, List.map_cons, e1]
        show (Value.pointer (some ⟨g.blk (ks.getD i 0), x.2, none⟩)) :: _ = _
        rw [getD_of hp]
      · rcases List.mem_cons.1 hy with rfl | hy
        · exact lt_of_get hp
        · exact e2 y hy
    · cases h
theorem reC_R {ks : List Nat} {g : Gh} {W : World} {n : Nat} {a a' : AC} {u : Value} (h : AR g W n a u) (hp : reC ks a = some a') : AR (regh ks g) W ks.length a' u := by
  cases a with
  | s v => cases hp; exact h
  | row l => cases hp; exact h
  | full l => cases hp; exact h
  | own r l =>
    simp only [reC] at hp
    split at hp
    · rename_i i hi
      cases hp
      have hg := posOf_get hi
      refine ⟨lt_of_get hg, ?_, h.2.2.1, ?_⟩
      · show u = g.rt (ks.getD i 0); rw [getD_of hg]; exact h.2.1
      · show ∀ c ∈ l, c.length = g.sz (ks.getD i 0); rw [getD_of hg]; exact h.2.2.2
    · cases hp; exact h.2.2.1
  | ptr b off =>
    simp only [reC] at hp
    split at hp
    · rename_i i hi
      cases hp
      have hg := posOf_get hi
      refine ⟨lt_of_get hg, ?_⟩
      show u = .pointer (some ⟨g.blk (ks.getD i 0), off, none⟩)
      rw [getD_of hg]; exact h.2
    · cases hp
  | rptr c => cases hp; exact h
  | fn f cap =>
    simp only [reC] at hp
    split at hp
    · rename_i l hl
      cases hp
      obtain ⟨C, e, hC, _⟩ := h
      obtain ⟨e1, e2⟩ := reCap_R (g := g) hl
      exact ⟨C, e, hC.trans e1.symm, e2⟩
    · cases hp
theorem reCs_R {ks : List Nat} {g : Gh} {W : World} {n : Nat} : ∀ {l l' : List AC} {r : List Value}, ARs g W n l r → reCs ks l = some l' → ARs (regh ks g) W ks.length l' r
  | [], l', [], _, h => by simp only [reCs] at h; cases h; trivial
  | a :: l, l', u :: r, h, hs => by
    simp only [reCs] at hs
    split at hs
    · rename_i x y hx hy; cases hs; exact ⟨reC_R h.1 hx, reCs_R h.2 hy⟩
    · cases hs
  | [], _, _ :: _, h, _ => h.elim
  | _ :: _, _, [], h, _ => h.elim
theorem reS_R {ks : List Nat} {g : Gh} {W : World} {n : Nat} {a : SV} {u : Value} (h : SVR g W n a u) : SVR (regh ks g) W ks.length (reS ks a) u := by
  cases a with
  | any => trivial
  | tup l => trivial
  | v a =>
    simp only [reS]
    split
    · rename_i x hx
      cases a with
      | c a =>
        simp only [reV] at hx
        split at hx
        · rename_i y hy; cases hx; exact reC_R (AVR.ac h) hy
        · cases hx
      | agg l =>
        simp only [reV] at hx
        split at hx
        · rename_i y hy; cases hx
          obtain ⟨C, e, hC⟩ := h
          exact ⟨C, e, reCs_R hC hy⟩
        · cases hx
    · trivial
theorem reH_get {ks : List Nat} {H : Heap} : ∀ {l : List Nat} {H' : Heap}, reH ks H l = some H' → H'.length = l.length ∧ ∀ (i : Nat) (x : Blk), H'[i]? = some x → ∃ k b, l[i]? = some k ∧ H[k]? = some b ∧ reB ks b = some x
  | [], H', h => by simp only [reH] at h; cases h; exact ⟨rfl, fun i x hi => by simp at hi⟩
  | k :: l, H', h => by
    simp only [reH] at h
    split at h
    · rename_i b hb
      split at h
      · rename_i x y hx hy
        cases h
        obtain ⟨e1, e2⟩ := reH_get hy
        refine ⟨by simp [e1], fun i z hi => ?_⟩
        rcases i with _ | i
        · simp at hi; subst hi; exact ⟨k, b, by simp, hb, hx⟩
        · obtain ⟨k', b', h1, h2, h3⟩ := e2 i z (by simpa using hi); exact ⟨k', b', by simpa using h1, h2, h3⟩
      · cases h
    · cases h
theorem keepEnv_get : ∀ (keep : List Nat) (e : Env) (f : SV → SV) (u : Nat), Env.get ((keepEnv keep e).map fun p => (p.1, f p.2)) u = .any ∨ Env.get ((keepEnv keep e).map fun p => (p.1, f p.2)) u = f (e.get u)
  | [], _, _, _ => .inl rfl
  | t :: r, e, f, u => by
    show Env.get ((t, f (e.get t)) :: ((keepEnv r e).map fun p => (p.1, f p.2))) u = _ ∨ Env.get ((t, f (e.get t)) :: ((keepEnv r e).map fun p => (p.1, f p.2))) u = _
    simp only [Env.get]
    by_cases h : t = u
    · subst h; rw [if_pos rfl]; exact .inr rfl
    · rw [if_neg h]; exact keepEnv_get r e f u
theorem adjust_ok (keep : List Nat) (m : Nat) : AdjOk [] (adjust keep m) := by
  intro st st' h g0 W0 n a W hr
  obtain ⟨g, S, her, hn, hd⟩ := hr
  simp only [adjust] at h
  generalize hks : List.range m ++ addNew m [] ((keepEnv keep st.env).flatMap (fun p => ownsS p.2) ++ (st.heap.take m).flatMap ownsB) = ks at h
  split at h
  · rename_i H' hnd hH
    cases h
    obtain ⟨hlen, hget⟩ := reH_get hH
    have hinj := nodupB_inj hnd
    have hro : ∀ (i k : Nat) (b x : Blk), ks[i]? = some k → reB ks b = some x → roomy (regh ks g) i x → roomy g k b := by
      intro i k b x hi hb hx
      cases b with
      | cells l => trivial
      | right s =>
        simp only [reB] at hb; cases hb
        obtain ⟨a, len, cap, e, hl⟩ := hx
        exact ⟨a, len, cap, by have : (regh ks g).rt i = g.rt (ks.getD i 0) := rfl
                               rw [← getD_of hi, ← this]; exact e, hl⟩
      | gone => simp only [reB] at hb; cases hb; exact hx
    have hHR : HR (regh ks g) H' W := by
      refine ⟨fun b l hb => ?_, fun r s hr => ?_, fun b b' x x' hb hb' hne h1 h2 => ?_, S.hr.imm⟩
      · obtain ⟨k, y, hk, hy, hre⟩ := hget b _ hb
        cases y with
        | cells l0 =>
          simp only [reB] at hre
          split at hre
          · rename_i z hz
            cases hre
            obtain ⟨C, e, hw, ha, hi⟩ := S.hr.cells k l0 hy
            have hbk : (regh ks g).blk b = g.blk k := by show g.blk (ks.getD b 0) = _; rw [getD_of hk]
            rw [hbk, hlen]
            exact ⟨C, e, hw, reCs_R ha hz, hi⟩
          · cases hre
        | right s => simp only [reB] at hre; cases hre
        | gone => simp only [reB] at hre; cases hre
      · obtain ⟨k, y, hk, hy, hre⟩ := hget r _ hr
        cases y with
        | cells l0 =>
          simp only [reB] at hre
          split at hre <;> cases hre
        | right s' =>
          simp only [reB] at hre; cases hre
          have e1 : (regh ks g).sz r = g.sz k := by show g.sz (ks.getD r 0) = _; rw [getD_of hk]
          have e2 : (regh ks g).rt r = g.rt k := by show g.rt (ks.getD r 0) = _; rw [getD_of hk]
          have e3 : (regh ks g).blk r = g.blk k := by show g.blk (ks.getD r 0) = _; rw [getD_of hk]
          rw [e1, e2, e3]
          exact S.hr.right k s hy
        | gone => simp only [reB] at hre; cases hre
      · obtain ⟨k, y, hk, hy, hre⟩ := hget b _ hb
        obtain ⟨k', y', hk', hy', hre'⟩ := hget b' _ hb'
        show g.blk (ks.getD b 0) ≠ g.blk (ks.getD b' 0)
        rw [getD_of hk, getD_of hk']
        refine S.hr.apart k k' y y' hy hy' (fun e => hne ?_) (hro b k y x hk hre h1) (hro b' k' y' x' hk' hre' h2)
        subst e
        exact hinj b b' k hk hk'
    refine ⟨regh ks g, ⟨hHR, ⟨Nat.zero_le _, fun b hb => by simp at hb, fun b hb => by simp at hb, fun b hb => by simp at hb, S.ext.keeps⟩, S.os, S.tape, S.output, S.size, fun B hB _ => S.fr B hB (fun d _ x hx => by simp at hx), fun d x' hd => by simp at hd, fun d x' _ hx hr => ?_, fun d hd => by simp at hd, fun b o hi => ?_⟩, fun u => ?_, hn, hd⟩
    · obtain ⟨k, y, hk, hy, hre⟩ := hget d _ hx
      rcases S.new k y (Nat.zero_le _) hy (hro d k y x' hk hre hr) with hb | ⟨d0, _, x0, hx0, _⟩
      · left; show _ ≤ g.blk (ks.getD d 0); rw [getD_of hk]; exact hb
      · simp at hx0
    · rcases S.fresh b o hi with hi | hi | ⟨d0, _, x0, hx0, _⟩
      · exact .inl hi
      · exact .inr (.inl hi)
      · simp at hx0
    · show SVR (regh ks g) W H'.length (Env.get ((keepEnv keep st.env).map fun p => (p.1, reS ks p.2)) u) _
      rcases keepEnv_get keep st.env (reS ks) u with e | e
      · rw [e]; trivial
      · rw [e, hlen]; exact reS_R (her u)
  · cases h
end Go.Proofs.Ytalnfojlmkebnaa.AI
