/- An abstract machine for the program's code, and what it says of the machine's own runs. -/
import Derived.Test.YtalnfojlmkebnaaAID
import Derived.ProofKit
import Derived.OpenShut
import Derived.ChangeOld
import Derived.SizedLaws
namespace Go.Proofs.Ytalnfojlmkebnaa.AI
open Go Go.RowKit
set_option linter.unusedVariables false
set_option linter.unusedSimpArgs false
/-! What comes in, as its type tells it; the law's row. -/
open Go.ChangeShapes Go.WideShapes
/-- Nothing that was there may change. -/
def g0 (W : World) : Gh := ⟨fun _ => 0, fun _ => .bool false, fun _ => 0, fun b o => ∃ v, W.cell? ⟨b, o, none⟩ = some v⟩
theorem HR.start (W : World) : HR (g0 W) [] W := ⟨fun b l h => by simp at h, fun r s h => by simp at h, fun b b' x x' h => by simp at h, fun b o h => h⟩
def PRs (W : World) (imm : Nat → Nat → Prop) : List PC → List Value → Prop
  | [], [] => True
  | p :: l, u :: r => PR W imm p u ∧ PRs W imm l r
  | _, _ => False
theorem PRs.length {W : World} {imm} : ∀ {l : List PC} {r : List Value}, PRs W imm l r → r.length = l.length
  | [], [], _ => rfl
  | a :: l, u :: r, h => by simp [PRs.length h.2]
  | [], _ :: _, h => h.elim
  | _ :: _, [], h => h.elim
theorem PRs.append {W : World} {imm} : ∀ {l : List PC} {r : List Value} {l' : List PC} {r' : List Value}, PRs W imm l r → PRs W imm l' r' → PRs W imm (l ++ l') (r ++ r')
  | [], [], _, _, _, k => k
  | a :: l, u :: r, _, _, h, k => ⟨h.1, PRs.append h.2 k⟩
  | [], _ :: _, _, _, h, _ => h.elim
  | _ :: _, [], _, _, h, _ => h.elim
theorem PRs.get {W : World} {imm} : ∀ {l : List PC} {r : List Value} {i : Nat} {p : PC}, PRs W imm l r → l[i]? = some p → ∃ u, r[i]? = some u ∧ PR W imm p u
  | a :: l, u :: r, 0, b, h, e => by simp at e; subst e; exact ⟨u, by simp, h.1⟩
  | a :: l, u :: r, i + 1, b, h, e => by simp at e; obtain ⟨v, x, y⟩ := PRs.get h.2 e; exact ⟨v, by simpa using x, y⟩
  | [], [], _, _, _, e => by simp at e
  | [], _ :: _, _, _, h, _ => h.elim
  | _ :: _, [], _, _, h, _ => h.elim
theorem PRs.ac {g : Gh} {W : World} {n : Nat} : ∀ {l : List PC} {r : List Value}, PRs W g.imm l r → ARs g W n (l.map PC.ac) r
  | [], [], _ => trivial
  | a :: l, u :: r, h => ⟨pc_ac h.1, PRs.ac h.2⟩
  | [], _ :: _, h => h.elim
  | _ :: _, [], h => h.elim
/-- Fields lie one behind the other. -/
def tile (P : Program) : List Field → Nat → Option Nat
  | [], o => some o
  | f :: r, o => if f.offset = o then tile P r (o + P.cellsOf f.type) else none
def GoodT (P : Program) : Nat → TypeId → Bool
  | 0, _ => false
  | k + 1, t => match P.underlying t with
    | some .bool | some (.int _) | some .string => true
    | some (.slice e) => decide (0 < P.cellsOf e) && GoodT P k e
    | some (.struct fs) => (tile P fs.toList 0 == some (P.cellsOf t)) && fs.toList.all fun f => GoodT P k f.type
    | some (.array n e) => (n * P.cellsOf e == P.cellsOf t) && GoodT P k e
    | _ => false
/-- What a value of a type may be. -/
def Sh (P : Program) : Nat → TypeId → List PC → Prop
  | 0, _, _ => False
  | k + 1, t, pcs => match P.underlying t with
    | some .bool => ∃ b, pcs = [.s (.bool b)]
    | some (.int i) => ∃ n, pcs = [.s (.int i n)] ∧ (Lit.int i n).wf = true
    | some .string => ∃ s, pcs = [.s (.string s)] ∧ s.size ≤ maxLen
    | some (.slice e) => ∃ l, pcs = [.row l] ∧ l.length ≤ maxLen ∧ ∀ c ∈ l, c.length = P.cellsOf e ∧ Sh P k e c
    | some (.struct fs) => pcs.length = P.cellsOf t ∧ ∀ f ∈ fs.toList, Sh P k f.type ((pcs.drop f.offset).take (P.cellsOf f.type))
    | some (.array n e) => pcs.length = P.cellsOf t ∧ ∀ i, i < n → Sh P k e ((pcs.drop (i * P.cellsOf e)).take (P.cellsOf e))
    | _ => False
theorem tile_le {P : Program} : ∀ {fs : List Field} {o m : Nat}, tile P fs o = some m → o ≤ m
  | [], o, m, h => by simp only [tile] at h; cases h; exact Nat.le_refl _
  | f :: r, o, m, h => by
    unfold tile at h
    split at h
    · have := tile_le h; omega
    · cases h
theorem tile_ge {P : Program} : ∀ {fs : List Field} {o m : Nat}, tile P fs o = some m → ∀ f ∈ fs, o ≤ f.offset
  | [], _, _, _, f, hf => by simp at hf
  | f0 :: r, o, m, h, f, hf => by
    unfold tile at h
    split at h
    · rename_i he
      rcases List.mem_cons.1 hf with rfl | hf
      · omega
      · have := tile_ge h f hf; omega
    · cases h
theorem drop_take_split {α : Type} (l : List α) (o n : Nat) : l.drop o = (l.drop o).take n ++ l.drop (o + n) := by
  rw [← List.drop_drop, List.take_append_drop]
theorem fields_pcs {P : Program} {W : World} {imm : Nat → Nat → Prop} {k : Nat} {cs : List Value} (hrec : ∀ t vs, (∃ pcs, PRs W imm pcs vs ∧ Sh P k t pcs) → True) : ∀ {fs : List Field} {o m : Nat}, tile P fs o = some m → m = cs.length →
    (∀ f ∈ fs, ∃ pcs, PRs W imm pcs ((cs.drop f.offset).take (P.cellsOf f.type)) ∧ Sh P k f.type pcs) →
    ∃ pcs, PRs W imm pcs (cs.drop o) ∧ ∀ f ∈ fs, Sh P k f.type ((pcs.drop (f.offset - o)).take (P.cellsOf f.type))
  | [], o, m, h, hm, _ => by
    simp only [tile] at h
    cases h
    exact ⟨[], by rw [List.drop_eq_nil_of_le (by omega)]; trivial, by simp⟩
  | f :: r, o, m, h, hm, hf => by
    unfold tile at h
    split at h
    · rename_i he
      obtain ⟨p1, h1, h2⟩ := hf f (by simp)
      obtain ⟨p2, h3, h4⟩ := fields_pcs hrec h hm (fun g hg => hf g (List.mem_cons_of_mem _ hg))
      have hle := tile_le h
      have hlen : p1.length = P.cellsOf f.type := by
        have := h1.length
        rw [List.length_take, List.length_drop] at this
        omega
      rw [he] at h1
      refine ⟨p1 ++ p2, ?_, fun g hg => ?_⟩
      · rw [drop_take_split cs o (P.cellsOf f.type)]
        exact h1.append h3
      · rcases List.mem_cons.1 hg with rfl | hg
        · rw [he, Nat.sub_self, List.drop_zero, List.take_append_of_le_length (by omega), List.take_of_length_le (by omega)]
          exact h2
        · have hge := tile_ge h g hg
          rw [List.drop_append, List.drop_eq_nil_of_le (by omega), List.nil_append, hlen, show g.offset - o - P.cellsOf f.type = g.offset - (o + P.cellsOf f.type) by omega]
          exact h4 g hg
    · cases h
theorem elems_pcs {P : Program} {W : World} {imm : Nat → Nat → Prop} {k sz : Nat} {e : TypeId} {cs : List Value} : ∀ (n j : Nat), (j + n) * sz = cs.length →
    (∀ i, i < j + n → ∃ pcs, PRs W imm pcs ((cs.drop (i * sz)).take sz) ∧ Sh P k e pcs) →
    ∃ pcs, PRs W imm pcs (cs.drop (j * sz)) ∧ ∀ i, i < n → Sh P k e ((pcs.drop (i * sz)).take sz)
  | 0, j, hl, _ => ⟨[], by rw [List.drop_eq_nil_of_le (by rw [← hl]; simp)]; trivial, fun i hi => by omega⟩
  | n + 1, j, hl, h => by
    obtain ⟨p1, h1, h2⟩ := h j (by omega)
    obtain ⟨p2, h3, h4⟩ := elems_pcs n (j + 1) (by rw [show j + 1 + n = j + (n + 1) by omega]; exact hl) (fun i hi => h i (by omega))
    have hlen : p1.length = sz := by
      have := h1.length
      rw [List.length_take, List.length_drop] at this
      have : (j + 1) * sz ≤ (j + (n + 1)) * sz := Nat.mul_le_mul_right _ (by omega)
      rw [Nat.add_mul, Nat.one_mul] at this
      omega
    refine ⟨p1 ++ p2, ?_, fun i hi => ?_⟩
    · rw [drop_take_split cs (j * sz) sz]
      refine h1.append ?_
      rw [Nat.add_mul, Nat.one_mul] at h3
      exact h3
    · rcases i with _ | i
      · rw [Nat.zero_mul, List.drop_zero, List.take_append_of_le_length (by omega), List.take_of_length_le (by omega)]
        exact h2
      · rw [List.drop_append, List.drop_eq_nil_of_le (by rw [hlen, Nat.add_mul]; omega), List.nil_append, hlen, show (i + 1) * sz - sz = i * sz by rw [Nat.add_mul]; omega]
        exact h4 i (by omega)
theorem mapM_opt {α β : Type} {f : α → Option β} {l : List α} {r : List β} (h : l.mapM f = some r) : ∀ a ∈ l, ∃ b, f a = some b := by
  intro a ha
  obtain ⟨i, hi⟩ := List.getElem?_of_mem ha
  obtain ⟨hl, hg⟩ := mapM_get h
  have hlt : i < r.length := by rw [hl]; exact lt_of_get hi
  obtain ⟨a', ha', hf⟩ := hg i _ (List.getElem?_eq_getElem hlt)
  rw [hi] at ha'
  cases ha'
  exact ⟨_, hf⟩
/-- What can be read as data is told. -/
theorem trod_pcs {H : Type} {enc : TypeId × Value → H} {P : Program} {W : World} {sp : Nat → Bool} {held : Bool} : ∀ (k : Nat) (t : TypeId) (fuel : Nat) (cs : List Value) (x : DataW H × List MemPlace), GoodT P k t = true → DataW.trod enc P W 0 sp held fuel t cs = some x →
    ∃ pcs, PRs W (g0 W).imm pcs cs ∧ Sh P k t pcs := by
  intro k
  induction k with
  | zero => intro t fuel cs x h; cases h
  | succ k ih =>
    intro t fuel cs x hg hx
    cases fuel with
    | zero => simp [DataW.trod] at hx
    | succ fuel =>
      unfold GoodT at hg
      unfold Sh
      cases hu : P.underlying t with
      | none => rw [hu] at hg; cases hg
      | some d =>
        rw [hu] at hg
        cases d with
        | bool =>
          obtain ⟨b, rfl, _⟩ := DataW.trod_bool hu hx
          exact ⟨[.s (.bool b)], ⟨.s _ rfl, trivial⟩, ⟨_, rfl⟩⟩
        | int i =>
          obtain ⟨n, rfl, _, hw⟩ := DataW.trod_int hu hx
          exact ⟨[.s (.int i n)], ⟨.s _ rfl, trivial⟩, ⟨_, rfl, hw⟩⟩
        | string =>
          obtain ⟨s, rfl, _, hw⟩ := DataW.trod_string hu hx
          exact ⟨[.s (.string s)], ⟨.s _ rfl, trivial⟩, ⟨_, rfl, hw⟩⟩
        | slice e =>
          simp only [Bool.and_eq_true, decide_eq_true_eq] at hg
          obtain ⟨hpos, hg⟩ := hg
          rcases DataW.trod_slice hu hx with ⟨rfl, _⟩ | ⟨a, len, cap, elems, rest, m, _, rfl, _, _, hle, hmax, hel, hi, _, _⟩
          · exact ⟨[.row []], ⟨.nil, trivial⟩, [], rfl, Nat.zero_le _, by simp⟩
          · have hone : ∀ i, i < len → ∃ pcs : List PC, pcs.length = P.cellsOf e ∧ Sh P k e pcs ∧ ∃ vs : List Value, PRs W (g0 W).imm pcs vs ∧ ∀ j u, vs[j]? = some u → W.cell? ((a.add (i * P.cellsOf e)).add j) = some u := by
              intro i hil
              have h1 := hi i hil
              have hlt : i < elems.length := by omega
              rw [List.getElem?_eq_getElem hlt] at h1
              obtain ⟨vs, hvs, htr⟩ := Option.bind_eq_some_iff.1 h1
              obtain ⟨_, hvl, hcell⟩ := World.cells?_some hvs
              obtain ⟨pcs, h2, h3⟩ := ih e _ _ _ hg htr
              refine ⟨pcs, by rw [← h2.length, hvl], h3, vs, h2, fun j u hj => ?_⟩
              rw [hcell j (by have := lt_of_get hj; omega)]
              exact hj
            by_cases h0 : len = 0
            · subst h0
              exact ⟨[.row []], ⟨.emp a cap hmax, trivial⟩, [], rfl, Nat.zero_le _, by simp⟩
            · have hspot : a = ⟨a.block, a.off, none⟩ := by
                obtain ⟨pcs, hl, _, vs, h2, hc⟩ := hone 0 (by omega)
                have hvl := h2.length
                have hv0 : vs[0]? = some (vs[0]'(by omega)) := List.getElem?_eq_getElem (by omega)
                have := hc 0 _ hv0
                rw [Nat.zero_mul] at this
                have e0 : (a.add 0).add 0 = a := rfl
                rw [e0] at this
                obtain ⟨b, o, s⟩ := a
                cases s with
                | none => rfl
                | some s =>
                  unfold World.cell? at this
                  split at this <;> simp at this
              obtain ⟨g, hgc⟩ := Classical.axiomOfChoice (r := fun (i : Nat) (p : List PC × List Value) => i < len → p.1.length = P.cellsOf e ∧ Sh P k e p.1 ∧ PRs W (g0 W).imm p.1 p.2 ∧ ∀ j u, p.2[j]? = some u → W.cell? ((a.add (i * P.cellsOf e)).add j) = some u) (fun i => by
                by_cases hil : i < len
                · obtain ⟨pcs, h1, h2, vs, h3, h4⟩ := hone i hil
                  exact ⟨(pcs, vs), fun _ => ⟨h1, h2, h3, h4⟩⟩
                · exact ⟨([], []), fun h => absurd h hil⟩)
              refine ⟨[.row ((List.range len).map fun i => (g i).1)], ⟨?_, trivial⟩, _, rfl, by simp; omega, fun c hc => ?_⟩
              · have hrow := PR.row (W := W) (imm := (g0 W).imm) ((List.range len).map fun i => (g i).1) (P.cellsOf e) a.block a.off cap (fun i j => (g i).2.getD j undef) (by simpa using hle) hmax
                  (fun c hc => by
                    obtain ⟨i, hi, rfl⟩ := List.mem_map.1 hc
                    exact (hgc i (List.mem_range.1 hi)).1)
                  (fun i c hic j p hj => by
                    rw [List.getElem?_map] at hic
                    obtain ⟨i', hi', rfl⟩ := Option.map_eq_some_iff.1 hic
                    have hil : i < len := by have := lt_of_get hi'; simpa using this
                    rw [List.getElem?_range hil] at hi'
                    cases hi'
                    obtain ⟨_, _, h3, h4⟩ := hgc i hil
                    obtain ⟨u, hu, _⟩ := h3.get hj
                    have := h4 j u hu
                    rw [hspot, add_mk, add_mk] at this
                    refine ⟨⟨u, this⟩, ?_⟩
                    rw [this, List.getD_eq_getElem?_getD, hu]; rfl)
                  (fun i c hic j p hj => by
                    rw [List.getElem?_map] at hic
                    obtain ⟨i', hi', rfl⟩ := Option.map_eq_some_iff.1 hic
                    have hil : i < len := by have := lt_of_get hi'; simpa using this
                    rw [List.getElem?_range hil] at hi'
                    cases hi'
                    obtain ⟨_, _, h3, _⟩ := hgc i hil
                    obtain ⟨u, hu, hp⟩ := h3.get hj
                    rw [List.getD_eq_getElem?_getD, hu]
                    exact hp)
                rw [← hspot] at hrow
                simpa using hrow
              · obtain ⟨i, hi, rfl⟩ := List.mem_map.1 hc
                exact ⟨(hgc i (List.mem_range.1 hi)).1, (hgc i (List.mem_range.1 hi)).2.1⟩
        | struct fs =>
          simp only [Bool.and_eq_true, beq_iff_eq, List.all_eq_true] at hg
          obtain ⟨ht, hg⟩ := hg
          obtain ⟨xs, m, _, _, hl, hxl, hf⟩ := DataW.trod_struct hu hx
          obtain ⟨pcs, h1, h2⟩ := fields_pcs (P := P) (W := W) (imm := (g0 W).imm) (k := k) (cs := cs) (fun _ _ _ => trivial) ht hl.symm (fun f hfm => by
            obtain ⟨i, hi⟩ := List.getElem?_of_mem hfm
            have h1 := hf i f (by simpa using hi)
            have hlt : i < xs.length := by have := lt_of_get hi; rw [Array.length_toList] at this; omega
            rw [List.getElem?_eq_getElem hlt] at h1
            exact ih f.type _ _ _ (hg f hfm) h1)
          rw [List.drop_zero] at h1
          exact ⟨pcs, h1, by rw [← h1.length, hl], fun f hfm => by have := h2 f hfm; rwa [Nat.sub_zero] at this⟩
        | array n e =>
          simp only [Bool.and_eq_true, beq_iff_eq] at hg
          obtain ⟨ht, hg⟩ := hg
          obtain ⟨xs, m, _, _, hl, hxl, hf⟩ := DataW.trod_array hu hx
          obtain ⟨pcs, h1, h2⟩ := elems_pcs (P := P) (W := W) (imm := (g0 W).imm) (k := k) (sz := P.cellsOf e) (e := e) (cs := cs) n 0 (by rw [Nat.zero_add, ht, hl]) (fun i hi => by
            have h1 := hf i (by omega)
            rw [List.getElem?_eq_getElem (by omega)] at h1
            exact ih e _ _ _ hg h1)
          rw [Nat.zero_mul, List.drop_zero] at h1
          exact ⟨pcs, h1, by rw [← h1.length, hl], h2⟩
        | _ => cases hg
/-- A value that came in. -/
def argAV (P : Program) (t : TypeId) (pcs : List PC) : AV := match aggT P t with
  | some true => .agg (pcs.map PC.ac)
  | _ => match pcs with
    | [p] => .c p.ac
    | _ => .agg []
theorem arg_R {H : Type} {enc : TypeId × Value → H} {P : Program} {W : World} {sp : Nat → Bool} {held : Bool} {k : Nat} {t : TypeId} {v : Value} {d : DataW H} {ps : List MemPlace} {r : Reach} {base : Nat} (hg : GoodT P k t = true) (hv : Value.okWide P W r base t v) (h : DataW.Trod enc P W 0 sp held t v d ps) :
    ∃ pcs, Sh P k t pcs ∧ AVR (g0 W) W 0 (argAV P t pcs) v := by
  obtain ⟨fuel, hf⟩ := h
  obtain ⟨pcs, h1, h2⟩ := trod_pcs k t fuel _ _ hg hf
  refine ⟨pcs, h2, ?_⟩
  unfold argAV aggT
  cases k with
  | zero => cases hg
  | succ k =>
    unfold GoodT at hg
    unfold Sh at h2
    have one : ∀ p u, pcs = [p] → v.cells = #[u] → u = v → AVR (g0 W) W 0 (.c p.ac) v := by
      rintro p u rfl hc rfl
      rw [hc] at h1
      exact pc_ac h1.1
    cases hu : P.underlying t with
    | none => rw [hu] at hg; cases hg
    | some d =>
      rw [hu] at hg h2
      cases d with
      | bool => obtain ⟨b, rfl⟩ := okWide_bool hu hv; obtain ⟨b', rfl⟩ := h2; exact one _ _ rfl rfl rfl
      | int i => obtain ⟨b, rfl⟩ := okWide_int hu hv; obtain ⟨b', rfl, _⟩ := h2; exact one _ _ rfl rfl rfl
      | string => obtain ⟨b, rfl⟩ := okWide_string hu hv; obtain ⟨b', rfl, _⟩ := h2; exact one _ _ rfl rfl rfl
      | slice e => obtain ⟨a, len, cap, rfl⟩ := okWide_slice hu hv; obtain ⟨l, rfl, _⟩ := h2; exact one _ _ rfl rfl rfl
      | struct fs =>
        obtain ⟨cs, rfl, _⟩ := okWide_struct hu hv
        exact ⟨cs, rfl, h1.ac⟩
      | array n e =>
        have : ∃ cs, v = .agg cs := by
          unfold Value.okWide at hv
          rw [hu] at hv
          obtain ⟨cs, e, _⟩ := hv
          exact ⟨cs, e⟩
        obtain ⟨cs, rfl⟩ := this
        exact ⟨cs, rfl, h1.ac⟩
      | _ => cases hg
/-- A law that the abstract machine finds true is true. -/
theorem law_calls {P : Program} (hm : P.follows .mixedOrders = true) {T : Tab} (hT : TabOk P T) {k f : Nat} {args : List AV} {W : World} {vals : Array Value} {H' : Heap} {D : List Nat} (h : callF P (evDraw P) T k f args [] = some (.v (.c (.s (.bool true))), H', D)) (ha : AVRs (g0 W) W 0 args vals.toList) :
    Calls P f vals W fun e w' => e = .returned (.bool true) ∧ Below W.heap.size W w' := by
  refine ((callF_ok (evDraw_ok hm) hT k f args [] _ _ _ h).2 (g0 W) W vals (HR.start W) ha).mono fun e W' hh => ?_
  obtain ⟨v, g', rfl, hs, _, rfl⟩ := hh
  exact ⟨rfl, hs.os, hs.tape, hs.output, hs.size, fun B hB => hs.fr B hB fun d _ x hx => by simp at hx⟩
end Go.Proofs.Ytalnfojlmkebnaa.AI
