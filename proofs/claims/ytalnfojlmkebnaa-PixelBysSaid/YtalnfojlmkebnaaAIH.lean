/- An abstract machine for the program's code, and what it says of the machine's own runs. -/
import Derived.Test.YtalnfojlmkebnaaAIG
namespace Go.Proofs.Ytalnfojlmkebnaa.AI
open Go Go.RowKit
set_option linter.unusedVariables false
set_option linter.unusedSimpArgs false
/-! Calls that are told once, from an empty memory. -/
def stripC : AC → Option AC
  | .s v => some (.s v)
  | .row l => some (.row l)
  | .full l => some (.full l)
  | .own _ l => some (.row l)
  | .rptr c => some (.rptr c)
  | .fn f [] => some (.fn f [])
  | _ => none
def stripCs : List AC → Option (List AC)
  | [] => some []
  | a :: r => match stripC a, stripCs r with | some x, some y => some (x :: y) | _, _ => none
def stripV : AV → Option AV
  | .c a => match stripC a with | some x => some (.c x) | none => none
  | .agg l => match stripCs l with | some x => some (.agg x) | none => none
def stripL : List AV → Option (List AV)
  | [] => some []
  | a :: r => match stripV a, stripL r with | some x, some y => some (x :: y) | _, _ => none
theorem stripC_R {g : Gh} {W : World} {n : Nat} {a a' : AC} {u : Value} (h : AR g W n a u) (hs : stripC a = some a') : AR g W 0 a' u := by
  unfold stripC at hs
  split at hs <;> cases hs
  · exact h
  · exact h
  · exact h
  · exact h.2.2.1
  · exact h
  · obtain ⟨C, e, hC, _⟩ := h
    exact ⟨C, e, hC, by simp⟩
theorem stripCs_R {g : Gh} {W : World} {n : Nat} : ∀ {l l' : List AC} {r : List Value}, ARs g W n l r → stripCs l = some l' → ARs g W 0 l' r
  | [], l', [], _, h => by simp only [stripCs] at h; cases h; trivial
  | a :: l, l', u :: r, h, hs => by
    simp only [stripCs] at hs
    split at hs
    · rename_i x y hx hy; cases hs; exact ⟨stripC_R h.1 hx, stripCs_R h.2 hy⟩
    · cases hs
  | [], _, _ :: _, h, _ => h.elim
  | _ :: _, _, [], h, _ => h.elim
theorem stripV_R {g : Gh} {W : World} {n : Nat} {a a' : AV} {u : Value} (h : AVR g W n a u) (hs : stripV a = some a') : AVR g W 0 a' u := by
  cases a with
  | c a =>
    simp only [stripV] at hs
    split at hs
    · rename_i x hx; cases hs; exact stripC_R (AVR.ac h) hx
    · cases hs
  | agg l =>
    simp only [stripV] at hs
    split at hs
    · rename_i x hx; cases hs
      obtain ⟨C, e, hC⟩ := h
      exact ⟨C, e, stripCs_R hC hx⟩
    · cases hs
theorem stripL_R {g : Gh} {W : World} {n : Nat} : ∀ {l l' : List AV} {r : List Value}, AVRs g W n l r → stripL l = some l' → AVRs g W 0 l' r
  | [], l', [], _, h => by simp only [stripL] at h; cases h; trivial
  | a :: l, l', u :: r, h, hs => by
    simp only [stripL] at hs
    split at hs
    · rename_i x y hx hy; cases hs; exact ⟨stripV_R h.1 hx, stripL_R h.2 hy⟩
    · cases hs
  | [], _, _ :: _, h, _ => h.elim
  | _ :: _, _, [], h, _ => h.elim
def shC (n : Nat) : AC → AC
  | .own r l => .own (n + r) l
  | .ptr b o => .ptr (n + b) o
  | .fn f cap => .fn f (cap.map fun x => (n + x.1, x.2))
  | a => a
def shV (n : Nat) : AV → AV | .c a => .c (shC n a) | .agg l => .agg (l.map (shC n))
def shS (n : Nat) : SV → SV | .any => .any | .v a => .v (shV n a) | .tup l => .tup (l.map (shV n))
/-- Two ghosts, one behind the other. -/
def both (n : Nat) (g g1 : Gh) : Gh := ⟨fun b => if b < n then g.blk b else g1.blk (b - n), fun b => if b < n then g.rt b else g1.rt (b - n), fun b => if b < n then g.sz b else g1.sz (b - n), g1.imm⟩
theorem both_old {n : Nat} {g g1 : Gh} {b : Nat} (h : b < n) : (both n g g1).blk b = g.blk b ∧ (both n g g1).rt b = g.rt b ∧ (both n g g1).sz b = g.sz b := ⟨if_pos h, if_pos h, if_pos h⟩
theorem both_new (n : Nat) (g g1 : Gh) (b : Nat) : (both n g g1).blk (n + b) = g1.blk b ∧ (both n g g1).rt (n + b) = g1.rt b ∧ (both n g g1).sz (n + b) = g1.sz b := by
  have h : ¬ n + b < n := by omega
  have e : n + b - n = b := by omega
  refine ⟨?_, ?_, ?_⟩
  · show (if n + b < n then _ else g1.blk (n + b - n)) = _; rw [if_neg h, e]
  · show (if n + b < n then _ else g1.rt (n + b - n)) = _; rw [if_neg h, e]
  · show (if n + b < n then _ else g1.sz (n + b - n)) = _; rw [if_neg h, e]
theorem shC_R {n m : Nat} {g g1 : Gh} {W : World} {a : AC} {u : Value} (h : AR g1 W m a u) : AR (both n g g1) W (n + m) (shC n a) u := by
  cases a with
  | s v => exact h
  | row l => exact h
  | full l => exact h
  | own r l =>
    obtain ⟨e1, e2, e3⟩ := both_new n g g1 r
    exact ⟨by have := h.1; omega, h.2.1.trans e2.symm, h.2.2.1, by rw [e3]; exact h.2.2.2⟩
  | ptr b off =>
    obtain ⟨e1, e2, e3⟩ := both_new n g g1 b
    exact ⟨by have := h.1; omega, by rw [e1]; exact h.2⟩
  | rptr c => exact h
  | fn f cap =>
    obtain ⟨C, e, hC, hn⟩ := h
    refine ⟨C, e, ?_, fun x hx => ?_⟩
    · rw [hC, List.map_map]
      refine List.map_congr_left fun x hx => ?_
      simp only [Function.comp]
      rw [(both_new n g g1 x.1).1]
    · obtain ⟨y, hy, rfl⟩ := List.mem_map.1 hx
      have := hn y hy
      simp only; omega
theorem shCs_R {n m : Nat} {g g1 : Gh} {W : World} : ∀ {l : List AC} {r : List Value}, ARs g1 W m l r → ARs (both n g g1) W (n + m) (l.map (shC n)) r
  | [], [], _ => trivial
  | a :: l, u :: r, h => ⟨shC_R h.1, shCs_R h.2⟩
  | [], _ :: _, h => h.elim
  | _ :: _, [], h => h.elim
theorem shV_R {n m : Nat} {g g1 : Gh} {W : World} {a : AV} {u : Value} (h : AVR g1 W m a u) : AVR (both n g g1) W (n + m) (shV n a) u := by
  cases a with
  | c a => exact shC_R (AVR.ac h)
  | agg l => obtain ⟨C, e, hC⟩ := h; exact ⟨C, e, shCs_R hC⟩
theorem shVs_R {n m : Nat} {g g1 : Gh} {W : World} : ∀ {l : List AV} {r : List Value}, AVRs g1 W m l r → AVRs (both n g g1) W (n + m) (l.map (shV n)) r
  | [], [], _ => trivial
  | a :: l, u :: r, h => ⟨shV_R h.1, shVs_R h.2⟩
  | [], _ :: _, h => h.elim
  | _ :: _, [], h => h.elim
theorem shS_R {n m : Nat} {g g1 : Gh} {W : World} {a : SV} {u : Value} (h : SVR g1 W m a u) : SVR (both n g g1) W (n + m) (shS n a) u := by
  cases a with
  | any => trivial
  | v a => exact shV_R h
  | tup l => obtain ⟨C, e, hC⟩ := h; exact ⟨C, e, shVs_R hC⟩
theorem get_rights {B : List Nat} {d : Nat} {x : Blk} (h : (B.map Blk.right)[d]? = some x) : ∃ s, x = .right s := by
  rw [List.getElem?_map, Option.map_eq_some_iff] at h
  obtain ⟨s, _, rfl⟩ := h
  exact ⟨s, rfl⟩
theorem Step.lift {g g1 : Gh} {H : Heap} {W W' : World} {B : List Nat} (h : HR g H W) (S : Step g [] W g1 (B.map Blk.right) W' []) : Step g H W (both H.length g g1) (H ++ B.map Blk.right) W' [] := by
  have hfr : ∀ b, b < W.heap.size → W'.heap[b]? = W.heap[b]? := fun b hb => S.fr b hb (by simp)
  have him : ∀ b o, b < W.heap.size → g1.imm b o → g.imm b o := by
    intro b o hb hi
    rcases S.fresh b o hi with hi | hi | ⟨d, hd, _⟩
    · exact hi
    · omega
    · cases hd
  have hx : Ext g W H.length (both H.length g g1) W' (H ++ B.map Blk.right).length := ⟨by simp, fun b hb => (both_old hb).1, fun b hb => (both_old hb).2.1, fun b hb => (both_old hb).2.2, S.ext.keeps⟩
  have hget : ∀ d x, (H ++ B.map Blk.right)[d]? = some x → (d < H.length ∧ H[d]? = some x) ∨ ∃ e, d = H.length + e ∧ (B.map Blk.right)[e]? = some x := by
    intro d x hd
    by_cases hlt : d < H.length
    · rw [List.getElem?_append_left hlt] at hd; exact .inl ⟨hlt, hd⟩
    · rw [List.getElem?_append_right (by omega)] at hd; exact .inr ⟨d - H.length, by omega, hd⟩
  have hro : ∀ d x, d < H.length → roomy (both H.length g g1) d x → roomy g d x := by
    intro d x hd hr
    cases x with
    | cells l => trivial
    | right s => obtain ⟨a, len, cap, e, hl⟩ := hr; exact ⟨a, len, cap, (both_old hd).2.1.symm.trans e, hl⟩
    | gone => exact hr
  have hron : ∀ e x, roomy (both H.length g g1) (H.length + e) x → roomy g1 e x := by
    intro e x hr
    cases x with
    | cells l => trivial
    | right s => obtain ⟨a, len, cap, e', hl⟩ := hr; exact ⟨a, len, cap, (both_new H.length g g1 e).2.1.symm.trans e', hl⟩
    | gone => exact hr
  have hnew : ∀ e x, (B.map Blk.right)[e]? = some x → roomy g1 e x → W.heap.size ≤ g1.blk e := by
    intro e x he hr
    rcases S.new e x (Nat.zero_le _) he hr with hb | ⟨d0, hd0, _⟩
    · exact hb
    · cases hd0
  refine ⟨⟨?_, ?_, ?_, S.hr.imm⟩, hx, S.os, S.tape, S.output, S.size, fun b hb _ => hfr b hb, ?_, ?_, fun d hd _ => List.getElem?_append_left hd, ?_⟩
  · intro b l hb
    rcases hget b _ hb with ⟨hlt, hb⟩ | ⟨e, rfl, hb2⟩
    · obtain ⟨C, e, hw, ha, hi⟩ := h.cells b l hb
      rw [(both_old hlt).1]
      exact ⟨C, e, (hfr _ (lt_of_heap hw)).trans hw, ha.mono hx, fun o ho => hi o (him _ _ (lt_of_heap hw) ho)⟩
    · obtain ⟨s, hs⟩ := get_rights hb2; cases hs
  · intro r s hr
    rcases hget r _ hr with ⟨hlt, hr⟩ | ⟨e, rfl, hr2⟩
    · obtain ⟨e0, a, len, cap, hrt, hl, hc⟩ := h.right r s hr
      rw [(both_old hlt).1, (both_old hlt).2.1, (both_old hlt).2.2]
      refine ⟨e0, a, len, cap, hrt, hl, fun hcap => ?_⟩
      obtain ⟨o, C, e, ha, hw, hs, hi⟩ := hc hcap
      exact ⟨o, C, e, ha, (hfr _ (lt_of_heap hw)).trans hw, hs, fun o' h1 h2 ho => hi o' h1 h2 (him _ _ (lt_of_heap hw) ho)⟩
    · obtain ⟨e1, e2, e3⟩ := both_new H.length g g1 e
      rw [e1, e2, e3]
      exact S.hr.right e s hr2
  · intro b b' x x' hb hb' hne hr hr'
    rcases hget b _ hb with ⟨hlt, hb2⟩ | ⟨e, rfl, hb2⟩
    · rw [(both_old hlt).1]
      rcases hget b' _ hb' with ⟨hlt', hb3⟩ | ⟨e', rfl, hb3⟩
      · rw [(both_old hlt').1]; exact h.apart b b' x x' hb2 hb3 hne (hro _ _ hlt hr) (hro _ _ hlt' hr')
      · rw [(both_new H.length g g1 e').1]
        have h1 := roomy_blk h hb2 (hro _ _ hlt hr)
        have h2 := hnew e' x' hb3 (hron _ _ hr')
        omega
    · rw [(both_new H.length g g1 e).1]
      rcases hget b' _ hb' with ⟨hlt', hb3⟩ | ⟨e', rfl, hb3⟩
      · rw [(both_old hlt').1]
        have h1 := roomy_blk h hb3 (hro _ _ hlt' hr')
        have h2 := hnew e x hb2 (hron _ _ hr)
        omega
      · rw [(both_new H.length g g1 e').1]
        exact S.hr.apart e e' x x' hb2 hb3 (by omega) (hron _ _ hr) (hron _ _ hr')
  · intro d x hd hx' hr
    rcases hget d x hx' with ⟨_, hd'⟩ | ⟨e, rfl, _⟩
    · exact ⟨x, hd', hro d x hd hr⟩
    · omega
  · intro d x hd hx' hr
    rcases hget d x hx' with ⟨hlt, _⟩ | ⟨e, rfl, he⟩
    · omega
    · left; rw [(both_new H.length g g1 e).1]; exact hnew e x he (hron _ _ hr)
  · intro b o hi
    rcases S.fresh b o hi with hi | hi | ⟨d, hd, _⟩
    · exact .inl hi
    · exact .inr (.inl hi)
    · cases hd
abbrev Out := SV × List Nat
/-- What is told of a call in an empty memory: its answer, and the rights to append that it leaves. -/
def Snd (P : Program) (f : Nat) (args : List AV) (o : Out) : Prop :=
  (∃ fn, P.funcs[f]? = some fn ∧ (fn.name == "runtime.NumGoroutine") = false ∧ fn.body.isNone = false) ∧
  ∀ g W (vals : Array Value), HR g [] W → AVRs g W 0 args vals.toList → Calls P f vals W fun e W' => ∃ v g', e = .returned v ∧ Step g [] W g' (o.2.map Blk.right) W' [] ∧ SVR g' W' o.2.length o.1 v
theorem Snd.lift {P : Program} {f : Nat} {args args0 : List AV} {o : Out} (h : Snd P f args o) (hs : stripL args0 = some args) {g : Gh} {H : Heap} {W : World} {vals : Array Value} (hr : HR g H W) (ha : AVRs g W H.length args0 vals.toList) :
    Calls P f vals W fun e W' => ∃ v g', e = .returned v ∧ Step g H W g' (H ++ o.2.map Blk.right) W' [] ∧ SVR g' W' (H ++ o.2.map Blk.right).length (shS H.length o.1) v := by
  have h0 : HR g [] W := ⟨fun b l hb => by simp at hb, fun r s hb => by simp at hb, fun b b' x x' hb => by simp at hb, hr.imm⟩
  refine (h.2 g W vals h0 (stripL_R ha hs)).mono fun e W' hh => ?_
  obtain ⟨v, g1, rfl, S, hv⟩ := hh
  refine ⟨v, _, rfl, Step.lift hr S, ?_⟩
  rw [List.length_append, List.length_map]
  exact shS_R hv
abbrev Spec := Nat → Option (List AV → List (Bool × Out))
section
variable {ρ : Type}
def alts {α : Type} : List (Bool × α) → (α → Option ρ) → Option ρ
  | [], _ => none
  | (b, x) :: r, κ => cond b (κ x) (alts r κ)
theorem alts_nat {α : Type} : ∀ {l : List (Bool × α)} {κ : α → Option ρ} {r : ρ}, alts l κ = some r → ∃ x, alts l some = some x ∧ κ x = some r
  | [], _, _, h => by cases h
  | (b, x) :: l, κ, r, h => by
    simp only [alts] at h ⊢
    rcases cond_some h with ⟨rfl, h⟩ | ⟨rfl, h⟩
    · exact ⟨x, rfl, h⟩
    · exact alts_nat h
def specK (F : List AV → List (Bool × Out)) (args : List AV) (H : Heap) (κ : SV × Heap × List Nat → Option ρ) : Option ρ := match stripL args with
  | some a => alts (F a) fun o => κ (shS H.length o.1, H ++ o.2.map Blk.right, [])
  | none => none
end
def specO (F : List AV → List (Bool × Out)) (args : List AV) (H : Heap) : Option (SV × Heap × List Nat) := match stripL args with
  | some a => (alts (F a) some).map fun o => (shS H.length o.1, H ++ o.2.map Blk.right, [])
  | none => none
def SpecOk (P : Program) (S : Spec) : Prop := ∀ f F, S f = some F → ∀ args o, alts (F args) some = some o → Snd P f args o
/-- A function's body, its calls told by call. -/
def bodyO (P : Program) (T : Tab) (call : CallF) (k : Nat) : CallF := fun f args H => (T.fn f).bind fun fn => fn.body.bind fun c =>
  if args.length ≤ fn.ntmps then
    (evCode P (evDraw P) call (T.drop f) fn.ntmps k c ⟨initEnv 0 args, H, []⟩).bind fun y => match y.1 with
      | .exit _ => none
      | _ => (resultsA P y.2 fn.results.toList).bind fun l => finish H l y.2
  else none
def callO (P : Program) (T : Tab) (S : Spec) : Nat → CallF
  | 0 => fun f args H => match S f with | some F => specO F args H | none => none
  | d + 1 => fun f args H => match S f with | some F => specO F args H | none => bodyO P T (callO P T S d) d f args H
section
variable {ρ : Type}
def endK (P : Program) (fn : Func) (H : Heap) (κ : SV × Heap × List Nat → Option ρ) : KontK ρ := fun y => match y.1 with
  | .exit _ => none
  | _ => match resultsA P y.2 fn.results.toList with
    | some l => match finish H l y.2 with
      | some o => κ o
      | none => none
    | none => none
def bodyK (P : Program) (E : Bool) (T : Tab) (call : CallK ρ) (L : Nat → Option (LoopK ρ)) (k : Nat) (f : Nat) (args : List AV) (H : Heap) (κ : SV × Heap × List Nat → Option ρ) : Option ρ := match T.fn f with
  | some fn => match fn.body with
    | some c => cond (decide (args.length ≤ fn.ntmps)) (evK P E call L (T.drop f) fn.ntmps k c ⟨initEnv 0 args, H, []⟩ (endK P fn H κ)) none
    | none => none
  | none => none
def callK (P : Program) (E : Bool) (T : Tab) (S : Spec) : Nat → CallK ρ
  | 0 => fun f args H κ => match S f with | some F => specK F args H κ | none => none
  | d + 1 => fun f args H κ => match S f with | some F => specK F args H κ | none => bodyK P E T (callK P E T S d) (fun _ => none) d f args H κ
theorem specK_ok {F : List AV → List (Bool × Out)} {args : List AV} {H : Heap} {κ : SV × Heap × List Nat → Option ρ} {r : ρ} (h : specK F args H κ = some r) : ∃ y, specO F args H = some y ∧ κ y = some r := by
  unfold specK at h
  unfold specO
  split at h
  · obtain ⟨x, hx, h⟩ := alts_nat h
    exact ⟨_, by simp only [hx, Option.map_some], h⟩
  · cases h
theorem endK_ok {P : Program} {fn : Func} {H : Heap} {κ : SV × Heap × List Nat → Option ρ} {y : Ex × St} {r : ρ} (h : endK P fn H κ y = some r) : (∀ id, y.1 ≠ .exit id) ∧ ∃ l o, resultsA P y.2 fn.results.toList = some l ∧ finish H l y.2 = some o ∧ κ o = some r := by
  unfold endK at h
  split at h
  · cases h
  · rename_i hne
    refine ⟨hne, ?_⟩
    split at h
    · rename_i l hl
      split at h
      · rename_i o ho; exact ⟨l, o, hl, ho, h⟩
      · cases h
    · cases h
theorem bodyK_ok {P : Program} {E : Bool} {T : Tab} {call : CallF} {callk : CallK ρ} (hc : Refines call callk) {k f : Nat} {args : List AV} {H : Heap} {κ : SV × Heap × List Nat → Option ρ} {r : ρ} (h : bodyK P E T callk (fun _ => none) k f args H κ = some r) :
    ∃ y, bodyO P T call k f args H = some y ∧ κ y = some r := by
  unfold bodyK at h
  unfold bodyO
  split at h
  · rename_i fn hfn
    split at h
    · rename_i c hb
      obtain ⟨h1, h⟩ := cond_none h
      obtain ⟨y, hy, h⟩ := evK_refines hc c _ _ _ h
      obtain ⟨hne, l, o, hl, ho, h⟩ := endK_ok h
      refine ⟨o, ?_, h⟩
      rw [hfn]
      simp only [Option.bind_some, hb, if_pos (of_decide_eq_true h1), hy]
      obtain ⟨ex, st⟩ := y
      cases ex with
      | exit id => exact absurd rfl (hne id)
      | normal => simp only at hl ho ⊢; rw [hl]; simpa using ho
      | ret => simp only at hl ho ⊢; rw [hl]; simpa using ho
    · cases h
  · cases h
theorem callK_refines {P : Program} {E : Bool} {T : Tab} {S : Spec} : ∀ d, Refines (callO P T S d) (callK (ρ := ρ) P E T S d)
  | 0 => by
    intro f args H κ r h
    simp only [callK] at h
    simp only [callO]
    split at h
    · rename_i F hF; (try rw [hF]); exact specK_ok h
    · cases h
  | d + 1 => by
    intro f args H κ r h
    simp only [callK] at h
    simp only [callO]
    split at h
    · rename_i F hF; (try rw [hF]); exact specK_ok h
    · rename_i hF; (try rw [hF]); exact bodyK_ok (callK_refines d) h
end
end Go.Proofs.Ytalnfojlmkebnaa.AI
