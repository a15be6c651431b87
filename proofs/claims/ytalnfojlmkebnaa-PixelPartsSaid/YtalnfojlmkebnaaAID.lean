/- An abstract machine for the program's code, and what it says of the machine's own runs. -/
import Derived.Test.YtalnfojlmkebnaaAIC
namespace Go.Proofs.Ytalnfojlmkebnaa.AI
open Go Go.RowKit
set_option linter.unusedVariables false
set_option linter.unusedSimpArgs false
/-! Regions whose order is open: what only reads comes in whichever order; behind it, each operation stands behind all others. -/
def noIdC : AC → Bool | .own _ _ | .ptr _ _ | .fn _ _ => false | _ => true
def noIdV : AV → Bool | .c a => noIdC a | .agg l => l.all noIdC
def noIdS : SV → Bool | .any => true | .v a => noIdV a | .tup l => l.all noIdV
def evR (P : Program) (call : CallF) (o : Oper) (ρ : Operand → SV) (H : Heap) : Option SV := match o.op with
  | .call c => match c.callee with
    | .builtin b => match b with
      | .append => none
      | b => (evBuiltin P b c o.type ρ H).map (·.1)
    | .value f => match ρ f with
      | .v (.c (.fn fid cap)) => (avsOf ρ c.args.toList).bind fun l => (call fid (l ++ cap.map ptrAV) H).bind fun y => match y.2.2 with
        | [] => if noIdS y.1 then some y.1 else none
        | _ => none
      | _ => none
    | .invoke _ _ => none
  | .alloc _ | .box _ _ | .store _ _ _ => none
  | op => (evSimple P op ρ H).map (·.1)
def evPre (P : Program) (call : CallF) (n : Nat) (ops : Array Oper) (H : Heap) : List Oper → Env → Option Env
  | [], e => some e
  | o :: r, e => match gOk ops e o with
    | none => none
    | some false => (putD n o.dst .any e).bind fun e => evPre P call n ops H r e
    | some true => (evR P call o (evA e) H).bind fun sv => (putD n o.dst sv e).bind fun e => evPre P call n ops H r e
/-- Which operations stand ahead of each, by their bits. -/
def befs : List Oper → List Nat → List Nat
  | [], acc => acc
  | o :: r, acc => befs r (acc ++ [o.after.foldl (fun s e => if Region.binds .any e then s ||| (2 ^ e.on ||| acc.getD e.on 0) else s) 0])
def edgesOk : List Oper → Nat → Bool
  | [], _ => true
  | o :: r, i => (o.after.all fun e => !Region.binds .any e || decide (e.on < i)) && edgesOk r (i + 1)
def namesOf (ops : Array Oper) (o : Oper) : List Nat :=
  (o.op.operands.toList.filterMap fun x => match x with | .tmp t => some t | _ => none) ++ (match o.guard with | some (j, _) => ((ops[j]?).bind (·.dst)).toList | none => [])
def bit (bs : List Nat) (i j : Nat) : Bool := (bs.getD j 0).testBit i
/-- Whoever names what another one writes is ordered against it; nobody writes what another one writes. -/
def slotsOk (ops : Array Oper) (bs : List Nat) : Bool := (List.range ops.size).all fun i => match ops[i]? with
  | none => true
  | some o => match o.dst with
    | none => true
    | some t => (List.range ops.size).all fun j => match ops[j]? with
      | none => true
      | some p => if i = j then true else decide (p.dst ≠ some t) && (!(namesOf ops p).contains t || (if i < j then bit bs i j else bit bs j i))
def isW (o : Oper) : Bool := match o.op with | .store _ _ _ | .alloc _ | .box _ _ => true | .call c => (match c.callee with | .builtin .append => true | _ => false) | _ => false
def cutAt : List Oper → Nat
  | [] => 0
  | o :: r => if isW o then 0 else cutAt r + 1
def seqFrom (bs : List Nat) (m n : Nat) : Bool := (List.range n).all fun j => decide (j < m) || (List.range j).all fun i => bit bs i j
def noSel (ops : Array Oper) : Bool := ops.all fun o => match o.op with | .select _ _ => false | _ => true
def evDraw (P : Program) (call : CallF) (n : Nat) (ops : Array Oper) (st : St) : Option St :=
  let bs := befs ops.toList []
  let m := cutAt ops.toList
  if edgesOk ops.toList 0 = true ∧ slotsOk ops bs = true ∧ seqFrom bs m ops.size = true then
    (evPre P call n ops st.heap (ops.toList.take m) st.env).bind fun e => evOps P call n ops (ops.toList.drop m) { st with env := e }
  else none
theorem evSimple_same {P : Program} {op : Op} {ρ : Operand → SV} {H H' : Heap} {sv : SV} {D : List Nat} (h : evSimple P op ρ H = some (sv, H', D)) (h1 : ∀ t, op ≠ .alloc t) (h2 : ∀ t x, op ≠ .box t x) (h3 : ∀ t x y, op ≠ .store t x y) : H' = H ∧ D = [] := by
  unfold evSimple at h
  split at h
  case h_4 => exact absurd rfl (h1 _)
  case h_5 => exact absurd rfl (h2 _ _)
  case h_9 => exact absurd rfl (h3 _ _ _)
  all_goals
    first
    | (cases h <;> exact ⟨rfl, rfl⟩)
    | (simp only [Option.map_eq_some_iff, Option.bind_eq_some_iff] at h
       first
       | (obtain ⟨_, _, _, _, e⟩ := h; cases e; exact ⟨rfl, rfl⟩)
       | (obtain ⟨_, _, e⟩ := h; cases e; exact ⟨rfl, rfl⟩)
       | (obtain ⟨_, _, _, _, _, _, e⟩ := h; cases e; exact ⟨rfl, rfl⟩))
    | (split at h
       all_goals
         first
         | (cases h <;> exact ⟨rfl, rfl⟩)
         | (simp only [Option.map_eq_some_iff, Option.bind_eq_some_iff] at h
            first
            | (obtain ⟨_, _, _, _, e⟩ := h; cases e; exact ⟨rfl, rfl⟩)
            | (obtain ⟨_, _, e⟩ := h; cases e; exact ⟨rfl, rfl⟩))
         | (split at h
            all_goals
              first
              | (cases h <;> exact ⟨rfl, rfl⟩)
              | (simp only [Option.map_eq_some_iff, Option.bind_eq_some_iff] at h
                 obtain ⟨_, _, e⟩ := h; cases e; exact ⟨rfl, rfl⟩)))
theorem evBuiltin_same {P : Program} {b : Builtin} {c : Call} {ty : TypeId} {ρ : Operand → SV} {H H' : Heap} {sv : SV} {D : List Nat} (h : evBuiltin P b c ty ρ H = some (sv, H', D)) (hb : b ≠ .append) : H' = H ∧ D = [] := by
  unfold evBuiltin at h
  split at h
  · split at h
    · simp only [Option.map_eq_some_iff] at h
      obtain ⟨_, _, e⟩ := h; cases e; exact ⟨rfl, rfl⟩
    · split at h
      · exact absurd rfl hb
      · cases h
  · split at h
    · exact absurd rfl hb
    · split at h
      · split at h
        · simp only [Option.map_eq_some_iff] at h
          obtain ⟨_, _, e⟩ := h; cases e; exact ⟨rfl, rfl⟩
        · cases h
      · cases h
    · cases h
theorem noIdC_R {g : Gh} {W : World} {n m : Nat} {a : AC} {u : Value} (h : AR g W n a u) (hn : noIdC a = true) : AR g W m a u := by cases a <;> first | exact h | cases hn
theorem noIdV_R {g : Gh} {W : World} {n m : Nat} {a : AV} {u : Value} (h : AVR g W n a u) (hn : noIdV a = true) : AVR g W m a u := by
  cases a with
  | c a => exact noIdC_R (AVR.ac h) hn
  | agg l =>
    obtain ⟨C, e, hC⟩ := h
    refine ⟨C, e, ?_⟩
    have key : ∀ (l : List AC) (r : List Value), ARs g W n l r → l.all noIdC = true → ARs g W m l r := by
      intro l
      induction l with
      | nil => intro r h _; cases r <;> exact h
      | cons a l ih =>
        intro r h hn
        cases r with
        | nil => exact h
        | cons u r =>
          rw [List.all_cons, Bool.and_eq_true] at hn
          exact ⟨noIdC_R h.1 hn.1, ih r h.2 hn.2⟩
    exact key _ _ hC hn
theorem noIdS_R {g : Gh} {W : World} {n m : Nat} {a : SV} {u : Value} (h : SVR g W n a u) (hn : noIdS a = true) : SVR g W m a u := by
  cases a with
  | any => trivial
  | v a => exact noIdV_R h hn
  | tup l =>
    obtain ⟨C, e, hC⟩ := h
    refine ⟨C, e, ?_⟩
    have key : ∀ (l : List AV) (r : List Value), AVRs g W n l r → l.all noIdV = true → AVRs g W m l r := by
      intro l
      induction l with
      | nil => intro r h _; cases r <;> exact h
      | cons a l ih =>
        intro r h hn
        cases r with
        | nil => exact h
        | cons u r =>
          rw [List.all_cons, Bool.and_eq_true] at hn
          exact ⟨noIdV_R h.1 hn.1, ih r h.2 hn.2⟩
    exact key _ _ hC hn
/-- What is made is forgotten, of a step that changes nothing of what was there. -/
theorem Step.forget {g g' : Gh} {H H' : Heap} {W W' : World} (hr : HR g H W) (S : Step g H W g' H' W' []) : Step g H W g' H W' [] := by
  have hc : ∀ d, d < H.length → H'[d]? = H[d]? := fun d hd => S.clean d hd (by simp)
  refine ⟨HR.forget hr S.hr hc, ⟨Nat.le_refl _, S.ext.blk, S.ext.rt, S.ext.sz, S.ext.keeps⟩, S.os, S.tape, S.output, S.size, S.fr, fun d x hd hx hro => S.old d x hd ((hc d hd).trans hx) hro, fun d x hd hx _ => ?_, fun d _ _ => rfl, S.fresh⟩
  rw [List.getElem?_eq_none hd] at hx; cases hx
theorem evR_ok {P : Program} {call : CallF} (hc : Sound P call) {o : Oper} {a : Act} {g : Gh} {H : Heap} {W : World} (h : HR g H W) {ρ : Operand → SV} (hρ : ∀ x ∈ o.op.operands, SVR g W H.length (ρ x) (a.eval x)) {sv : SV}
    (he : evR P call o ρ H = some sv) {next : Act → World → Prop} {Q : Exit → Act → World → Prop} (hn : ∀ v W' g', Step g H W g' H W' [] → SVR g' W' H.length sv v → next (a.put o.dst v) W') : o.wp P a W next Q := by
  have key : ∀ (H' : Heap) (D : List Nat), evOp P call o ρ H = some (sv, H', D) → (H' = H ∧ D = []) ∨ (D = [] ∧ noIdS sv = true) → o.wp P a W next Q := by
    intro H' D ho hd
    refine op_ok hc h hρ ho fun v W' g' hs hv => ?_
    rcases hd with ⟨rfl, rfl⟩ | ⟨rfl, hno⟩
    · exact hn v W' g' hs hv
    · exact hn v W' g' (Step.forget h hs) (noIdS_R hv hno)
  unfold evR at he
  unfold evOp at key
  split at he
  · rename_i c hop
    simp only [hop] at key
    split at he
    · rename_i b hcal
      simp only [hcal] at key
      split at he
      · cases he
      · rename_i hb
        simp only [Option.map_eq_some_iff] at he
        obtain ⟨⟨sv', H', D⟩, h1, rfl⟩ := he
        exact key H' D h1 (.inl (evBuiltin_same h1 (fun e => hb e)))
    · rename_i f hcal
      simp only [hcal] at key
      split at he
      · rename_i fid cap hf
        simp only [hf] at key
        cases hl : avsOf ρ c.args.toList with
        | none => rw [hl] at he; cases he
        | some l =>
          rw [hl] at he key
          simp only [Option.bind_some] at he key
          cases hcl : call fid (l ++ cap.map ptrAV) H with
          | none => rw [hcl] at he; cases he
          | some y =>
            obtain ⟨sv', H', D⟩ := y
            rw [hcl] at he
            simp only [Option.bind_some] at he
            cases D with
            | cons d D => cases he
            | nil =>
              simp only at he
              split at he
              · rename_i hno
                cases he
                exact key H' [] hcl (.inr ⟨rfl, hno⟩)
              · cases he
      · cases he
    · cases he
  · cases he
  · cases he
  · cases he
  · rename_i h0 h1 h2 h3
    simp only [Option.map_eq_some_iff] at he
    obtain ⟨⟨sv', H', D⟩, hs, rfl⟩ := he
    have hd := evSimple_same hs (fun t e => h1 t e) (fun t x e => h2 t x e) (fun t x y e => h3 t x y e)
    refine key H' D ?_ (.inl hd)
    split
    · rename_i c hop; exact absurd hop (h0 c)
    · exact hs
/-! Orders. -/
def Closed (ops : Array Oper) (L : Nat → Prop) : Prop := ∀ j o, ops[j]? = some o → L j → ∀ e ∈ o.after, Region.binds .any e = true → L e.on
theorem befs_pre : ∀ (l : List Oper) (acc : List Nat) (i : Nat), i < acc.length → (befs l acc).getD i 0 = acc.getD i 0
  | [], acc, i, h => rfl
  | o :: r, acc, i, h => by
    unfold befs
    rw [befs_pre r _ i (by simp; omega)]
    simp only [List.getD_eq_getElem?_getD]
    rw [List.getElem?_append_left h]
theorem befs_at : ∀ (l : List Oper) (acc : List Nat) (i : Nat) (o : Oper), l[i]? = some o → ∃ acc' : List Nat, acc'.length = acc.length + i ∧ (∀ k, k < acc'.length → acc'.getD k 0 = (befs l acc).getD k 0) ∧
    (befs l acc).getD (acc.length + i) 0 = o.after.foldl (fun s e => if Region.binds .any e then s ||| (2 ^ e.on ||| acc'.getD e.on 0) else s) 0
  | [], acc, i, o, h => by simp at h
  | o' :: r, acc, 0, o, h => by
    simp at h
    subst h
    refine ⟨acc, by simp, fun k hk => (befs_pre _ acc k hk).symm, ?_⟩
    unfold befs
    rw [Nat.add_zero, befs_pre r _ acc.length (by simp)]
    simp only [List.getD_eq_getElem?_getD]
    rw [List.getElem?_append_right (Nat.le_refl _)]
    simp
  | o' :: r, acc, i + 1, o, h => by
    simp at h
    unfold befs
    obtain ⟨acc', h1, h2, h3⟩ := befs_at r (acc ++ [o'.after.foldl (fun s e => if Region.binds .any e then s ||| (2 ^ e.on ||| acc.getD e.on 0) else s) 0]) i o h
    refine ⟨acc', by rw [h1]; simp; omega, h2, ?_⟩
    rw [← h3]
    congr 1
    simp; omega
theorem bit_two {n i : Nat} (h : (2 ^ n).testBit i = true) : n = i := by
  rw [Nat.testBit_two_pow] at h
  simpa using h
theorem fold_bit (f : Nat → Nat) (i : Nat) : ∀ (l : List Edge) (s : Nat), (l.foldl (fun s e => if Region.binds .any e then s ||| (2 ^ e.on ||| f e.on) else s) s).testBit i = true → s.testBit i = true ∨ ∃ e ∈ l, Region.binds .any e = true ∧ (e.on = i ∨ (f e.on).testBit i = true)
  | [], s, h => .inl h
  | e :: l, s, h => by
    rw [List.foldl_cons] at h
    rcases fold_bit f i l _ h with h | ⟨e', he', h⟩
    · split at h
      · rename_i hb
        rw [Nat.testBit_or, Nat.testBit_or, Bool.or_eq_true, Bool.or_eq_true] at h
        rcases h with h | h | h
        · exact .inl h
        · exact .inr ⟨e, by simp, hb, .inl (bit_two h)⟩
        · exact .inr ⟨e, by simp, hb, .inr h⟩
      · exact .inl h
    · exact .inr ⟨e', List.mem_cons_of_mem _ he', h⟩
theorem edges_lt : ∀ (l : List Oper) (k : Nat), edgesOk l k = true → ∀ (i : Nat) (o : Oper), l[i]? = some o → ∀ e ∈ o.after, Region.binds .any e = true → e.on < k + i
  | [], k, h, i, o, ho, e, he, hb => by simp at ho
  | o' :: r, k, h, 0, o, ho, e, he, hb => by
    simp at ho; subst ho
    unfold edgesOk at h
    rw [Bool.and_eq_true] at h
    have := (Array.all_eq_true_iff_forall_mem.1 h.1) e he
    rw [hb] at this
    simpa using this
  | o' :: r, k, h, i + 1, o, ho, e, he, hb => by
    simp at ho
    unfold edgesOk at h
    rw [Bool.and_eq_true] at h
    have := edges_lt r (k + 1) h.2 i o ho e he hb
    omega
/-- An operation that stands ahead of one whose forerunners have come has come. -/
theorem bit_pre {ops : Array Oper} (he : edgesOk ops.toList 0 = true) {L : Nat → Prop} (hL : Closed ops L) : ∀ (j i : Nat) (o : Oper), ops[j]? = some o → bit (befs ops.toList []) i j = true → (∀ e ∈ o.after, Region.binds .any e = true → L e.on) → L i := by
  intro j
  induction j using Nat.strongRecOn with
  | _ j ih =>
    intro i o ho hb hpre
    have ho' : ops.toList[j]? = some o := by simpa using ho
    obtain ⟨acc, h1, h2, h3⟩ := befs_at ops.toList [] j o ho'
    simp only [List.length_nil, Nat.zero_add] at h1 h3
    unfold bit at hb
    rw [h3, ← Array.foldl_toList] at hb
    rcases fold_bit (fun k => acc.getD k 0) i _ _ hb with h | ⟨e, hem, hbe, h⟩
    · simp at h
    · have hem' : e ∈ o.after := by simpa using hem
      have hlt := edges_lt _ 0 he j o ho' e hem' hbe
      rw [Nat.zero_add] at hlt
      have hLe := hpre e hem' hbe
      rcases h with rfl | h
      · exact hLe
      · have hsz : e.on < ops.size := by have := lt_of_get ho'; rw [Array.length_toList] at this; omega
        refine ih e.on hlt i ops[e.on] (Array.getElem?_eq_getElem hsz) ?_ (fun e' he' hb' => hL e.on _ (Array.getElem?_eq_getElem hsz) hLe e' he' hb')
        unfold bit
        rw [← h2 e.on (by rw [h1]; exact hlt)]
        exact h
theorem slots_spec {ops : Array Oper} {bs : List Nat} (h : slotsOk ops bs = true) {i j t : Nat} {o p : Oper} (hi : ops[i]? = some o) (hj : ops[j]? = some p) (ht : o.dst = some t) (hne : i ≠ j) :
    p.dst ≠ some t ∧ (t ∈ namesOf ops p → (i < j → bit bs i j = true) ∧ (j < i → bit bs j i = true)) := by
  have hi' := (Array.getElem?_eq_some_iff.1 hi).1
  have hj' := (Array.getElem?_eq_some_iff.1 hj).1
  unfold slotsOk at h
  have h1 := List.all_eq_true.1 h i (List.mem_range.2 hi')
  simp only [hi, ht] at h1
  have h2 := List.all_eq_true.1 h1 j (List.mem_range.2 hj')
  simp only [hj, if_neg hne, Bool.and_eq_true, decide_eq_true_eq, Bool.or_eq_true, Bool.not_eq_true'] at h2
  refine ⟨h2.1, fun hm => ?_⟩
  have hc : (namesOf ops p).contains t = true := by simpa using hm
  have h3 := h2.2.resolve_left (by rw [hc]; simp)
  constructor
  · intro hlt; rwa [if_pos hlt] at h3
  · intro hlt; rwa [if_neg (by omega)] at h3
theorem seq_spec {bs : List Nat} {m n i j : Nat} (h : seqFrom bs m n = true) (hj : j < n) (hm : m ≤ j) (hi : i < j) : bit bs i j = true := by
  unfold seqFrom at h
  have h1 := List.all_eq_true.1 h j (List.mem_range.2 hj)
  rw [Bool.or_eq_true] at h1
  rcases h1 with h1 | h1
  · simp at h1; omega
  · exact List.all_eq_true.1 h1 i (List.mem_range.2 hi)
theorem evPre_append {P : Program} {call : CallF} {n : Nat} {ops : Array Oper} {H : Heap} : ∀ (l r : List Oper) (e : Env), evPre P call n ops H (l ++ r) e = (evPre P call n ops H l e).bind (evPre P call n ops H r)
  | [], r, e => rfl
  | o :: l, r, e => by
    rw [List.cons_append]
    conv => lhs; unfold evPre
    conv => rhs; unfold evPre
    split
    · rfl
    · cases putD n o.dst .any e with
      | none => rfl
      | some e' => simp only [Option.bind_some]; exact evPre_append l r e'
    · cases evR P call o (evA e) H with
      | none => rfl
      | some sv =>
        simp only [Option.bind_some]
        cases putD n o.dst sv e with
        | none => rfl
        | some e' => simp only [Option.bind_some]; exact evPre_append l r e'
theorem putD_get {n : Nat} {d : Option Nat} {sv : SV} {e e' : Env} (h : putD n d sv e = some e') (t : Nat) : e'.get t = if d = some t then sv else e.get t := by
  unfold putD at h
  split at h
  · cases h; rw [if_neg (by simp)]
  · rename_i u
    split at h
    · cases h; rw [get_put]; simp
    · cases h
theorem evPre_get {P : Program} {call : CallF} {n : Nat} {ops : Array Oper} {H : Heap} : ∀ (l : List Oper) (e e' : Env), evPre P call n ops H l e = some e' → ∀ t, (∀ o ∈ l, o.dst ≠ some t) → e'.get t = e.get t
  | [], e, e', h, t, _ => by simp only [evPre] at h; cases h; rfl
  | o :: l, e, e', h, t, hd => by
    have h0 := hd o (by simp)
    have hl := fun o ho => hd o (List.mem_cons_of_mem _ ho)
    unfold evPre at h
    split at h
    · cases h
    · cases hp : putD n o.dst .any e with
      | none => rw [hp] at h; cases h
      | some e1 =>
        rw [hp] at h
        rw [evPre_get l e1 e' h t hl, putD_get hp, if_neg h0]
    · cases hr : evR P call o (evA e) H with
      | none => rw [hr] at h; cases h
      | some sv =>
        rw [hr] at h
        simp only [Option.bind_some] at h
        cases hp : putD n o.dst sv e with
        | none => rw [hp] at h; cases h
        | some e1 =>
          rw [hp] at h
          rw [evPre_get l e1 e' h t hl, putD_get hp, if_neg h0]
/-- What a slot holds while some operations have come: w, of those that have come; else what it held. -/
def SlotsR (g : Gh) (W : World) (k : Nat) (ops : Array Oper) (m : Nat) (L : Nat → Prop) (e0 E : Env) (tmps : Array Value) : Prop :=
  ∀ t, ((∃ i o, i < m ∧ ops[i]? = some o ∧ o.dst = some t ∧ L i) → SVR g W k (E.get t) (tmps.getD t undef)) ∧ ((¬ ∃ i o, i < m ∧ ops[i]? = some o ∧ o.dst = some t ∧ L i) → SVR g W k (e0.get t) (tmps.getD t undef))
theorem evOps_step {P : Program} {call : CallF} (hc : Sound P call) {n : Nat} {ops : Array Oper} {g0 : Gh} {H0 : Heap} {W0 : World} {o : Oper} {r : List Oper} {st st' : St} {j : Nat} (hj : ops[j]? = some o) (he : evOps P call n ops (o :: r) st = some st') {a : Act} {W : World} (hr : Rel g0 H0 W0 n st a W)
    {K : Act → World → Prop} {Q : Exit → Act → World → Prop} (hK : ∀ st1 a' W', evOps P call n ops r st1 = some st' → Rel g0 H0 W0 n st1 a' W' → K a' W') : wpOp P ops Q j K a W := by
  unfold wpOp
  simp only [hj]
  obtain ⟨g, hs, her, hn, hd⟩ := id hr
  unfold evOps at he
  split at he
  · cases he
  · rename_i hg
    rw [wanted_of her hg]
    simp only [Bool.false_eq_true, if_false]
    cases hp : putD n o.dst .any st.env with
    | none => rw [hp] at he; cases he
    | some e =>
      rw [hp] at he
      simp only [Option.bind_some] at he
      have hR := putD_rel hr hp (g := g) (H' := st.heap) (W' := W) (D := []) (v := undef) (fun g hs _ => ⟨g, Step.refl hs.hr, trivial⟩)
      rw [List.append_nil] at hR
      exact hK _ _ _ he hR
  · rename_i hg
    rw [wanted_of her hg]
    simp only [if_true]
    cases ho : evOp P call o (evA st.env) st.heap with
    | none => rw [ho] at he; cases he
    | some y =>
      obtain ⟨sv, H', D⟩ := y
      rw [ho] at he
      simp only [Option.bind_some] at he
      cases hp : putD n o.dst sv st.env with
      | none => rw [hp] at he; cases he
      | some e =>
        rw [hp] at he
        simp only [Option.bind_some] at he
        left
        refine op_ok hc hs.hr (fun x _ => evA_R her x) ho fun v W' g' hs' hv => ?_
        refine hK _ _ _ he ?_
        unfold putD at hp
        split at hp
        · rename_i hdst
          cases hp
          rw [hdst]
          exact ⟨g', hs.trans hs', her.mono hs'.ext, hn, hd⟩
        · rename_i t hdst
          split at hp
          · rename_i ht
            cases hp
            rw [hdst]
            exact ⟨g', hs.trans hs', (her.mono hs'.ext).put (by rw [hn]; exact ht) hv, by simp [Act.put, hn], hd⟩
          · cases hp
theorem setL {listed : Array Bool} {i : Nat} (hi : i < listed.size) (k : Nat) : (listed.setIfInBounds i true).getD k false = (decide (k = i) || listed.getD k false) := by
  by_cases h : k = i
  · subst h; simp [hi]
  · rw [getD_set_ne false (fun e => h e.symm)]; simp [h]
theorem getD_tf {listed : Array Bool} {i : Nat} (hi : i < listed.size) : listed.getD i true = listed.getD i false := by simp [hi]
theorem seq_any {P : Program} {call : CallF} (hc : Sound P call) {n : Nat} {ops : Array Oper} {g0 : Gh} {H0 : Heap} {W0 : World} {st' : St}
    (hed : edgesOk ops.toList 0 = true) {m : Nat} (hsq : seqFrom (befs ops.toList []) m ops.size = true) :
    ∀ (fuel : Nat) (listed : Array Bool) (j : Nat) (st : St) (a : Act) (W : World), listed.size = ops.size → m ≤ j → j + fuel = ops.size → (∀ i, i < ops.size → listed.getD i false = decide (i < j)) → evOps P call n ops (ops.toList.drop j) st = some st' → Rel g0 H0 W0 n st a W →
      wpAny P .any ops (fun e a' W' => e = .normal ∧ Rel g0 H0 W0 n st' a' W') fuel listed a W := by
  intro fuel
  induction fuel with
  | zero =>
    intro listed j st a W hls hmj hjf hli he hr
    have hj : j = ops.size := by omega
    rw [List.drop_eq_nil_of_le (by rw [Array.length_toList]; omega)] at he
    simp only [evOps] at he
    cases he
    refine ⟨?_, rfl, hr⟩
    rw [List.eq_nil_iff_forall_not_mem]
    intro i hi
    obtain ⟨h0, o, ho, _⟩ := mem_ready.1 hi
    have hlt := (Array.getElem?_eq_some_iff.1 ho).1
    rw [getD_tf (by omega), hli i hlt] at h0
    simp at h0; omega
  | succ fuel ih =>
    intro listed j st a W hls hmj hjf hli he hr
    have hjl : j < ops.size := by omega
    have hoj : ops[j]? = some ops[j] := Array.getElem?_eq_getElem hjl
    have hdrop : ops.toList.drop j = ops[j] :: ops.toList.drop (j + 1) := by
      rw [List.drop_eq_getElem_cons (by rw [Array.length_toList]; exact hjl)]; simp
    have hcl : Closed ops (fun i => listed.getD i false = true) := by
      intro k o hk hL e hem hb
      have hkl := (Array.getElem?_eq_some_iff.1 hk).1
      have := edges_lt _ 0 hed k o (by simpa using hk) e hem hb
      rw [hli k hkl] at hL
      rw [hli e.on (by omega)]
      simp at hL ⊢; omega
    constructor
    · intro hnil
      exfalso
      have : j ∈ Region.ready .any ops listed := by
        refine mem_ready.2 ⟨by rw [getD_tf (by omega), hli j hjl]; simp, _, hoj, fun e hem hb => ?_⟩
        have := edges_lt _ 0 hed j ops[j] (by simp) e hem hb
        rw [hli e.on (by omega)]; simp; omega
      rw [hnil] at this
      cases this
    · intro i hi
      obtain ⟨h0, o, ho, hpre⟩ := mem_ready.1 hi
      have hil := (Array.getElem?_eq_some_iff.1 ho).1
      rw [getD_tf (by omega), hli i hil] at h0
      have hij : j ≤ i := by simpa using h0
      have : i = j := by
        rcases Nat.lt_or_ge j i with hlt | hge
        · exfalso
          have hb := seq_spec hsq hil (by omega) hlt
          have := bit_pre hed hcl i j o ho hb hpre
          rw [hli j hjl] at this
          simp at this
        · omega
      subst this
      rw [hoj] at ho
      rw [hdrop] at he
      refine evOps_step hc hoj he hr fun st1 a' W' he' hr' => ?_
      refine ih _ (i + 1) st1 a' W' (by simp [hls]) (by omega) (by omega) (fun k hk => ?_) he' hr'
      rw [setL (by omega), hli k hk]
      by_cases h1 : k = i
      · subst h1; simp
      · simp only [h1, decide_false, Bool.false_or]
        have : (k < i) ↔ (k < i + 1) := by omega
        simp [this]
theorem SlotsR.done {g : Gh} {W : World} {k : Nat} {ops : Array Oper} {m : Nat} {L : Nat → Prop} {e0 E : Env} {tmps : Array Value} (h : SlotsR g W k ops m L e0 E tmps) (hL : ∀ i, i < m → L i) (hE : ∀ t, (¬ ∃ i o, i < m ∧ ops[i]? = some o ∧ o.dst = some t) → E.get t = e0.get t) : ER g W k E tmps := by
  intro t
  by_cases hw : ∃ i o, i < m ∧ ops[i]? = some o ∧ o.dst = some t
  · obtain ⟨i, o, h1, h2, h3⟩ := hw
    exact (h t).1 ⟨i, o, h1, h2, h3, hL i h1⟩
  · rw [hE t hw]
    exact (h t).2 (fun ⟨i, o, h1, h2, h3, _⟩ => hw ⟨i, o, h1, h2, h3⟩)
theorem follows_any {P : Program} {call : CallF} (hc : Sound P call) {n : Nat} {ops : Array Oper} {g0 : Gh} {H0 : Heap} {W0 : World} {st st' : St} {E : Env}
    (hed : edgesOk ops.toList 0 = true) (hsl : slotsOk ops (befs ops.toList []) = true) {m : Nat} (hm : m ≤ ops.size) (hsq : seqFrom (befs ops.toList []) m ops.size = true)
    (hE : evPre P call n ops st.heap (ops.toList.take m) st.env = some E) (hrest : evOps P call n ops (ops.toList.drop m) { st with env := E } = some st') :
    ∀ (fuel : Nat) (listed : Array Bool) (a : Act) (W : World), listed.size = ops.size → Closed ops (fun i => listed.getD i false = true) → (∀ i, m ≤ i → listed.getD i false = false) → ((List.range ops.size).filter fun i => !listed.getD i false).length = fuel →
      (∃ g, Step g0 H0 W0 g st.heap W st.dirty ∧ SlotsR g W st.heap.length ops m (fun i => listed.getD i false = true) st.env E a.tmps ∧ a.tmps.size = n ∧ a.defers = []) →
      wpAny P .any ops (fun e a' W' => e = .normal ∧ Rel g0 H0 W0 n st' a' W') fuel listed a W := by
  have hEout : ∀ t, (¬ ∃ i o, i < m ∧ ops[i]? = some o ∧ o.dst = some t) → E.get t = st.env.get t := by
    intro t ht
    refine evPre_get _ _ _ hE t fun o ho hd => ?_
    obtain ⟨i, hi⟩ := List.getElem?_of_mem ho
    have hlt := lt_of_get hi
    rw [List.length_take] at hlt
    rw [List.getElem?_take_of_lt (by omega)] at hi
    exact ht ⟨i, o, by omega, by simpa using hi, hd⟩
  have hdone : ∀ (listed : Array Bool) (a : Act) (W : World), (∀ i, i < m → listed.getD i false = true) →
      (∃ g, Step g0 H0 W0 g st.heap W st.dirty ∧ SlotsR g W st.heap.length ops m (fun i => listed.getD i false = true) st.env E a.tmps ∧ a.tmps.size = n ∧ a.defers = []) → Rel g0 H0 W0 n { st with env := E } a W := by
    intro listed a W hall ⟨g, hs, hsl, hn, hd⟩
    exact ⟨g, hs, hsl.done hall hEout, hn, hd⟩
  intro fuel
  induction fuel with
  | zero =>
    intro listed a W hls hcl hout hcount hst
    have hall : ∀ i, i < ops.size → listed.getD i false = true := by
      intro i hi
      cases hb : listed.getD i false with
      | true => rfl
      | false =>
        exfalso
        have : i ∈ (List.range ops.size).filter fun i => !listed.getD i false := List.mem_filter.2 ⟨List.mem_range.2 hi, by rw [hb]; rfl⟩
        rw [List.length_eq_zero_iff.1 hcount] at this
        cases this
    have hms : m = ops.size := by
      rcases Nat.lt_or_ge m ops.size with hlt | hge
      · have := hall m hlt; rw [hout m (Nat.le_refl _)] at this; cases this
      · omega
    exact seq_any hc hed hsq 0 listed m _ a W hls (Nat.le_refl _) (by omega) (fun i hi => by rw [hall i hi]; simp; omega) hrest (hdone listed a W (fun i hi => hall i (by omega)) hst)
  | succ fuel ih =>
    intro listed a W hls hcl hout hcount hst
    by_cases hpre : ∀ i, i < m → listed.getD i false = true
    · -- all that only reads has come
      have hli : ∀ i, i < ops.size → listed.getD i false = decide (i < m) := by
        intro i _
        by_cases h : i < m
        · rw [hpre i h]; simp [h]
        · rw [hout i (by omega)]; simp [h]
      have hlen : m + (fuel + 1) = ops.size := by
        have h1 : (List.range ops.size).filter (fun i => !listed.getD i false) = (List.range ops.size).drop m := by
          have : (List.range ops.size).filter (fun i => !listed.getD i false) = (List.range ops.size).filter (fun i => !decide (i < m)) := List.filter_congr fun i hi => by rw [hli i (List.mem_range.1 hi)]
          rw [this]
          conv => lhs; rw [← List.take_append_drop m (List.range ops.size)]
          rw [List.filter_append, List.filter_eq_nil_iff.2, List.nil_append, List.filter_eq_self.2]
          · intro i hi
            obtain ⟨k, hk⟩ := List.getElem?_of_mem hi
            rw [List.getElem?_drop] at hk
            have hlt := lt_of_get hk
            rw [List.length_range] at hlt
            rw [List.getElem?_range hlt] at hk
            cases hk
            simp
          · intro i hi
            obtain ⟨k, hk⟩ := List.getElem?_of_mem hi
            have hlt := lt_of_get hk
            rw [List.length_take, List.length_range] at hlt
            rw [List.getElem?_take_of_lt (by omega), List.getElem?_range (by omega)] at hk
            cases hk
            simp; omega
        rw [h1, List.length_drop, List.length_range] at hcount
        omega
      exact seq_any hc hed hsq (fuel + 1) listed m _ a W hls (Nat.le_refl _) hlen hli hrest (hdone listed a W hpre hst)
    · constructor
      · intro hnil
        exfalso
        have hex : ∃ i, i < m ∧ listed.getD i false = false := by
          apply Classical.byContradiction
          intro hno
          refine hpre fun i hi => ?_
          cases hb : listed.getD i false with
          | true => rfl
          | false => exact absurd ⟨i, hi, hb⟩ hno
        obtain ⟨i, hi, hmin⟩ : ∃ i, (i < m ∧ listed.getD i false = false) ∧ ∀ k, k < i → ¬ (k < m ∧ listed.getD k false = false) := by
          obtain ⟨i, hi⟩ := hex
          induction i using Nat.strongRecOn with
          | _ i ihs =>
            by_cases hk : ∃ k, k < i ∧ (k < m ∧ listed.getD k false = false)
            · obtain ⟨k, hk1, hk2⟩ := hk; exact ihs k hk1 hk2
            · exact ⟨i, hi, fun k hk1 hk2 => hk ⟨k, hk1, hk2⟩⟩
        have hil : i < ops.size := by omega
        have hoi : ops[i]? = some ops[i] := Array.getElem?_eq_getElem hil
        have : i ∈ Region.ready .any ops listed := by
          refine mem_ready.2 ⟨by rw [getD_tf (by omega)]; exact hi.2, _, hoi, fun e hem hb => ?_⟩
          have hlt := edges_lt _ 0 hed i ops[i] (by simp) e hem hb
          have := hmin e.on (by omega)
          cases hv : listed.getD e.on false with
          | true => rfl
          | false => exact absurd ⟨by omega, hv⟩ this
        rw [hnil] at this
        cases this
      · intro i hi
        obtain ⟨h0, o, ho, hpr⟩ := mem_ready.1 hi
        have hil := (Array.getElem?_eq_some_iff.1 ho).1
        rw [getD_tf (by omega)] at h0
        by_cases him : i < m
        · -- one that only reads
          obtain ⟨g, hs, hsr, hn, hd⟩ := hst
          have ho' : ops.toList[i]? = some o := by simpa using ho
          have hsplit : ops.toList.take m = ops.toList.take i ++ (o :: (ops.toList.drop (i + 1)).take (m - (i + 1))) := by
            apply List.ext_getElem?
            intro k
            by_cases hk : k < i
            · rw [List.getElem?_append_left (by rw [List.length_take, Array.length_toList]; omega), List.getElem?_take_of_lt hk, List.getElem?_take_of_lt (by omega)]
            · rw [List.getElem?_append_right (by rw [List.length_take, Array.length_toList]; omega), List.length_take, Array.length_toList, Nat.min_eq_left (by omega)]
              by_cases hk2 : k = i
              · subst hk2; rw [List.getElem?_take_of_lt him, ho']; simp
              · obtain ⟨q, rfl⟩ : ∃ q, k = i + 1 + q := ⟨k - (i + 1), by omega⟩
                rw [show i + 1 + q - i = q + 1 by omega, List.getElem?_cons_succ]
                by_cases hq : q < m - (i + 1)
                · rw [List.getElem?_take_of_lt hq, List.getElem?_drop, List.getElem?_take_of_lt (by omega)]
                · rw [List.getElem?_eq_none (by rw [List.length_take]; omega), List.getElem?_eq_none (by rw [List.length_take]; omega)]
          rw [hsplit, evPre_append] at hE
          cases h1 : evPre P call n ops st.heap (ops.toList.take i) st.env with
          | none => rw [h1] at hE; cases hE
          | some ei =>
            rw [h1] at hE
            simp only [Option.bind_some] at hE
            -- a slot that this operation names
            have hname : ∀ t, t ∈ namesOf ops o → SVR g W st.heap.length (ei.get t) (a.tmps.getD t undef) := by
              intro t ht
              by_cases hw : ∃ j p, j < m ∧ ops[j]? = some p ∧ p.dst = some t
              · obtain ⟨j, p, hjm, hj, hpd⟩ := hw
                have huniq : ∀ k q, ops[k]? = some q → q.dst = some t → k = j := by
                  intro k q hk hq
                  apply Classical.byContradiction
                  intro hne
                  exact (slots_spec hsl hj hk hpd (fun e => hne e.symm)).1 hq
                rcases Nat.lt_trichotomy j i with hlt | rfl | hgt
                · -- written ahead of it
                  have hord := ((slots_spec hsl hj ho hpd (by omega)).2 ht).1 hlt
                  have hjL := bit_pre hed hcl i j o ho hord hpr
                  have e1 : E.get t = ei.get t := by
                    refine evPre_get _ _ _ hE t fun q hq hqd => ?_
                    rcases List.mem_cons.1 hq with rfl | hq
                    · have := huniq i q ho hqd; omega
                    · obtain ⟨k, hk⟩ := List.getElem?_of_mem hq
                      have hkl := lt_of_get hk
                      rw [List.length_take] at hkl
                      rw [List.getElem?_take_of_lt (by omega), List.getElem?_drop] at hk
                      have := huniq (i + 1 + k) q (by simpa using hk) hqd; omega
                  rw [← e1]
                  exact (hsr t).1 ⟨j, p, hjm, hj, hpd, hjL⟩
                · -- by itself
                  have e1 : ei.get t = st.env.get t := by
                    refine evPre_get _ _ _ h1 t fun q hq hqd => ?_
                    obtain ⟨k, hk⟩ := List.getElem?_of_mem hq
                    have hkl := lt_of_get hk
                    rw [List.length_take] at hkl
                    rw [List.getElem?_take_of_lt (by omega)] at hk
                    have := huniq k q (by simpa using hk) hqd; omega
                  rw [e1]
                  refine (hsr t).2 fun ⟨k, q, hk1, hk2, hk3, hk4⟩ => ?_
                  have := huniq k q hk2 hk3
                  subst this
                  have hk5 : listed.getD k false = true := hk4
                  rw [h0] at hk5; cases hk5
                · -- behind it
                  have hord := ((slots_spec hsl hj ho hpd (by omega)).2 ht).2 hgt
                  have e1 : ei.get t = st.env.get t := by
                    refine evPre_get _ _ _ h1 t fun q hq hqd => ?_
                    obtain ⟨k, hk⟩ := List.getElem?_of_mem hq
                    have hkl := lt_of_get hk
                    rw [List.length_take] at hkl
                    rw [List.getElem?_take_of_lt (by omega)] at hk
                    have := huniq k q (by simpa using hk) hqd; omega
                  rw [e1]
                  refine (hsr t).2 fun ⟨k, q, hk1, hk2, hk3, hk4⟩ => ?_
                  have := huniq k q hk2 hk3
                  subst this
                  have hk5 : listed.getD i false = true := bit_pre hed hcl k i p hj hord (hcl k p hj hk4)
                  rw [h0] at hk5; cases hk5
              · have e1 : ei.get t = st.env.get t := by
                  refine evPre_get _ _ _ h1 t fun q hq hqd => ?_
                  obtain ⟨k, hk⟩ := List.getElem?_of_mem hq
                  have hkl := lt_of_get hk
                  rw [List.length_take] at hkl
                  rw [List.getElem?_take_of_lt (by omega)] at hk
                  exact hw ⟨k, q, by omega, by simpa using hk, hqd⟩
                rw [e1]
                exact (hsr t).2 fun ⟨k, q, hk1, hk2, hk3, _⟩ => hw ⟨k, q, hk1, hk2, hk3⟩
            -- behind it
            have hnext : ∀ (sv : SV) (v : Value) (W' : World) (g' : Gh) (e1 : Env), putD n o.dst sv ei = some e1 → evPre P call n ops st.heap ((ops.toList.drop (i + 1)).take (m - (i + 1))) e1 = some E → Step g st.heap W g' st.heap W' [] → SVR g' W' st.heap.length sv v →
                wpAny P .any ops (fun e a' W' => e = .normal ∧ Rel g0 H0 W0 n st' a' W') fuel (listed.setIfInBounds i true) (a.put o.dst v) W' := by
              intro sv v W' g' e1 hp he1 hs' hv
              refine ih _ _ _ (by simp [hls]) (fun k p hk hL e hem hb => ?_) (fun k hk => ?_) ?_ ⟨g', ?_, ?_, ?_, ?_⟩
              · have hL : (listed.setIfInBounds i true).getD k false = true := hL
                show (listed.setIfInBounds i true).getD e.on false = true
                rw [setL (by omega)] at hL ⊢
                by_cases hki : k = i
                · subst hki
                  rw [hk] at ho
                  cases ho
                  rw [hpr e hem hb]; simp
                · simp only [hki, decide_false, Bool.false_or] at hL
                  have hL2 : listed.getD e.on false = true := hcl k p hk hL e hem hb
                  rw [hL2]; simp
              · rw [setL (by omega), hout k hk]; simp; omega
              · have h2 : (List.range ops.size).filter (fun k => !(listed.setIfInBounds i true).getD k false) = ((List.range ops.size).filter fun k => !listed.getD k false).filter fun k => decide (k ≠ i) := by
                  rw [List.filter_filter]
                  refine List.filter_congr fun k _ => ?_
                  rw [setL (by omega)]
                  by_cases hki : k = i <;> simp [hki]
                rw [h2]
                have hmem : i ∈ (List.range ops.size).filter fun k => !listed.getD k false := List.mem_filter.2 ⟨List.mem_range.2 hil, by rw [h0]; rfl⟩
                have hnd : ((List.range ops.size).filter fun k => !listed.getD k false).Nodup := List.Pairwise.filter _ List.nodup_range
                have h3 := hnd.erase_eq_filter i
                have h4 : ((List.range ops.size).filter fun k => !listed.getD k false).filter (fun k => decide (k ≠ i)) = ((List.range ops.size).filter fun k => !listed.getD k false).erase i := by
                  rw [h3]; refine List.filter_congr fun k _ => ?_
                  simp [bne]
                  by_cases hki : k = i <;> simp [hki]
                rw [h4, List.length_erase_of_mem hmem, hcount]
                rfl
              · have := hs.trans hs'
                rw [List.append_nil] at this
                exact this
              · intro t
                have hput : ∀ t, o.dst = some t → t < n := by
                  intro t ht
                  unfold putD at hp
                  rw [ht] at hp
                  simp only at hp
                  split at hp
                  · assumption
                  · cases hp
                by_cases hti : o.dst = some t
                · have htn := hput t hti
                  have ev : (a.put o.dst v).tmps.getD t undef = v := by
                    rw [hti]
                    simp [Act.put, Array.getD, hn, htn]
                  rw [ev]
                  have eE : E.get t = sv := by
                    have : E.get t = e1.get t := by
                      refine evPre_get _ _ _ he1 t fun q hq hqd => ?_
                      obtain ⟨k, hk⟩ := List.getElem?_of_mem hq
                      have hkl := lt_of_get hk
                      rw [List.length_take] at hkl
                      rw [List.getElem?_take_of_lt (by omega), List.getElem?_drop] at hk
                      exact (slots_spec hsl ho (j := i + 1 + k) (by simpa using hk) hti (by omega)).1 hqd
                    rw [this, putD_get hp, if_pos hti]
                  refine ⟨fun _ => by rw [eE]; exact hv, fun hno => ?_⟩
                  exact absurd ⟨i, o, him, ho, hti, by show (listed.setIfInBounds i true).getD i false = true; rw [setL (by omega)]; simp⟩ hno
                · have ev : (a.put o.dst v).tmps.getD t undef = a.tmps.getD t undef := by
                    cases hdst : o.dst with
                    | none => rfl
                    | some u =>
                      have hne : u ≠ t := fun e => hti (by rw [hdst, e])
                      simp only [Act.put, Array.getD_eq_getD_getElem?]
                      rw [Array.getElem?_setIfInBounds_ne hne]
                  rw [ev]
                  have hsame : (∃ k q, k < m ∧ ops[k]? = some q ∧ q.dst = some t ∧ (listed.setIfInBounds i true).getD k false = true) ↔ ∃ k q, k < m ∧ ops[k]? = some q ∧ q.dst = some t ∧ listed.getD k false = true := by
                    constructor
                    · rintro ⟨k, q, a1, a2, a3, a4⟩
                      have hki : k ≠ i := by intro e; subst e; rw [a2] at ho; cases ho; exact hti a3
                      rw [setL (by omega)] at a4
                      simp only [hki, decide_false, Bool.false_or] at a4
                      exact ⟨k, q, a1, a2, a3, a4⟩
                    · rintro ⟨k, q, a1, a2, a3, a4⟩
                      exact ⟨k, q, a1, a2, a3, by rw [setL (by omega), a4]; simp⟩
                  exact ⟨fun h => SVR.mono hs'.ext ((hsr t).1 (hsame.1 h)), fun h => SVR.mono hs'.ext ((hsr t).2 fun h' => h (hsame.2 h'))⟩
              · cases o.dst <;> simp [Act.put, hn]
              · cases o.dst <;> exact hd
            unfold wpOp
            simp only [ho]
            have hwant : ∀ b, gOk ops ei o = some b → Region.wanted o (yielded ops a.tmps) = b := by
              intro b hg
              unfold gOk at hg
              unfold Region.wanted
              split at hg
              · rename_i hq; rw [hq]; cases hg; rfl
              · rename_i j want hq
                rw [hq]
                simp only
                split at hg
                · rename_i t ht
                  split at hg
                  · rename_i b' hb'
                    cases hg
                    have := hname t (by unfold namesOf; rw [hq]; simp [ht])
                    rw [hb'] at this
                    obtain ⟨_, hv⟩ := this
                    have : a.tmps[t]? = some (.bool b') := by
                      rw [Array.getD_eq_getD_getElem?] at hv
                      cases hx : a.tmps[t]? with
                      | none => rw [hx] at hv; cases hv
                      | some v => rw [hx] at hv; exact congrArg some hv
                    unfold yielded
                    rw [ht]
                    simp only [Option.bind_some, this]
                    cases b' <;> cases want <;> rfl
                  · cases hg
                · cases hg
            unfold evPre at hE
            split at hE
            · cases hE
            · rename_i hg
              rw [hwant _ hg]
              simp only [Bool.false_eq_true, if_false]
              cases hp : putD n o.dst .any ei with
              | none => rw [hp] at hE; cases hE
              | some e1 =>
                rw [hp] at hE
                exact hnext .any undef W g e1 hp hE (Step.refl hs.hr) trivial
            · rename_i hg
              rw [hwant _ hg]
              simp only [if_true]
              cases hrr : evR P call o (evA ei) st.heap with
              | none => rw [hrr] at hE; cases hE
              | some sv =>
                rw [hrr] at hE
                simp only [Option.bind_some] at hE
                cases hp : putD n o.dst sv ei with
                | none => rw [hp] at hE; cases hE
                | some e1 =>
                  rw [hp] at hE
                  left
                  refine evR_ok hc hs.hr (fun x hx => ?_) hrr fun v W' g' hs' hv => hnext sv v W' g' e1 hp hE hs' hv
                  cases x with
                  | tmp t => exact hname t (by unfold namesOf; rw [List.mem_append]; left; rw [List.mem_filterMap]; exact ⟨.tmp t, by simpa using hx, rfl⟩)
                  | const v => exact ofVal_R g W _ rfl
                  | global g => trivial
                  | func f => exact ⟨#[], rfl, rfl, by simp⟩
        · -- one behind all that only reads: not yet
          exfalso
          refine hpre fun k hk => ?_
          have hb := seq_spec hsq hil (by omega) (show k < i by omega)
          exact bit_pre hed hcl i k o ho hb hpr
theorem rep_false (n i : Nat) : (Array.replicate n false).getD i false = false := by
  rw [Array.getD_eq_getD_getElem?, Array.getElem?_replicate]
  split <;> rfl
theorem cutAt_le : ∀ (l : List Oper), cutAt l ≤ l.length
  | [] => Nat.le_refl _
  | o :: r => by unfold cutAt; split <;> simp [cutAt_le r]
theorem evDraw_ok {P : Program} (hm : P.follows .mixedOrders = true) : DrawOk P (evDraw P) := by
  intro call hc n ops st st' h g0 H0 W0 a W hr id
  unfold evDraw at h
  simp only at h
  split at h
  · rename_i hk
    obtain ⟨h1, h2, h3⟩ := hk
    cases hE : evPre P call n ops st.heap (ops.toList.take (cutAt ops.toList)) st.env with
    | none => rw [hE] at h; cases h
    | some E =>
      rw [hE] at h
      simp only [Option.bind_some] at h
      obtain ⟨g, hs, her, hn, hd⟩ := hr
      have hgrow : Step g st.heap W g st.heap { W with drawn := W.drawn + 1 } [] := Step.grow hs.hr rfl rfl rfl (Nat.le_refl _) (fun _ _ => rfl) rfl rfl rfl (fun _ _ x => x) (fun _ _ x => .inl x)
      refine wp_region_any hm (follows_any hc h1 h2 (by have := cutAt_le ops.toList; rw [Array.length_toList] at this; exact this) h3 hE h ops.size _ a _ (by simp) (fun j o hj hL => ?_) (fun i _ => rep_false _ _) ?_ ⟨g, ?_, ?_, hn, hd⟩)
      · have hL : (Array.replicate ops.size false).getD j false = true := hL
        rw [rep_false] at hL; cases hL
      · rw [List.filter_eq_self.2 (fun i _ => by rw [rep_false]; rfl)]; simp
      · have := hs.trans hgrow; rw [List.append_nil] at this; exact this
      · intro t
        refine ⟨fun ⟨i, o, _, _, _, hL⟩ => ?_, fun _ => SVR.mono hgrow.ext (her t)⟩
        have hL : (Array.replicate ops.size false).getD i false = true := hL
        rw [rep_false] at hL; cases hL
  · cases h
end Go.Proofs.Ytalnfojlmkebnaa.AI
