/- An abstract machine for the program's code, and what it says of the machine's own runs. -/
import Derived.Test.YtalnfojlmkebnaaAIB
import Derived.Scope
namespace Go.Proofs.Ytalnfojlmkebnaa.AI
open Go Go.RowKit
set_option linter.unusedVariables false
set_option linter.unusedSimpArgs false
/-! Regions, code, calls. -/
structure St where
  env : Env
  heap : Heap
  dirty : List Nat
inductive Ex where
  | normal | ret | exit (id : Nat)
abbrev CallF := Nat → List AV → Heap → Option (SV × Heap × List Nat)
def gOk (ops : Array Oper) (e : Env) (o : Oper) : Option Bool := match o.guard with
  | none => some true
  | some (j, want) => match (ops[j]?).bind (·.dst) with
    | some t => match e.get t with
      | .v (.c (.s (.bool b))) => some (b == want)
      | _ => none
    | none => none
def putD (n : Nat) (d : Option Nat) (sv : SV) (e : Env) : Option Env := match d with
  | none => some e
  | some t => if t < n then some (e.put t sv) else none
def avsOf (ρ : Operand → SV) : List Operand → Option (List AV)
  | [] => some []
  | x :: r => (ρ x).av.bind fun a => (avsOf ρ r).map fun l => a :: l
def exactsOf (ρ : Operand → SV) : List Operand → Option (List Value)
  | [] => some []
  | x :: r => (ρ x).exact.bind fun a => (exactsOf ρ r).map fun l => a :: l
def nextV : Next → Option Value | .value v => some v | _ => none
def constsOf (args : Array Operand) : Array Bool := args.map fun | .const _ => true | _ => false
def evBuiltin (P : Program) (b : Builtin) (c : Call) (ty : TypeId) (ρ : Operand → SV) (H : Heap) : Option (SV × Heap × List Nat) :=
  match exactsOf ρ c.args.toList with
  | some vs => match (pureRun P (builtin b c.argTypes ty (constsOf c.args) vs.toArray)).bind nextV with
    | some r => (outV r).map fun y => (y, H, [])
    | none => match b, avsOf ρ c.args.toList with
      | .append, some [.c s, .c x] => (evAppend P c.argTypes.toList s x H).map fun r => (.v (.c r.1), r.2.1, r.2.2)
      | _, _ => none
  | none => match b, avsOf ρ c.args.toList with
    | .append, some [.c s, .c x] => (evAppend P c.argTypes.toList s x H).map fun r => (.v (.c r.1), r.2.1, r.2.2)
    | .len, some [.c x] => match c.argTypes.toList with
      | [t] => match P.underlying t with
        | some (.slice _) => x.els.map fun l => (.v (.c (.s (.int .i64 l.length))), H, [])
        | _ => none
      | _ => none
    | _, _ => none
def ptrAV (x : Nat × Nat) : AV := .c (.ptr x.1 x.2)
def evOp (P : Program) (call : CallF) (o : Oper) (ρ : Operand → SV) (H : Heap) : Option (SV × Heap × List Nat) := match o.op with
  | .call c => match c.callee with
    | .builtin b => evBuiltin P b c o.type ρ H
    | .value f => match ρ f with
      | .v (.c (.fn fid cap)) => (avsOf ρ c.args.toList).bind fun l => call fid (l ++ cap.map ptrAV) H
      | _ => none
    | .invoke _ _ => none
  | op => evSimple P op ρ H
def evOps (P : Program) (call : CallF) (n : Nat) (ops : Array Oper) : List Oper → St → Option St
  | [], st => some st
  | o :: r, st => match gOk ops st.env o with
    | none => none
    | some false => (putD n o.dst .any st.env).bind fun e => evOps P call n ops r ⟨e, st.heap, st.dirty⟩
    | some true => (evOp P call o (evA st.env) st.heap).bind fun y => (putD n o.dst y.1 st.env).bind fun e => evOps P call n ops r ⟨e, y.2.1, st.dirty ++ y.2.2⟩
def iter (f : St → Option (Ex × St)) : Nat → St → Option (Ex × St)
  | 0, _ => none
  | k + 1, st => (f st).bind fun y => match y.1 with
    | .normal => iter f k y.2
    | _ => some y
def inBlock (id : Nat) : Ex → Ex
  | .exit j => if j = id then .normal else .exit j
  | e => e
/-- What is told to the machine that is told: functions; slots that need not be kept; regions in an open order. -/
structure Tab where
  fn : Nat → Option Func
  drop : Nat → List Nat
def evCode (P : Program) (draw : CallF → Nat → Array Oper → St → Option St) (call : CallF) (dr : List Nat) (n k : Nat) : Code → St → Option (Ex × St)
  | .skip, st => some (.normal, st)
  | .label _, st => some (.normal, st)
  | .region _ ops d, st => (if d then draw call n ops st else evOps P call n ops ops.toList st).map fun s => (.normal, { s with env := s.env.drop dr })
  | .seq a b, st => (evCode P draw call dr n k a st).bind fun y => match y.1 with
    | .normal => evCode P draw call dr n k b y.2
    | _ => some y
  | .cond c a b, st => match evA st.env c with
    | .v (.c (.s (.bool t))) => if t then evCode P draw call dr n k a st else evCode P draw call dr n k b st
    | _ => none
  | .block id body, st => (evCode P draw call dr n k body st).map fun y => (inBlock id y.1, y.2)
  | .loop body, st => iter (evCode P draw call dr n k body) k st
  | .exit id, st => some (.exit id, st)
  | .ret, st => some (.ret, st)
  | .scope body, st => evCode P draw call dr n k body st
  | _, _ => none
def resultsA (P : Program) (st : St) : List ResultVar → Option (List AV)
  | [] => some []
  | .tmp t :: r => (st.env.get t).av.bind fun a => (resultsA P st r).map fun l => a :: l
  | .cell a t :: r => (evLoad P t (st.env.get a) st.heap).bind fun a => (resultsA P st r).map fun l => a :: l
def packAC (n : Nat) : AC → Option AC
  | .own r l => if r < n then some (.own r l) else some (.row l)
  | .ptr b o => if b < n then some (.ptr b o) else none
  | .fn f cap => if (cap.all fun x => x.1 < n) = true then some (.fn f cap) else none
  | a => some a
/-- A result, told without what the call has made; base: how many places there are; used: rights that have been handed on. -/
def packAV (n : Nat) (H2 : Heap) (base : Nat) (used : List Nat) : AV → Option (AV × List Blk × List Nat)
  | .c (.own r l) => if r < n then some (.c (.own r l), [], used) else if used.contains r then some (.c (.row l), [], used) else match H2[r]? with
    | some (.right s) => some (.c (.own base l), [.right s], r :: used)
    | _ => some (.c (.row l), [], used)
  | .c a => (packAC n a).map fun a => (.c a, [], used)
  | .agg l => (l.mapM (packAC n)).map fun l => (.agg l, [], used)
def packAVs (n : Nat) (H2 : Heap) : Nat → List Nat → List AV → Option (List AV × List Blk)
  | _, _, [] => some ([], [])
  | base, used, a :: r => (packAV n H2 base used a).bind fun x => (packAVs n H2 (base + x.2.1.length) x.2.2 r).map fun y => (x.1 :: y.1, x.2.1 ++ y.2)
def svOf : List AV → SV
  | [x] => .v x
  | l => .tup l
def finish (H : Heap) (l : List AV) (st : St) : Option (SV × Heap × List Nat) :=
  let D := st.dirty.filter (· < H.length)
  match D with
  | [] => match packAVs H.length st.heap H.length [] l with
    | some x => some (svOf x.1, H ++ x.2, [])
    | none => some (svOf l, st.heap, [])
  | D => some (svOf l, st.heap, D)
def initEnv : Nat → List AV → Env
  | _, [] => []
  | i, a :: r => (i, .v a) :: initEnv (i + 1) r
def callF (P : Program) (draw : CallF → Nat → Array Oper → St → Option St) (T : Tab) : Nat → CallF
  | 0 => fun _ _ _ => none
  | k + 1 => fun f args H => (T.fn f).bind fun fn => fn.body.bind fun c =>
      if args.length ≤ fn.ntmps then
        (evCode P draw (callF P draw T k) (T.drop f) fn.ntmps k c ⟨initEnv 0 args, H, []⟩).bind fun y => match y.1 with
          | .exit _ => none
          | _ => (resultsA P y.2 fn.results.toList).bind fun l => finish H l y.2
      else none
theorem get_put (e : Env) (t : Nat) (v : SV) (u : Nat) : (e.put t v).get u = if t = u then v else e.get u := by
  induction e with
  | nil => simp [Env.put, Env.get]
  | cons p r ih =>
    obtain ⟨t', v'⟩ := p
    unfold Env.put
    by_cases h : t' = t
    · subst h
      rw [if_pos rfl]
      unfold Env.get
      by_cases h2 : t' = u
      · rw [if_pos h2, if_pos h2]
      · rw [if_neg h2, if_neg h2]; simp [Env.get, h2]
    · rw [if_neg h]
      unfold Env.get
      by_cases h2 : t' = u
      · subst h2; rw [if_pos rfl, if_neg (fun x => h x.symm)]; simp [Env.get]
      · rw [if_neg h2, ih]; simp [Env.get, h2]
theorem get_drop (e : Env) (ts : List Nat) (u : Nat) : (e.drop ts).get u = .any ∨ (e.drop ts).get u = e.get u := by
  induction e with
  | nil => exact .inl rfl
  | cons p r ih =>
    obtain ⟨t, v⟩ := p
    unfold Env.drop at ih ⊢
    by_cases h : ts.contains t = true
    · rw [List.filter_cons_of_neg (by simpa using h)]
      by_cases h2 : t = u
      · subst h2
        left
        clear ih
        induction r with
        | nil => rfl
        | cons q r ih2 =>
          obtain ⟨t', v'⟩ := q
          by_cases h3 : ts.contains t' = true
          · rw [List.filter_cons_of_neg (by simpa using h3)]; exact ih2
          · rw [List.filter_cons_of_pos (by simpa using h3)]
            unfold Env.get
            rw [if_neg (fun x => h3 (by rw [x]; exact h))]
            exact ih2
      · rcases ih with ih | ih
        · exact .inl ih
        · right; rw [ih]; conv => rhs; unfold Env.get
          rw [if_neg h2]
    · rw [List.filter_cons_of_pos (by simpa using h)]
      unfold Env.get
      by_cases h2 : t = u
      · rw [if_pos h2, if_pos h2]; exact .inr rfl
      · rw [if_neg h2, if_neg h2]; exact ih
theorem ER.mono {g g' : Gh} {W W' : World} {n n' : Nat} (k : Ext g W n g' W' n') {e : Env} {t : Array Value} (h : ER g W n e t) : ER g' W' n' e t := fun u => SVR.mono k (h u)
theorem ER.put {g : Gh} {W : World} {m : Nat} {e : Env} {tmps : Array Value} (h : ER g W m e tmps) {t : Nat} (ht : t < tmps.size) {sv : SV} {v : Value} (hv : SVR g W m sv v) : ER g W m (e.put t sv) (tmps.setIfInBounds t v) := by
  intro u
  rw [get_put]
  by_cases h2 : t = u
  · subst h2
    rw [if_pos rfl]
    have : (tmps.setIfInBounds t v).getD t undef = v := by simp [Array.getD, ht]
    rw [this]; exact hv
  · rw [if_neg h2]
    have : (tmps.setIfInBounds t v).getD u undef = tmps.getD u undef := by
      simp only [Array.getD_eq_getD_getElem?]
      rw [Array.getElem?_setIfInBounds_ne h2]
    rw [this]; exact h u
theorem ER.drop {g : Gh} {W : World} {m : Nat} {e : Env} {tmps : Array Value} (h : ER g W m e tmps) (ts : List Nat) : ER g W m (e.drop ts) tmps := by
  intro u
  rcases get_drop e ts u with e1 | e1
  · rw [e1]; trivial
  · rw [e1]; exact h u
/-- From the call's begin (g0, H0, W0) on: what is told of a state. -/
def Rel (g0 : Gh) (H0 : Heap) (W0 : World) (n : Nat) (st : St) (a : Act) (W : World) : Prop :=
  ∃ g, Step g0 H0 W0 g st.heap W st.dirty ∧ ER g W st.heap.length st.env a.tmps ∧ a.tmps.size = n ∧ a.defers = []
/-- A call that is told is a call of the machine. -/
def Sound (P : Program) (call : CallF) : Prop := ∀ f args H sv H' D, call f args H = some (sv, H', D) →
  (∃ fn, P.funcs[f]? = some fn ∧ (fn.name == "runtime.NumGoroutine") = false ∧ fn.body.isNone = false) ∧
  ∀ g W (vals : Array Value), HR g H W → AVRs g W H.length args vals.toList → Calls P f vals W fun e W' => ∃ v g', e = .returned v ∧ Step g H W g' H' W' D ∧ SVR g' W' H'.length sv v
theorem avs_R {g : Gh} {W : World} {n : Nat} {ρ : Operand → SV} {ρ' : Operand → Value} : ∀ {xs : List Operand} {l : List AV}, (∀ x ∈ xs, SVR g W n (ρ x) (ρ' x)) → avsOf ρ xs = some l → AVRs g W n l (xs.map ρ')
  | [], l, _, h => by simp only [avsOf] at h; cases h; trivial
  | x :: xs, l, hρ, h => by
    unfold avsOf at h
    cases hx : (ρ x).av with
    | none => rw [hx] at h; cases h
    | some a =>
      rw [hx] at h
      cases hr : avsOf ρ xs with
      | none => rw [hr] at h; cases h
      | some l' =>
        rw [hr] at h
        cases h
        refine ⟨?_, avs_R (fun y hy => hρ y (List.mem_cons_of_mem _ hy)) hr⟩
        have := hρ x (by simp)
        unfold SV.av at hx
        split at hx
        · rename_i y e; cases hx; rw [e] at this; exact this
        · cases hx
theorem exacts_R {g : Gh} {W : World} {n : Nat} {ρ : Operand → SV} {ρ' : Operand → Value} : ∀ {xs : List Operand} {l : List Value}, (∀ x ∈ xs, SVR g W n (ρ x) (ρ' x)) → exactsOf ρ xs = some l → xs.map ρ' = l
  | [], l, _, h => by simp only [exactsOf] at h; cases h; rfl
  | x :: xs, l, hρ, h => by
    unfold exactsOf at h
    cases hx : (ρ x).exact with
    | none => rw [hx] at h; cases h
    | some a =>
      rw [hx] at h
      cases hr : exactsOf ρ xs with
      | none => rw [hr] at h; cases h
      | some l' =>
        rw [hr] at h
        cases h
        rw [List.map_cons, exacts_R (fun y hy => hρ y (List.mem_cons_of_mem _ hy)) hr, sv_exact (hρ x (by simp)) hx]
theorem caps_AVR {g : Gh} {W : World} {n : Nat} : ∀ {cap : List (Nat × Nat)}, (∀ x ∈ cap, x.1 < n) → AVRs g W n (cap.map ptrAV) (cap.map fun x => .pointer (some ⟨g.blk x.1, x.2, none⟩))
  | [], _ => trivial
  | x :: r, h => ⟨⟨h x (by simp), rfl⟩, caps_AVR fun y hy => h y (List.mem_cons_of_mem _ hy)⟩
theorem do_append' {P : Program} {g : Gh} {H : Heap} {W : World} (h : HR g H W) {c : Call} {ty : TypeId} {ρ : Operand → SV} {ρ' : Operand → Value} (hρ : ∀ x ∈ c.args.toList, SVR g W H.length (ρ x) (ρ' x)) {s x : AC} {r : AC × Heap × List Nat} {cs : Array Bool}
    (ha : avsOf ρ c.args.toList = some [.c s, .c x]) (he : evAppend P c.argTypes.toList s x H = some r) : Does g H W ((builtin .append c.argTypes ty cs (c.args.map ρ')).run P W) (.v (.c r.1)) r.2.1 r.2.2 := by
  have hR := avs_R hρ ha
  have hl := hR.length
  obtain ⟨u, z, huz⟩ : ∃ u z, c.args.map ρ' = #[u, z] := by
    match hm : c.args.toList.map ρ', hl with
    | [u, z], _ => exact ⟨u, z, by apply Array.ext'; simpa using hm⟩
  have hm : c.args.toList.map ρ' = [u, z] := by have := congrArg Array.toList huz; simpa using this
  rw [hm] at hR
  obtain ⟨v, W', g', h1, h2, h3⟩ := do_append (P := P) (T := ty) (ts := c.argTypes) (a' := r.1) (H' := r.2.1) (D := r.2.2) h hR.1 hR.2.1 he
  refine ⟨v, W', g', .inl ?_, h2, h3⟩
  rw [huz]
  show ((Builtin.append_ c.argTypes ty #[u, z]) >>= fun v => Pure.pure (Next.value v)).run P W = _
  rw [Sem.run_bind, h1]; rfl
theorem do_builtin {P : Program} {g : Gh} {H : Heap} {W : World} (h : HR g H W) {b : Builtin} {c : Call} {ty : TypeId} {ρ : Operand → SV} {ρ' : Operand → Value} (hρ : ∀ x ∈ c.args.toList, SVR g W H.length (ρ x) (ρ' x)) {sv : SV} {H' : Heap} {D : List Nat}
    (he : evBuiltin P b c ty ρ H = some (sv, H', D)) : Does g H W ((builtin b c.argTypes ty (constsOf c.args) (c.args.map ρ')).run P W) sv H' D := by
  unfold evBuiltin at he
  split at he
  · rename_i vs hvs
    have e := exacts_R hρ hvs
    have e2 : c.args.map ρ' = vs.toArray := by apply Array.ext'; simpa using e
    split at he
    · rename_i r hr
      cases hy : outV r with
      | none => rw [hy] at he; cases he
      | some y =>
        rw [hy] at he
        cases he
        cases hp : pureRun P (builtin b c.argTypes ty (constsOf c.args) vs.toArray) with
        | none => rw [hp] at hr; cases hr
        | some nx =>
          rw [hp] at hr
          simp only [Option.bind_some] at hr
          cases nx with
          | value v =>
            cases hr
            have := pureRun_run hp W
            exact Does.pure h (v := r) (by rw [e2, this]) (outV_R hy)
          | _ => cases hr
    · split at he
      · rename_i s x ha _
        cases hq : evAppend P c.argTypes.toList s x H with
        | none => rw [hq] at he; cases he
        | some r => rw [hq] at he; cases he; exact do_append' h hρ ha hq
      · cases he
  · split at he
    · rename_i s x ha
      cases hq : evAppend P c.argTypes.toList s x H with
      | none => rw [hq] at he; cases he
      | some r => rw [hq] at he; cases he; exact do_append' h hρ ha hq
    · rename_i x ha
      split at he
      · rename_i t ht
        split at he
        · rename_i e hu
          cases hl : x.els with
          | none => rw [hl] at he; cases he
          | some l =>
            rw [hl] at he
            cases he
            have hR := avs_R hρ ha
            obtain ⟨u, hm⟩ : ∃ u, c.args.map ρ' = #[u] := by
              match hm : c.args.toList.map ρ', hR.length with
              | [u], _ => exact ⟨u, by apply Array.ext'; simpa using hm⟩
            have hm2 : c.args.toList.map ρ' = [u] := by have := congrArg Array.toList hm; simpa using this
            rw [hm2] at hR
            have hrow := els_row hR.1 hl
            have hat : c.argTypes = #[t] := by apply Array.ext'; simpa using ht
            have hlen : ∃ a cap, u = .slice a l.length cap := by cases hrow <;> exact ⟨_, _, rfl⟩
            obtain ⟨a, cap, rfl⟩ := hlen
            refine Does.pure h (v := .int .i64 l.length) ?_ ⟨rfl, rfl⟩
            rw [hm, hat]
            simp [builtin, Builtin.len_, run_underlying hu, goInt]
        · cases he
      · cases he
    · cases he
theorem upon_does {P : Program} {o : Oper} {a : Act} {g : Gh} {H : Heap} {W : World} {r : Result Next} {sv : SV} {H' : Heap} {D : List Nat} (h : Does g H W r sv H' D) {next : Act → World → Prop} {Q : Exit → Act → World → Prop}
    (hn : ∀ v W' g', Step g H W g' H' W' D → SVR g' W' H'.length sv v → next (a.put o.dst v) W') : o.upon P a next Q r := by
  obtain ⟨v, W', g', hr, hs, hv⟩ := h
  rcases hr with rfl | ⟨rfl, rfl⟩
  · exact hn v W' g' hs hv
  · exact hn _ W' g' hs hv
theorem op_ok {P : Program} {call : CallF} (hc : Sound P call) {o : Oper} {a : Act} {g : Gh} {H : Heap} {W : World} (h : HR g H W) {ρ : Operand → SV} (hρ : ∀ x ∈ o.op.operands, SVR g W H.length (ρ x) (a.eval x)) {sv : SV} {H' : Heap} {D : List Nat}
    (he : evOp P call o ρ H = some (sv, H', D)) {next : Act → World → Prop} {Q : Exit → Act → World → Prop} (hn : ∀ v W' g', Step g H W g' H' W' D → SVR g' W' H'.length sv v → next (a.put o.dst v) W') : o.wp P a W next Q := by
  unfold Oper.wp
  unfold evOp at he
  split at he
  · rename_i c hop
    have hex : execOp a.eval o = (resolve a.eval c o.type >>= fun d => invoke d.target d.args) := by simp [execOp, hop]
    split at he
    · rename_i b hcal
      have hD := do_builtin (P := P) h (ρ' := a.eval) (fun x hx => hρ x (by simp [hop, Op.operands, Call.operands, hcal]; simpa using hx)) he
      have : execOp a.eval o = builtin b c.argTypes o.type (constsOf c.args) (c.args.map a.eval) := by
        rw [hex]; unfold resolve; rw [hcal]; rfl
      rw [this]
      exact upon_does hD hn
    · rename_i f hcal
      split at he
      · rename_i fid cap hf
        cases hl : avsOf ρ c.args.toList with
        | none => rw [hl] at he; cases he
        | some l =>
          rw [hl] at he
          simp only [Option.bind_some] at he
          obtain ⟨⟨fn, hfn, hname, hbody⟩, hcalls⟩ := hc _ _ _ _ _ _ he
          have hfv := hρ f (by simp [hop, Op.operands, Call.operands, hcal])
          rw [hf] at hfv
          obtain ⟨C, hfe, hC, hcn⟩ := hfv
          have hrun : (execOp a.eval o).run P W = .ok (.enter fid (c.args.map a.eval ++ C)) W := by
            rw [hex]
            unfold resolve
            rw [hcal]
            simp only [hfe, Deferred.ofValue]
            have hname' : ¬ fn.name = "runtime.NumGoroutine" := by simpa using hname
            have hbody' : ¬ fn.body = none := by intro h0; rw [h0] at hbody; cases hbody
            simp [invoke, callFunc, hfn, hbody', hname']
          rw [hrun, Oper.upon_enter]
          refine (hcalls g W (c.args.map a.eval ++ C) h ?_).mono fun e W' hh => ?_
          · rw [Array.toList_append, Array.toList_map, hC]
            exact (avs_R (fun x hx => hρ x (by simp [hop, Op.operands, Call.operands, hcal]; right; simpa using hx)) hl).append (caps_AVR hcn)
          · obtain ⟨v, g', rfl, hs, hv⟩ := hh
            exact hn v W' g' hs hv
      · cases he
    · cases he
  · exact upon_does (do_simple (P := P) h hρ he) hn
theorem wanted_of {ops : Array Oper} {e : Env} {o : Oper} {g : Gh} {W : World} {m : Nat} {tmps : Array Value} {b : Bool} (h : ER g W m e tmps) (hg : gOk ops e o = some b) : Region.wanted o (yielded ops tmps) = b := by
  unfold gOk at hg
  unfold Region.wanted
  split at hg
  · rename_i hq; rw [hq]; cases hg; rfl
  · rename_i j want hq
    rw [hq]
    simp only
    split at hg
    · rename_i t ht
      split at hg
      · rename_i b' hb
        cases hg
        have := h t
        rw [hb] at this
        obtain ⟨_, hv⟩ := this
        have : tmps[t]? = some (.bool b') := by
          rw [Array.getD_eq_getD_getElem?] at hv
          cases hx : tmps[t]? with
          | none => rw [hx] at hv; cases hv
          | some v => rw [hx] at hv; exact congrArg some hv
        unfold yielded
        rw [ht]
        simp only [Option.bind_some, this]
        cases b' <;> cases want <;> rfl
      · cases hg
    · cases hg
theorem putD_rel {g0 : Gh} {H0 : Heap} {W0 : World} {n : Nat} {st : St} {a : Act} {W : World} (h : Rel g0 H0 W0 n st a W) {d : Option Nat} {sv : SV} {e : Env} (hp : putD n d sv st.env = some e) {g : Gh} {H' : Heap} {W' : World} {D : List Nat} {v : Value}
    (hS : ∀ g, Step g0 H0 W0 g st.heap W st.dirty → ER g W st.heap.length st.env a.tmps → ∃ g', Step g st.heap W g' H' W' D ∧ SVR g' W' H'.length sv v) : Rel g0 H0 W0 n ⟨e, H', st.dirty ++ D⟩ (a.put d v) W' := by
  obtain ⟨g, hs, he, hn, hd⟩ := h
  obtain ⟨g', hs', hv⟩ := hS g hs he
  have he' := he.mono hs'.ext
  unfold putD at hp
  split at hp
  · cases hp
    exact ⟨g', hs.trans hs', he', hn, hd⟩
  · rename_i t
    split at hp
    · rename_i ht
      cases hp
      exact ⟨g', hs.trans hs', he'.put (by rw [hn]; exact ht) hv, by simp [Act.put, hn], hd⟩
    · cases hp
theorem range_drop {n i : Nat} (h : i < n) : (List.range n).drop i = i :: (List.range n).drop (i + 1) := by
  rw [List.drop_eq_getElem_cons (by simpa using h)]
  simp
theorem evOps_ok {P : Program} {call : CallF} (hc : Sound P call) {n : Nat} {ops : Array Oper} {g0 : Gh} {H0 : Heap} {W0 : World} : ∀ (l : List Oper) (i : Nat) (st st' : St), ops.toList.drop i = l → evOps P call n ops l st = some st' → ∀ (a : Act) (W : World), Rel g0 H0 W0 n st a W →
    wpOps P ops (fun e a' W' => e = .normal ∧ Rel g0 H0 W0 n st' a' W') ((List.range ops.size).drop i) a W := by
  intro l
  induction l with
  | nil =>
    intro i st st' hl he a W hr
    have : ops.size ≤ i := by
      have := congrArg List.length hl
      rw [List.length_drop, List.length_nil, Array.length_toList] at this
      omega
    rw [List.drop_eq_nil_of_le (by simpa using this)]
    simp only [evOps] at he
    cases he
    exact ⟨rfl, hr⟩
  | cons o r ih =>
    intro i st st' hl he a W hr
    have hi : i < ops.size := by
      have := congrArg List.length hl
      rw [List.length_drop, List.length_cons, Array.length_toList] at this
      omega
    have hoi : ops[i]? = some o := by
      have : ops.toList[i]? = some o := by
        have := congrArg (·[0]?) hl
        simpa [List.getElem?_drop] using this
      simpa using this
    have hl' : ops.toList.drop (i + 1) = r := by
      have := congrArg (List.drop 1) hl
      simpa [List.drop_drop] using this
    rw [range_drop hi]
    simp only [wpOps, hoi]
    obtain ⟨g, hs, her, hn, hd⟩ := id hr
    unfold evOps at he
    split at he
    · cases he
    · rename_i hg
      rw [wanted_of her hg]
      simp only [Bool.false_eq_true, if_false]
      cases hp : putD n o.dst .any st.env with
      | none => rw [hp] at he; cases he
      | some e =>
        rw [hp] at he
        simp only [Option.bind_some] at he
        have hR := putD_rel hr hp (g := g) (H' := st.heap) (W' := W) (D := []) (v := undef) (fun g hs _ => ⟨g, Step.refl hs.hr, trivial⟩)
        rw [List.append_nil] at hR
        exact ih (i + 1) _ st' hl' he _ _ hR
    · rename_i hg
      rw [wanted_of her hg]
      simp only [if_true]
      cases ho : evOp P call o (evA st.env) st.heap with
      | none => rw [ho] at he; cases he
      | some y =>
        obtain ⟨sv, H', D⟩ := y
        rw [ho] at he
        simp only [Option.bind_some] at he
        cases hp : putD n o.dst sv st.env with
        | none => rw [hp] at he; cases he
        | some e =>
          rw [hp] at he
          simp only [Option.bind_some] at he
          left
          refine op_ok hc hs.hr (fun x _ => evA_R her x) ho fun v W' g' hs' hv => ?_
          refine ih (i + 1) _ st' hl' he _ _ ?_
          unfold putD at hp
          split at hp
          · rename_i hdst
            cases hp
            rw [hdst]
            exact ⟨g', hs.trans hs', her.mono hs'.ext, hn, hd⟩
          · rename_i t hdst
            split at hp
            · rename_i ht
              cases hp
              rw [hdst]
              exact ⟨g', hs.trans hs', (her.mono hs'.ext).put (by rw [hn]; exact ht) hv, by simp [Act.put, hn], hd⟩
            · cases hp
def toExit : Ex → Exit
  | .normal => .normal
  | .ret => .ret
  | .exit id => .exit id
/-- A region in an open order, told. -/
def DrawOk (P : Program) (draw : CallF → Nat → Array Oper → St → Option St) : Prop := ∀ (call : CallF), Sound P call → ∀ (n : Nat) (ops : Array Oper) (st st' : St), draw call n ops st = some st' →
  ∀ (g0 : Gh) (H0 : Heap) (W0 : World) (a : Act) (W : World), Rel g0 H0 W0 n st a W → ∀ id, (Code.region id ops true).wp P (fun e a' W' => e = .normal ∧ Rel g0 H0 W0 n st' a' W') a W
theorem Rel.drop {g0 : Gh} {H0 : Heap} {W0 : World} {n : Nat} {st : St} {a : Act} {W : World} (h : Rel g0 H0 W0 n st a W) (ts : List Nat) : Rel g0 H0 W0 n { st with env := st.env.drop ts } a W := by
  obtain ⟨g, hs, he, hn, hd⟩ := h
  exact ⟨g, hs, he.drop ts, hn, hd⟩
theorem evCode_ok {P : Program} {draw : CallF → Nat → Array Oper → St → Option St} (hdraw : DrawOk P draw) {call : CallF} (hc : Sound P call) {dr : List Nat} {n k : Nat} {g0 : Gh} {H0 : Heap} {W0 : World} : ∀ (c : Code) (st : St) (y : Ex × St), evCode P draw call dr n k c st = some y → ∀ (a : Act) (W : World), Rel g0 H0 W0 n st a W →
    c.wp P (fun e a' W' => e = toExit y.1 ∧ Rel g0 H0 W0 n y.2 a' W') a W := by
  intro c
  induction c with
  | skip => intro st y he a W hr; simp only [evCode] at he; cases he; exact wp_skip ⟨rfl, hr⟩
  | label l => intro st y he a W hr; simp only [evCode] at he; cases he; exact wp_label ⟨rfl, hr⟩
  | region id ops d =>
    intro st y he a W hr
    simp only [evCode] at he
    cases d with
    | false =>
      simp only [Bool.false_eq_true, if_false] at he
      cases ho : evOps P call n ops ops.toList st with
      | none => rw [ho] at he; cases he
      | some s =>
        rw [ho] at he
        cases he
        have := evOps_ok hc ops.toList 0 st s rfl ho a W hr
        rw [List.drop_zero] at this
        exact wp_mono (wp_region this) fun e a' W' h => ⟨h.1, h.2.drop dr⟩
    | true =>
      simp only [if_true] at he
      cases ho : draw call n ops st with
      | none => rw [ho] at he; cases he
      | some s =>
        rw [ho] at he
        cases he
        exact wp_mono (hdraw call hc n ops st s ho g0 H0 W0 a W hr id) fun e a' W' h => ⟨h.1, h.2.drop dr⟩
  | seq a b iha ihb =>
    intro st y he a' W hr
    simp only [evCode] at he
    cases ha : evCode P draw call dr n k a st with
    | none => rw [ha] at he; cases he
    | some z =>
      rw [ha] at he
      simp only [Option.bind_some] at he
      refine wp_seq (wp_mono (iha st z ha a' W hr) fun e a2 W2 h => ?_)
      obtain ⟨rfl, h2⟩ := h
      obtain ⟨ex, st2⟩ := z
      cases ex with
      | normal => exact ihb st2 y he a2 W2 h2
      | ret => cases he; exact ⟨rfl, h2⟩
      | exit id => cases he; exact ⟨rfl, h2⟩
  | cond c a b iha ihb =>
    intro st y he a' W hr
    simp only [evCode] at he
    split at he
    · rename_i t ht
      obtain ⟨g, hs, her, hn, hd⟩ := id hr
      have hv := evA_R her c
      rw [ht] at hv
      obtain ⟨_, hv⟩ := hv
      refine wp_cond (t := t) hv ?_
      cases t with
      | true => simp only [if_true] at he ⊢; exact iha st y he a' W hr
      | false => simp only [Bool.false_eq_true, if_false] at he ⊢; exact ihb st y he a' W hr
    · cases he
  | block id body ih =>
    intro st y he a W hr
    simp only [evCode] at he
    cases hb : evCode P draw call dr n k body st with
    | none => rw [hb] at he; cases he
    | some z =>
      rw [hb] at he
      cases he
      refine wp_block (wp_mono (ih st z hb a W hr) fun e a2 W2 h => ?_)
      obtain ⟨rfl, h2⟩ := h
      obtain ⟨ex, st2⟩ := z
      cases ex with
      | normal => exact ⟨rfl, h2⟩
      | ret => exact ⟨rfl, h2⟩
      | exit j =>
        show (if j = id then _ else _)
        by_cases e : j = id
        · rw [if_pos e]; exact ⟨by simp [inBlock, e, toExit], h2⟩
        · rw [if_neg e]; exact ⟨by simp [inBlock, e, toExit], h2⟩
  | loop body ih =>
    intro st y he a W hr
    simp only [evCode] at he
    refine wp_loop_rounds k ?_
    have key : ∀ (m : Nat) (st : St) (a : Act) (W : World), iter (evCode P draw call dr n k body) m st = some y → Rel g0 H0 W0 n st a W → Code.rounds P body (fun e a' W' => e = toExit y.1 ∧ Rel g0 H0 W0 n y.2 a' W') m a W := by
      intro m
      induction m with
      | zero => intro st a W he _; simp only [iter] at he; cases he
      | succ m ihm =>
        intro st a W he hr
        simp only [iter] at he
        rw [rounds_succ]
        cases hb : evCode P draw call dr n k body st with
        | none => rw [hb] at he; cases he
        | some z =>
          rw [hb] at he
          simp only [Option.bind_some] at he
          refine wp_mono (ih st z hb a W hr) fun e a2 W2 h => ?_
          obtain ⟨rfl, h2⟩ := h
          obtain ⟨ex, st2⟩ := z
          cases ex with
          | normal => exact ihm st2 a2 W2 he h2
          | ret => cases he; exact ⟨rfl, h2⟩
          | exit id => cases he; exact ⟨rfl, h2⟩
    exact key k st a W he hr
  | exit id => intro st y he a W hr; simp only [evCode] at he; cases he; exact wp_exit ⟨rfl, hr⟩
  | ret => intro st y he a W hr; simp only [evCode] at he; cases he; exact wp_ret ⟨rfl, hr⟩
  | scope body ih =>
    intro st y he a W hr
    simp only [evCode] at he
    refine wp_scope_straight (wp_mono (ih st y he a W hr) fun e a2 W2 h => ?_)
    obtain ⟨rfl, h2⟩ := h
    obtain ⟨ex, st2⟩ := y
    cases ex <;> exact ⟨rfl, h2⟩
  | goto l => intro st y he; simp [evCode] at he
  | refuse w => intro st y he; simp [evCode] at he
  | rangeFunc f p as b => intro st y he; simp [evCode] at he
/-! What a call leaves. -/
structure Agree (n : Nat) (g g' : Gh) : Prop where
  blk : ∀ b, b < n → g'.blk b = g.blk b
  rt : ∀ b, b < n → g'.rt b = g.rt b
  sz : ∀ b, b < n → g'.sz b = g.sz b
  imm : g'.imm = g.imm
theorem Agree.refl (n : Nat) (g : Gh) : Agree n g g := ⟨fun _ _ => rfl, fun _ _ => rfl, fun _ _ => rfl, rfl⟩
theorem AR.narrow {g g0 g' : Gh} {W W0 : World} {n n2 n' : Nat} {a : AC} {u u0 : Value} (h : AR g W n2 a u) (h0 : AR g0 W0 n a u0) (k : Agree n g g') (hn : n ≤ n') : AR g' W n' a u := by
  cases a with
  | s v => exact h
  | row l => show PR W g'.imm _ _; rw [k.imm]; exact h
  | full l => exact ⟨by rw [k.imm]; exact h.1, h.2⟩
  | own r l => exact ⟨Nat.lt_of_lt_of_le h0.1 hn, h.2.1.trans (k.rt r h0.1).symm, by rw [k.imm]; exact h.2.2.1, by rw [k.sz r h0.1]; exact h.2.2.2⟩
  | ptr b off => exact ⟨Nat.lt_of_lt_of_le h0.1 hn, by rw [k.blk b h0.1]; exact h.2⟩
  | rptr c => show ∃ b o, _; rw [k.imm]; exact h
  | fn f cap =>
    obtain ⟨C, rfl, hC, _⟩ := h
    obtain ⟨C0, _, _, hn0⟩ := h0
    refine ⟨C, rfl, hC.trans (List.map_congr_left fun x hx => ?_), fun x hx => Nat.lt_of_lt_of_le (hn0 x hx) hn⟩
    rw [k.blk _ (hn0 x hx)]
theorem ARs.narrow {g g0 g' : Gh} {W W0 : World} {n n2 n' : Nat} (k : Agree n g g') (hn : n ≤ n') : ∀ {l : List AC} {r r0 : List Value}, ARs g W n2 l r → ARs g0 W0 n l r0 → ARs g' W n' l r
  | [], [], _, _, _ => trivial
  | a :: l, u :: r, u0 :: r0, h, h0 => ⟨h.1.narrow h0.1 k hn, ARs.narrow k hn h.2 h0.2⟩
  | [], _ :: _, _, h, _ => h.elim
  | _ :: _, [], _, h, _ => h.elim
  | _ :: _, _ :: _, [], _, h => h.elim
/-- What the call has made is forgotten. -/
theorem HR.forget {g g2 : Gh} {H H2 : Heap} {W W2 : World} (h : HR g H W) (h2 : HR g2 H2 W2) (hc : ∀ d, d < H.length → H2[d]? = H[d]?) : HR g2 H W2 := by
  have hg : ∀ d x, H[d]? = some x → H2[d]? = some x := fun d x hd => (hc d (lt_of_get hd)).trans hd
  refine ⟨fun b l hb => ?_, fun r s hr => h2.right r s (hg r _ hr), fun b b' x x' hb hb' => h2.apart b b' x x' (hg b x hb) (hg b' x' hb'), h2.imm⟩
  obtain ⟨C, e, hw, ha, hi⟩ := h2.cells b l (hg b _ hb)
  obtain ⟨C0, _, _, ha0, _⟩ := h.cells b l hb
  exact ⟨C, e, hw, ARs.narrow (Agree.refl _ _) (Nat.le_refl _) ha ha0, hi⟩
theorem packAC_R {g2 g' : Gh} {W : World} {n n2 n' : Nat} {a a' : AC} {u : Value} (h : AR g2 W n2 a u) (hp : packAC n a = some a') (k : Agree n g2 g') (hn : n ≤ n') : AR g' W n' a' u := by
  cases a with
  | s v => cases hp; exact h
  | row l => cases hp; show PR W g'.imm _ _; rw [k.imm]; exact h
  | full l => cases hp; exact ⟨by rw [k.imm]; exact h.1, h.2⟩
  | own r l =>
    simp only [packAC] at hp
    split at hp
    · rename_i hr; cases hp
      exact ⟨Nat.lt_of_lt_of_le hr hn, h.2.1.trans (k.rt r hr).symm, by rw [k.imm]; exact h.2.2.1, by rw [k.sz r hr]; exact h.2.2.2⟩
    · cases hp; show PR W g'.imm _ _; rw [k.imm]; exact h.2.2.1
  | ptr b off =>
    simp only [packAC] at hp
    split at hp
    · rename_i hr; cases hp; exact ⟨Nat.lt_of_lt_of_le hr hn, by rw [k.blk b hr]; exact h.2⟩
    · cases hp
  | rptr c => cases hp; show ∃ b o, _; rw [k.imm]; exact h
  | fn f cap =>
    simp only [packAC] at hp
    split at hp
    · rename_i hr
      cases hp
      have hr' : ∀ x ∈ cap, x.1 < n := fun x hx => by simpa using List.all_eq_true.1 hr x hx
      obtain ⟨C, rfl, hC, _⟩ := h
      refine ⟨C, rfl, hC.trans (List.map_congr_left fun x hx => ?_), fun x hx => Nat.lt_of_lt_of_le (hr' x hx) hn⟩
      rw [k.blk _ (hr' x hx)]
    · cases hp
theorem packACs_R {g2 g' : Gh} {W : World} {n n2 n' : Nat} (k : Agree n g2 g') (hn : n ≤ n') : ∀ {l l' : List AC} {r : List Value}, ARs g2 W n2 l r → l.mapM (packAC n) = some l' → ARs g' W n' l' r
  | [], l', [], _, h => by simp at h; subst h; trivial
  | a :: l, l', u :: r, h, hp => by
    rw [List.mapM_cons] at hp
    cases ha : packAC n a with
    | none => rw [ha] at hp; cases hp
    | some a' =>
      rw [ha] at hp
      cases hl : l.mapM (packAC n) with
      | none => rw [hl] at hp; cases hp
      | some l2 =>
        rw [hl] at hp
        cases hp
        exact ⟨packAC_R h.1 ha k hn, packACs_R k hn h.2 hl⟩
  | [], _, _ :: _, h, _ => h.elim
  | _ :: _, _, [], h, _ => h.elim
/-- While a call's results are told. -/
structure Packs (n : Nat) (H2 : Heap) (g2 : Gh) (W2 : World) (Hc : Heap) (gc : Gh) (used : List Nat) : Prop where
  hr : HR gc Hc W2
  le : n ≤ Hc.length
  old : ∀ d, d < n → Hc[d]? = H2[d]?
  agree : Agree n g2 gc
  new : ∀ d x, n ≤ d → Hc[d]? = some x → roomy gc d x → ∃ r ∈ used, ∃ x', H2[r]? = some x' ∧ n ≤ r ∧ roomy g2 r x' ∧ gc.blk d = g2.blk r
theorem AVR.ac {g : Gh} {W : World} {n : Nat} {a : AC} {u : Value} (h : AVR g W n (.c a) u) : AR g W n a u := h
theorem pack_one {n n2 : Nat} {H2 Hc : Heap} {g2 gc : Gh} {W2 : World} {used : List Nat} (h2 : HR g2 H2 W2) (K : Packs n H2 g2 W2 Hc gc used) {a : AV} {u : Value} (ha : AVR g2 W2 n2 a u) {x : AV × List Blk × List Nat} (hp : packAV n H2 Hc.length used a = some x) :
    ∃ gc', Packs n H2 g2 W2 (Hc ++ x.2.1) gc' x.2.2 ∧ Ext gc W2 Hc.length gc' W2 (Hc ++ x.2.1).length ∧ AVR gc' W2 (Hc ++ x.2.1).length x.1 u := by
  have same : ∀ {y : AV}, AVR gc W2 Hc.length y u → ∃ gc', Packs n H2 g2 W2 (Hc ++ []) gc' used ∧ Ext gc W2 Hc.length gc' W2 (Hc ++ []).length ∧ AVR gc' W2 (Hc ++ []).length y u := by
    intro y hy
    rw [List.append_nil]
    exact ⟨gc, K, .refl _ _ _, hy⟩
  cases a with
  | agg l =>
    simp only [packAV, Option.map_eq_some_iff] at hp
    obtain ⟨l', hl', rfl⟩ := hp
    obtain ⟨C, e, hC⟩ := ha
    exact same ⟨C, e, packACs_R K.agree K.le hC hl'⟩
  | c a =>
    cases a with
    | own r l =>
      simp only [packAV] at hp
      split at hp
      · rename_i hlt
        cases hp
        exact same (y := .c (.own r l)) (show AR gc W2 Hc.length (.own r l) u from packAC_R (a := .own r l) (a' := .own r l) (show AR g2 W2 n2 (.own r l) u from ha) (by simp [packAC, hlt]) K.agree K.le)
      · rename_i hge
        have hrow : AVR gc W2 Hc.length (.c (.row l)) u := (show AR gc W2 Hc.length (.row l) u from packAC_R (a := .own r l) (a' := .row l) (show AR g2 W2 n2 (.own r l) u from ha) (by simp [packAC, hge]) K.agree K.le)
        split at hp
        · cases hp; exact same hrow
        · rename_i hused
          split at hp
          · rename_i s hr
            cases hp
            obtain ⟨hsz, a0, len, cap, hrt, hle, hcap⟩ := h2.right r s hr
            have hu : u = .slice a0 len cap := ha.2.1.trans hrt
            obtain ⟨q1, q2⟩ := HR.addRight (s := s) (v := u) (B := g2.blk r) K.hr hu hle (fun hlt => by
              obtain ⟨o, C, e, ho, hw, hC, hi⟩ := hcap hlt
              have hrr : roomy g2 r (.right s) := ⟨a0, len, cap, hrt, hlt⟩
              refine ⟨fun d x hd hx => ?_, o, C, e, ho, hw, hC, by rw [K.agree.imm]; exact hi⟩
              by_cases hdn : d < n
              · rw [K.agree.blk d hdn]
                rw [K.old d hdn] at hd
                refine h2.apart d r x _ hd hr (by omega) ?_ hrr
                cases x with
                | cells l => trivial
                | right s' =>
                  obtain ⟨a1, l1, c1, e1, e2⟩ := hx
                  exact ⟨a1, l1, c1, (K.agree.rt d hdn).symm.trans e1, e2⟩
                | gone => exact hx
              · obtain ⟨r', hr', x', hx', hn', hro, e⟩ := K.new d x (by omega) hd hx
                rw [e]
                refine h2.apart r' r x' _ hx' hr (fun e => hused (by rw [e] at hr'; simpa using hr')) hro hrr)
            refine ⟨_, ⟨q1, by rw [List.length_append]; have := K.le; omega, fun d hd => ?_, ⟨fun b hb => ?_, fun b hb => ?_, fun b hb => ?_, K.agree.imm⟩, fun d x hd hx hro => ?_⟩, q2, ?_⟩
            · rw [List.getElem?_append_left (Nat.lt_of_lt_of_le hd K.le)]; exact K.old d hd
            · exact (q2.blk b (Nat.lt_of_lt_of_le hb K.le)).trans (K.agree.blk b hb)
            · exact (q2.rt b (Nat.lt_of_lt_of_le hb K.le)).trans (K.agree.rt b hb)
            · exact (q2.sz b (Nat.lt_of_lt_of_le hb K.le)).trans (K.agree.sz b hb)
            · rcases Nat.lt_trichotomy d Hc.length with hlt | rfl | hgt
              · rw [List.getElem?_append_left hlt] at hx
                have hro' : roomy gc d x := by
                  cases x with
                  | cells l => trivial
                  | right s' =>
                    obtain ⟨a1, l1, c1, e1, e2⟩ := hro
                    exact ⟨a1, l1, c1, (q2.rt d hlt).symm.trans e1, e2⟩
                  | gone => exact hro
                obtain ⟨r', hr', x', hx', hn', hr2, e⟩ := K.new d x hd hx hro'
                exact ⟨r', List.mem_cons_of_mem _ hr', x', hx', hn', hr2, (q2.blk d hlt).trans e⟩
              · have hx2 : x = .right s := by simp at hx; exact hx.symm
                subst hx2
                obtain ⟨a1, l1, c1, e1, e2⟩ := hro
                have e3 : u = .slice a1 l1 c1 := (if_pos rfl : (if Hc.length = Hc.length then u else gc.rt Hc.length) = u).symm.trans e1
                refine ⟨r, by simp, _, hr, by omega, ⟨a1, l1, c1, ha.2.1.symm.trans e3, e2⟩, if_pos rfl⟩
              · rw [List.getElem?_eq_none (by simp; omega)] at hx; cases hx
            · refine ⟨by simp, (if_pos rfl).symm, ?_, fun c hc => ?_⟩
              · show PR W2 gc.imm _ _
                rw [K.agree.imm]; exact ha.2.2.1
              · rw [ha.2.2.2 c hc, hsz]; exact (if_pos rfl).symm
          · cases hp; exact same hrow
    | _ =>
      simp only [packAV, Option.map_eq_some_iff] at hp
      obtain ⟨a', ha', rfl⟩ := hp
      exact same (y := .c a') (show AR gc W2 Hc.length a' u from packAC_R (AVR.ac ha) ha' K.agree K.le)
theorem pack_all {n n2 : Nat} {H2 : Heap} {g2 : Gh} {W2 : World} (h2 : HR g2 H2 W2) : ∀ {l : List AV} {r : List Value} {Hc : Heap} {gc : Gh} {used : List Nat} {y : List AV × List Blk}, Packs n H2 g2 W2 Hc gc used → AVRs g2 W2 n2 l r → packAVs n H2 Hc.length used l = some y →
    ∃ gc' used', Packs n H2 g2 W2 (Hc ++ y.2) gc' used' ∧ Ext gc W2 Hc.length gc' W2 (Hc ++ y.2).length ∧ AVRs gc' W2 (Hc ++ y.2).length y.1 r
  | [], [], Hc, gc, used, y, K, _, hp => by
    simp only [packAVs] at hp
    cases hp
    refine ⟨gc, used, by rw [List.append_nil]; exact K, by rw [List.append_nil]; exact .refl _ _ _, trivial⟩
  | a :: l, u :: r, Hc, gc, used, y, K, h, hp => by
    unfold packAVs at hp
    cases hx : packAV n H2 Hc.length used a with
    | none => rw [hx] at hp; cases hp
    | some x =>
      rw [hx] at hp
      simp only [Option.bind_some, Option.map_eq_some_iff] at hp
      obtain ⟨z, hz, rfl⟩ := hp
      obtain ⟨g3, K3, x3, a3⟩ := pack_one h2 K h.1 hx
      rw [← List.length_append] at hz
      obtain ⟨g4, u4, K4, x4, a4⟩ := pack_all h2 K3 h.2 hz
      rw [List.append_assoc] at K4 x4 a4
      exact ⟨g4, u4, K4, x3.trans x4, AVR.mono x4 a3, a4⟩
  | [], _ :: _, _, _, _, _, _, h, _ => h.elim
  | _ :: _, [], _, _, _, _, _, h, _ => h.elim
theorem svOf_R {g : Gh} {W : World} {n : Nat} : ∀ {l : List AV} {r : List Value}, AVRs g W n l r → SVR g W n (svOf l) (if h : r.length = 1 then r[0] else .tuple r.toArray)
  | [], [], _ => ⟨#[], rfl, trivial⟩
  | [a], [u], h => h.1
  | a :: b :: l, u :: v :: r, h => ⟨(u :: v :: r).toArray, by simp, h⟩
  | [], _ :: _, h => h.elim
  | _ :: _, [], h => h.elim
  | [_], _ :: _ :: _, h => h.2.elim
  | _ :: _ :: _, [_], h => h.2.elim
theorem finish_R {g g2 : Gh} {H : Heap} {W W2 : World} {st : St} (h : HR g H W) (S : Step g H W g2 st.heap W2 st.dirty) {l : List AV} {r : List Value} (hl : AVRs g2 W2 st.heap.length l r) {sv : SV} {H' : Heap} {D : List Nat} (hf : finish H l st = some (sv, H', D)) :
    ∃ g', Step g H W g' H' W2 D ∧ SVR g' W2 H'.length sv (if h : r.length = 1 then r[0] else .tuple r.toArray) := by
  have hfil : ∀ d ∈ st.dirty, d < H.length → d ∈ st.dirty.filter (· < H.length) := fun d hd hlt => List.mem_filter.2 ⟨hd, by simpa using hlt⟩
  unfold finish at hf
  simp only at hf
  split at hf
  · rename_i hD
    rw [hD] at hfil
    have S0 := S.sub hfil
    split at hf
    · rename_i y hy
      cases hf
      have hc : ∀ d, d < H.length → st.heap[d]? = H[d]? := fun d hd => S0.clean d hd (by simp)
      have hfo := HR.forget h S.hr hc
      obtain ⟨g', u', K, x, a⟩ := pack_all S.hr (n := H.length) (Hc := H) (gc := g2) (used := []) ⟨hfo, Nat.le_refl _, fun d hd => (hc d hd).symm, Agree.refl _ _, fun d x hd hx _ => by rw [List.getElem?_eq_none hd] at hx; cases hx⟩ hl hy
      refine ⟨g', ⟨K.hr, ⟨by simp, fun b hb => (K.agree.blk b hb).trans (S.ext.blk b hb), fun b hb => (K.agree.rt b hb).trans (S.ext.rt b hb), fun b hb => (K.agree.sz b hb).trans (S.ext.sz b hb), ?_⟩, S.os, S.tape, S.output, S.size, S0.fr, fun d x' hd hx hro => ?_, fun d x' hd hx hro => ?_, fun d hd _ => List.getElem?_append_left hd, by rw [K.agree.imm]; exact S0.fresh⟩, svOf_R a⟩
      · rw [K.agree.imm]; exact S.ext.keeps
      · rw [List.getElem?_append_left hd] at hx
        refine ⟨x', hx, ?_⟩
        cases x' with
        | cells l => trivial
        | right s' =>
          obtain ⟨a1, l1, c1, e1, e2⟩ := hro
          exact ⟨a1, l1, c1, (((K.agree.rt d hd).trans (S.ext.rt d hd)).symm.trans e1), e2⟩
        | gone => exact hro
      · obtain ⟨r', hr', x2, hx2, hn, hro2, e⟩ := K.new d x' hd hx hro
        rw [e]
        rcases S0.new r' x2 hn hx2 hro2 with hb | ⟨d0, hd0, _⟩
        · exact .inl hb
        · cases hd0
    · cases hf
      exact ⟨g2, S0, svOf_R hl⟩
  · rename_i D' _
    cases hf
    exact ⟨g2, S.sub hfil, svOf_R hl⟩
def resOf (tmps : Array Value) : ResultVar → Sem Value
  | .tmp t => pure (tmps.getD t undef)
  | .cell x t => do loadVar t (← asAddr (tmps.getD x undef))
theorem results_eq (fn : Func) (tmps : Array Value) : results fn tmps = (fn.results.mapM (resOf tmps) >>= fun vs => Pure.pure (if h : vs.size = 1 then vs[0] else .tuple vs)) := by
  unfold results
  congr 1
theorem resultsA_R {P : Program} {g : Gh} {W : World} {st : St} {a : Act} (h : HR g st.heap W) (he : ER g W st.heap.length st.env a.tmps) : ∀ {rs : List ResultVar} {l : List AV}, resultsA P st rs = some l → ∃ vs : List Value, (rs.mapM (resOf a.tmps)).run P W = .ok vs W ∧ AVRs g W st.heap.length l vs
  | [], l, hl => by simp only [resultsA] at hl; cases hl; exact ⟨[], rfl, trivial⟩
  | .tmp t :: r, l, hl => by
    unfold resultsA at hl
    cases hx : (st.env.get t).av with
    | none => rw [hx] at hl; cases hl
    | some x =>
      rw [hx] at hl
      cases hr : resultsA P st r with
      | none => rw [hr] at hl; cases hl
      | some l' =>
        rw [hr] at hl
        cases hl
        obtain ⟨vs, h1, h2⟩ := resultsA_R h he hr
        refine ⟨a.tmps.getD t undef :: vs, ?_, ?_, h2⟩
        · rw [List.mapM_cons]
          simp only [resOf, Sem.run_bind, Sem.run_pure, Result.andThen_ok, h1]
        · have := he t
          unfold SV.av at hx
          split at hx
          · rename_i y e; cases hx; rw [e] at this; exact this
          · cases hx
  | .cell x t :: r, l, hl => by
    unfold resultsA at hl
    cases hx : evLoad P t (st.env.get x) st.heap with
    | none => rw [hx] at hl; cases hl
    | some y =>
      rw [hx] at hl
      cases hr : resultsA P st r with
      | none => rw [hr] at hl; cases hl
      | some l' =>
        rw [hr] at hl
        cases hl
        obtain ⟨vs, h1, h2⟩ := resultsA_R h he hr
        obtain ⟨v, h3, h4⟩ := do_load (P := P) h (he x) hx
        have h5 : (resOf a.tmps (.cell x t)).run P W = .ok v W := by
          show ((asAddr (a.tmps.getD x undef) >>= fun q => loadVar t q).run P W) = _
          generalize a.tmps.getD x undef = w at h3 ⊢
          cases w with
          | pointer q =>
            cases q with
            | some q => simpa [Instr.loadAt, Instr.sureAddr, asAddr] using h3
            | none => simp [Instr.loadAt, Instr.sureAddr] at h3
          | _ => simp [Instr.loadAt, Instr.sureAddr] at h3
        refine ⟨v :: vs, ?_, h4, h2⟩
        rw [List.mapM_cons, Sem.run_bind, h5, Result.andThen_ok, Sem.run_bind, h1]
        rfl
theorem initEnv_R {g : Gh} {W : World} {n : Nat} : ∀ (l : List AV) (r : List Value) (i : Nat) (pre : List Value) (k : Nat), AVRs g W n l r → pre.length = i → ER g W n (initEnv i l) (pre ++ r ++ List.replicate k undef).toArray
  | [], [], i, pre, k, _, _ => fun u => trivial
  | a :: l, u :: r, i, pre, k, h, hi => by
    intro t
    unfold initEnv Env.get
    by_cases e : i = t
    · rw [if_pos e]
      have : (pre ++ u :: r ++ List.replicate k undef).toArray.getD t undef = u := by
        simp only [Array.getD_eq_getD_getElem?, List.getElem?_toArray, List.append_assoc]
        rw [List.getElem?_append_right (by omega), hi, e]
        simp
      rw [this]; exact h.1
    · rw [if_neg e]
      have := initEnv_R l r (i + 1) (pre ++ [u]) k h.2 (by simp [hi]) t
      simpa using this
  | [], _ :: _, _, _, _, h, _ => h.elim
  | _ :: _, [], _, _, _, h, _ => h.elim
/-- Functions that are told are the program's. -/
def TabOk (P : Program) (T : Tab) : Prop := ∀ f fn, T.fn f = some fn → P.funcs[f]? = some fn ∧ (fn.name == "runtime.NumGoroutine") = false
theorem callF_ok {P : Program} {draw : CallF → Nat → Array Oper → St → Option St} (hdraw : DrawOk P draw) {T : Tab} (hT : TabOk P T) : ∀ k, Sound P (callF P draw T k)
  | 0 => fun f args H sv H' D h => by cases h
  | k + 1 => by
    have ih := callF_ok hdraw hT k
    intro f args H sv H' D h
    unfold callF at h
    cases hfn : T.fn f with
    | none => rw [hfn] at h; cases h
    | some fn =>
      rw [hfn] at h
      simp only [Option.bind_some] at h
      obtain ⟨hP, hname⟩ := hT f fn hfn
      cases hb : fn.body with
      | none => rw [hb] at h; cases h
      | some c =>
        rw [hb] at h
        simp only [Option.bind_some] at h
        refine ⟨⟨fn, hP, hname, by rw [hb]; rfl⟩, fun g W vals hr hv => ?_⟩
        split at h
        · rename_i hlen
          cases hc : evCode P draw (callF P draw T k) (T.drop f) fn.ntmps k c ⟨initEnv 0 args, H, []⟩ with
          | none => rw [hc] at h; cases h
          | some y =>
            rw [hc] at h
            simp only [Option.bind_some] at h
            have hvl := hv.length
            have hinit : Rel g H W fn.ntmps ⟨initEnv 0 args, H, []⟩ { tmps := vals ++ Array.replicate (fn.ntmps - vals.size) undef, defers := [] } W := by
              refine ⟨g, Step.refl hr, ?_, ?_, rfl⟩
              · have := initEnv_R args vals.toList 0 [] (fn.ntmps - vals.size) hv rfl
                have e : (([] : List Value) ++ vals.toList ++ List.replicate (fn.ntmps - vals.size) undef).toArray = vals ++ Array.replicate (fn.ntmps - vals.size) undef := by apply Array.ext'; simp
                rw [e] at this
                exact this
              · simp only [Array.size_append, Array.size_replicate]
                rw [Array.length_toList] at hvl
                omega
            refine calls_of_wp hP hb (wp_mono (evCode_ok hdraw ih c _ y hc _ W hinit) fun e a W' hh => ?_)
            obtain ⟨rfl, g', hs, her, hn, hd⟩ := hh
            obtain ⟨ex, st⟩ := y
            have hend : ∀ l, resultsA P st fn.results.toList = some l → finish H l st = some (sv, H', D) → a.defers = [] ∧ ∃ v, (results fn a.tmps).run P W' = .ok v W' ∧ ∃ v' g', Ending.returned v = .returned v' ∧ Step g H W g' H' W' D ∧ SVR g' W' H'.length sv v' := by
              intro l h1 h2
              obtain ⟨vs, h3, h4⟩ := resultsA_R hs.hr her h1
              obtain ⟨g'', h5, h6⟩ := finish_R hr hs h4 h2
              refine ⟨hd, _, ?_, _, g'', rfl, h5, h6⟩
              rw [results_eq, Array.mapM_eq_mapM_toList]
              simp only [Sem.run_bind, Sem.run_map, h3, Result.andThen_ok, Sem.run_pure, List.size_toArray, List.getElem_toArray]
            cases ex with
            | exit id => cases h
            | normal =>
              cases hl : resultsA P st fn.results.toList with
              | none => simp only [hl] at h; cases h
              | some l => simp only [hl, Option.bind_some] at h; exact hend l hl h
            | ret =>
              cases hl : resultsA P st fn.results.toList with
              | none => simp only [hl] at h; cases h
              | some l => simp only [hl, Option.bind_some] at h; exact hend l hl h
        · cases h
end Go.Proofs.Ytalnfojlmkebnaa.AI
