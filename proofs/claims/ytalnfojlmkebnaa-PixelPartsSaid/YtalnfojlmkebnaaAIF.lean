/- An abstract machine for the program's code, and what it says of the machine's own runs. -/
import Derived.Test.YtalnfojlmkebnaaAIE
namespace Go.Proofs.Ytalnfojlmkebnaa.AI
open Go Go.RowKit
set_option linter.unusedVariables false
set_option linter.unusedSimpArgs false
/-! The abstract machine, told with what comes behind: a choice is a choice between all that follows. -/
abbrev CallK (ρ : Type) := Nat → List AV → Heap → (SV × Heap × List Nat → Option ρ) → Option ρ
/-- What a cell of an element is. -/
inductive Cl where
  | int (k : IntKind) | bool | str | row
def clT (P : Program) : Nat → TypeId → Option (List Cl)
  | 0, _ => none
  | f + 1, t => match P.underlying t with
    | some (.int k) => some [.int k]
    | some .bool => some [.bool]
    | some .string => some [.str]
    | some (.slice _) => some [.row]
    | some (.struct fs) => (fs.toList.mapM fun fd => clT P f fd.type).map List.flatten
    | some (.array n e) => (clT P f e).map fun l => (List.replicate n l).flatten
    | _ => none
def pcAt (l : List (List PC)) (i j : Nat) : Option PC := match l[i]? with | some c => c[j]? | none => none
def rdI (l : List (List PC)) (i j : Nat) : Int := match pcAt l i j with | some (.s (.int _ n)) => n | _ => 0
def rdB (l : List (List PC)) (i j : Nat) : Bool := match pcAt l i j with | some (.s (.bool b)) => b | _ => false
def rdS (l : List (List PC)) (i j : Nat) : ByteArray := match pcAt l i j with | some (.s (.string s)) => s | _ => ByteArray.empty
def rdR (l : List (List PC)) (i j : Nat) : List (List PC) := match pcAt l i j with | some (.row r) => r | _ => []
def cellOf (l : List (List PC)) (i j : Nat) : Cl → PC
  | .int k => .s (.int k (rdI l i j)) | .bool => .s (.bool (rdB l i j)) | .str => .s (.string (rdS l i j)) | .row => .row (rdR l i j)
def cellsFrom (l : List (List PC)) (i : Nat) : Nat → List Cl → List PC
  | _, [] => []
  | j, t :: r => cellOf l i j t :: cellsFrom l i (j + 1) r
def fit1 : Cl → PC → Bool
  | .int k, .s (.int k' _) => k == k'
  | .bool, .s (.bool _) => true
  | .str, .s (.string _) => true
  | .row, .row _ => true
  | _, _ => false
def fits : List Cl → List PC → Bool
  | [], [] => true
  | t :: ts, p :: ps => fit1 t p && fits ts ps
  | _, _ => false
def okAt (ts : List Cl) (l : List (List PC)) (i : Int) : Bool := decide (0 ≤ i) && match l[i.toNat]? with | some c => fits ts c | none => false
theorem fits_from {l : List (List PC)} {i : Nat} {c0 : List PC} (h0 : l[i]? = some c0) : ∀ (ts : List Cl) (c : List PC) (j : Nat), c0.drop j = c → fits ts c = true → cellsFrom l i j ts = c
  | [], [], _, _, _ => rfl
  | [], _ :: _, _, _, h => by simp [fits] at h
  | _ :: _, [], _, _, h => by simp [fits] at h
  | t :: ts, p :: ps, j, hd, h => by
    simp only [fits, Bool.and_eq_true] at h
    have hj : c0[j]? = some p := by
      have := congrArg (·[0]?) hd
      simpa [List.getElem?_drop] using this
    have hp : pcAt l i j = some p := by simp [pcAt, h0, hj]
    have hr : c0.drop (j + 1) = ps := by
      have := congrArg (List.drop 1) hd
      simpa [List.drop_drop] using this
    simp only [cellsFrom, List.cons.injEq]
    refine ⟨?_, fits_from h0 ts ps (j + 1) hr h.2⟩
    have h1 := h.1
    cases t <;> cases p <;> (try rename_i v; cases v) <;> simp_all [fit1, cellOf, rdI, rdB, rdS, rdR]
theorem okAt_spec {ts : List Cl} {l : List (List PC)} {i : Int} (h : okAt ts l i = true) : 0 ≤ i ∧ l[i.toNat]? = some (cellsFrom l i.toNat 0 ts) := by
  simp only [okAt, Bool.and_eq_true, decide_eq_true_eq] at h
  refine ⟨h.1, ?_⟩
  have h2 := h.2
  split at h2
  · rename_i c hc
    rw [hc, fits_from hc ts c 0 (List.drop_zero) h2]
  · cases h2
section
variable {ρ : Type}
theorem cond_some {b : Bool} {x y : Option ρ} {r : ρ} (h : cond b x y = some r) : (b = true ∧ x = some r) ∨ (b = false ∧ y = some r) := by cases b <;> simp_all
theorem cond_none {b : Bool} {x : Option ρ} {r : ρ} (h : cond b x none = some r) : b = true ∧ x = some r := by cases b <;> simp_all
theorem none_cond {b : Bool} {x : Option ρ} {r : ρ} (h : cond b none x = some r) : b = false ∧ x = some r := by cases b <;> simp_all
def binK (P : Program) (op : BinOp) (t : TypeId) (ox oy : Operand) (x y : SV) (κ : Value → Option ρ) : Option ρ := match op, x, y with
  | .quo, .v (.c (.s (.int k a))), .v (.c (.s (.int k' b))) => cond (decide (k = k')) (cond (decide (b = 0)) none (κ (.int k (k.wrap (a.tdiv b))))) none
  | .rem, .v (.c (.s (.int k a))), .v (.c (.s (.int k' b))) => cond (decide (k = k')) (cond (decide (b = 0)) none (κ (.int k (a.tmod b)))) none
  | .shl, .v (.c (.s (.int k a))), .v (.c (.s (.int _ b))) => cond (decide (b < 0)) none (κ (.int k (k.wrap (a * 2 ^ (min b.toNat k.bits)))))
  | .shr, .v (.c (.s (.int k a))), .v (.c (.s (.int _ b))) => cond (decide (b < 0)) none (κ (.int k (a.fdiv (2 ^ (min b.toNat k.bits)))))
  | op, x, y => (evBin P op t ox oy x y).bind κ
theorem binK_ok {P : Program} {op : BinOp} {t : TypeId} {ox oy : Operand} {x y : SV} {κ : Value → Option ρ} {r : ρ} (h : binK P op t ox oy x y κ = some r) : ∃ v, evBin P op t ox oy x y = some v ∧ κ v = some r := by
  unfold binK at h
  split at h
  · rename_i k a k' b
    obtain ⟨q1, h3⟩ := cond_none h
    obtain ⟨q2, h4⟩ := none_cond h3
    have h1 : k = k' := by simpa using q1
    have h2 : ¬ b = 0 := by simpa using q2
    clear h h3 q1
    subst h1
    refine ⟨_, ?_, h4⟩
    simp only [evBin, SV.exact, SV.av, AV.exact, Option.bind_some]
    show pureRun P (binOp .quo t (.int k a) (.int k b)) = _
    simp [binOp, Op.intDiv, h2, pureRun]
    rfl
  · rename_i k a k' b
    obtain ⟨q1, h3⟩ := cond_none h
    obtain ⟨q2, h4⟩ := none_cond h3
    have h1 : k = k' := by simpa using q1
    have h2 : ¬ b = 0 := by simpa using q2
    clear h h3 q1
    subst h1
    refine ⟨_, ?_, h4⟩
    simp only [evBin, SV.exact, SV.av, AV.exact, Option.bind_some]
    show pureRun P (binOp .rem t (.int k a) (.int k b)) = _
    simp [binOp, Op.intDiv, h2, pureRun]
    rfl
  · rename_i k a k' b
    obtain ⟨h2, h⟩ := none_cond h
    have h2 : ¬ b < 0 := by simpa using h2
    refine ⟨_, ?_, h⟩
    simp only [evBin, SV.exact, SV.av, AV.exact, Option.bind_some]
    show pureRun P (binOp .shl t (.int k a) (.int k' b)) = _
    simp [binOp, Op.shift, h2, pureRun]
    rfl
  · rename_i k a k' b
    obtain ⟨h2, h⟩ := none_cond h
    have h2 : ¬ b < 0 := by simpa using h2
    refine ⟨_, ?_, h⟩
    simp only [evBin, SV.exact, SV.av, AV.exact, Option.bind_some]
    show pureRun P (binOp .shr t (.int k a) (.int k' b)) = _
    simp [binOp, Op.shift, h2, pureRun]
    rfl
  · exact Option.bind_eq_some_iff.1 h
def idxK (P : Program) (E : Bool) (t : TypeId) (x i : SV) (κ : SV → Option ρ) : Option ρ := match E, P.underlying t, x with
  | true, some (.slice e), .v (.c a) => match i.int, a.els, clT P 20 e with
    | some i, some l, some ts => cond (decide (szT P e = some ts.length)) (cond (okAt ts l i) (κ (.v (.c (.rptr (cellsFrom l i.toNat 0 ts))))) none) none
    | _, _, _ => none
  | _, _, x => i.int.bind fun i => (evIndexAddr P t x i).bind κ
theorem cellsFrom_len (l : List (List PC)) (i : Nat) : ∀ (ts : List Cl) (j : Nat), (cellsFrom l i j ts).length = ts.length
  | [], _ => rfl
  | _ :: r, j => by simp [cellsFrom, cellsFrom_len l i r]
theorem idxK_ok {P : Program} {E : Bool} {t : TypeId} {x i : SV} {κ : SV → Option ρ} {r : ρ} (h : idxK P E t x i κ = some r) : ∃ y, (i.int.bind fun i => evIndexAddr P t x i) = some y ∧ κ y = some r := by
  unfold idxK at h
  split at h
  · rename_i e a hu
    split at h
    · rename_i i0 l ts hi hl hts
      obtain ⟨h0, h⟩ := cond_none h
      obtain ⟨h1, h⟩ := cond_none h
      obtain ⟨h2, h3⟩ := okAt_spec h1
      have h0 : szT P e = some ts.length := by simpa using h0
      refine ⟨_, ?_, h⟩
      rw [hi]
      simp only [Option.bind_some, evIndexAddr, hu, hl, if_pos h2, h3, cellsFrom_len, h0, if_true]
    · cases h
  · obtain ⟨i0, hi, h⟩ := Option.bind_eq_some_iff.1 h
    obtain ⟨y, hy, h⟩ := Option.bind_eq_some_iff.1 h
    exact ⟨y, by rw [hi]; exact hy, h⟩
def appendK (P : Program) (ts : List TypeId) (s x : AC) (H : Heap) (κ : AC × Heap × List Nat → Option ρ) : Option ρ :=
  match appendOk P ts, addEls x with
  | some (sz, by_, _), some l2 => match s with
    | .own r l => cond (isRight H r sz) (cond (l2.all fun c => c.length == sz) (cond (decide ((l.length + l2.length) * by_ ≤ LIM)) (κ (.own H.length (l ++ l2), H.set r .gone ++ [.right sz], [r])) none) none) none
    | .full l => cond (l.all fun c => c.length == sz) (cond (l2.all fun c => c.length == sz) (cond (decide ((l.length + l2.length) * by_ ≤ LIM)) (κ (.own H.length (l ++ l2), H ++ [.right sz], [])) none) none) none
    | .s (.slice none 0 0) => cond (l2.all fun c => c.length == sz) (cond (decide (l2.length * by_ ≤ LIM)) (κ (.own H.length l2, H ++ [.right sz], [])) none) none
    | _ => none
  | _, _ => none
theorem appendK_ok {P : Program} {ts : List TypeId} {s x : AC} {H : Heap} {κ : AC × Heap × List Nat → Option ρ} {r : ρ} (h : appendK P ts s x H κ = some r) : ∃ y, evAppend P ts s x H = some y ∧ κ y = some r := by
  unfold appendK at h
  split at h
  · rename_i sz by_ e l2 h1 h2
    unfold evAppend
    rw [h1, h2]
    simp only [Option.bind_some]
    split at h
    · obtain ⟨a, h⟩ := cond_none h
      obtain ⟨b, h⟩ := cond_none h
      obtain ⟨c, h⟩ := cond_none h
      exact ⟨_, if_pos ⟨a, b, by simpa using c⟩, h⟩
    · obtain ⟨a, h⟩ := cond_none h
      obtain ⟨b, h⟩ := cond_none h
      obtain ⟨c, h⟩ := cond_none h
      exact ⟨_, if_pos ⟨a, b, by simpa using c⟩, h⟩
    · obtain ⟨b, h⟩ := cond_none h
      obtain ⟨c, h⟩ := cond_none h
      exact ⟨_, if_pos ⟨b, by simpa using c⟩, h⟩
    · cases h
  · cases h
def builtinK (P : Program) (b : Builtin) (c : Call) (ty : TypeId) (ρv : Operand → SV) (H : Heap) (κ : SV × Heap × List Nat → Option ρ) : Option ρ := match b with
  | .append => match exactsOf ρv c.args.toList, avsOf ρv c.args.toList with
    | none, some [.c s, .c x] => appendK P c.argTypes.toList s x H fun r => κ (.v (.c r.1), r.2.1, r.2.2)
    | _, _ => (evBuiltin P b c ty ρv H).bind κ
  | _ => (evBuiltin P b c ty ρv H).bind κ
theorem builtinK_ok {P : Program} {b : Builtin} {c : Call} {ty : TypeId} {ρv : Operand → SV} {H : Heap} {κ : SV × Heap × List Nat → Option ρ} {r : ρ} (h : builtinK P b c ty ρv H κ = some r) : ∃ y, evBuiltin P b c ty ρv H = some y ∧ κ y = some r := by
  unfold builtinK at h
  split at h
  · split at h
    · rename_i s x h1 h2
      obtain ⟨y, hy, h⟩ := appendK_ok h
      refine ⟨_, ?_, h⟩
      unfold evBuiltin
      rw [h1]
      simp only [h2, hy, Option.map_some]
    · exact Option.bind_eq_some_iff.1 h
  · exact Option.bind_eq_some_iff.1 h
def Refines (call : CallF) (callk : CallK ρ) : Prop := ∀ f args H κ r, callk f args H κ = some r → ∃ y, call f args H = some y ∧ κ y = some r
def evOpK (P : Program) (E : Bool) (call : CallK ρ) (o : Oper) (ρv : Operand → SV) (H : Heap) (κ : SV × Heap × List Nat → Option ρ) : Option ρ := match o.op with
  | .call c => match c.callee with
    | .builtin b => builtinK P b c o.type ρv H κ
    | .value f => match ρv f with
      | .v (.c (.fn fid cap)) => match avsOf ρv c.args.toList with
        | some l => call fid (l ++ cap.map ptrAV) H κ
        | none => none
      | _ => none
    | .invoke _ _ => none
  | .binOp op t x y _ => binK P op t x y (ρv x) (ρv y) fun v => match outV v with
    | some r => κ (r, H, [])
    | none => none
  | .indexAddr t x i => idxK P E t (ρv x) (ρv i) fun y => κ (y, H, [])
  | .pick c a b => match ρv c with
    | .v (.c (.s (.bool t))) => cond t (κ (ρv a, H, [])) (κ (ρv b, H, []))
    | _ => none
  | op => (evSimple P op ρv H).bind κ
theorem evOpK_ok {P : Program} {E : Bool} {call : CallF} {callk : CallK ρ} (hc : Refines call callk) {o : Oper} {ρv : Operand → SV} {H : Heap} {κ : SV × Heap × List Nat → Option ρ} {r : ρ} (h : evOpK P E callk o ρv H κ = some r) :
    ∃ y, evOp P call o ρv H = some y ∧ κ y = some r := by
  unfold evOpK at h
  unfold evOp
  split at h
  · rename_i c hop
    simp only [hop]
    split at h
    · rename_i b hb
      simp only [hb]
      exact builtinK_ok h
    · rename_i f hf
      simp only [hf]
      split at h
      · rename_i fid cap he
        simp only [he]
        split at h
        · rename_i l hl
          rw [hl]
          exact hc _ _ _ _ _ h
        · cases h
      · cases h
    · cases h
  · rename_i op t x y yt hop
    simp only [hop]
    obtain ⟨v, hv, h⟩ := binK_ok h
    split at h
    · rename_i z hz
      exact ⟨_, by simp only [evSimple, hv, Option.bind_some, hz, Option.map_some], h⟩
    · cases h
  · rename_i t x i hop
    simp only [hop]
    obtain ⟨y, hy, h⟩ := idxK_ok h
    obtain ⟨i0, hi, hy⟩ := Option.bind_eq_some_iff.1 hy
    exact ⟨_, by simp only [evSimple, hi, Option.bind_some, hy, Option.map_some], h⟩
  · rename_i c a b hop
    simp only [hop]
    split at h
    · rename_i t ht
      rcases cond_some h with ⟨rfl, h⟩ | ⟨rfl, h⟩
      · exact ⟨_, by simp only [evSimple, ht, if_true], h⟩
      · exact ⟨_, by simp only [evSimple, ht, Bool.false_eq_true, if_false], h⟩
    · cases h
  · rename_i op h1 h2 h3 h4
    obtain ⟨y, hy, h⟩ := Option.bind_eq_some_iff.1 h
    refine ⟨y, ?_, h⟩
    rw [← hy]
    split
    · rename_i c hop
      exact absurd hop (h1 _)
    · rfl
theorem put_same : ∀ {e : Env} {t : Nat} {v : SV}, e.get t = v → v ≠ .any → e.put t v = e
  | [], t, v, h, hn => absurd h.symm hn
  | (t', v') :: r, t, v, h, hn => by
    unfold Env.get at h
    unfold Env.put
    by_cases e : t' = t
    · rw [if_pos e] at h ⊢; rw [h, e]
    · rw [if_neg e] at h ⊢; rw [put_same h hn]
/-- What is known of a condition behind it. -/
def know (c : Operand) (b : Bool) (e : Env) : Env := match c with
  | .tmp t => e.put t (.v (.c (.s (.bool b))))
  | _ => e
theorem know_same {c : Operand} {b : Bool} {e : Env} (h : evA e c = .v (.c (.s (.bool b)))) : know c b e = e := by
  unfold know
  split
  · exact put_same h (by intro h; cases h)
  · rfl
/-- A guarded operation: done, or left out. -/
def guardK (ops : Array Oper) (e : Env) (o : Oper) (yes no : Env → Option ρ) : Option ρ := match o.guard with
  | none => yes e
  | some (j, want) => match (ops[j]?).bind (·.dst) with
    | some t => match e.get t with
      | .v (.c (.s (.bool b))) => cond (b == want) (yes (know (.tmp t) want e)) (no (know (.tmp t) (!want) e))
      | _ => none
    | none => none
theorem guardK_ok {ops : Array Oper} {e : Env} {o : Oper} {yes no : Env → Option ρ} {r : ρ} (h : guardK ops e o yes no = some r) : (gOk ops e o = some true ∧ yes e = some r) ∨ (gOk ops e o = some false ∧ no e = some r) := by
  unfold guardK at h
  unfold gOk
  split at h
  · rename_i hg; rw [hg]; exact .inl ⟨rfl, h⟩
  · rename_i j want hg
    simp only [hg]
    split at h
    · rename_i t ht
      simp only [ht]
      split at h
      · rename_i b hb
        simp only [hb]
        rcases cond_some h with ⟨h1, h⟩ | ⟨h1, h⟩
        · have h2 : b = want := by simpa using h1
          rw [know_same (by rw [← h2]; exact hb)] at h
          exact .inl ⟨by rw [h1], h⟩
        · have h2 : b = !want := by cases b <;> cases want <;> simp_all
          rw [know_same (by rw [← h2]; exact hb)] at h
          exact .inr ⟨by rw [h1], h⟩
      · cases h
    · cases h
def evOpsK (P : Program) (E : Bool) (call : CallK ρ) (n : Nat) (ops : Array Oper) : List Oper → St → (St → Option ρ) → Option ρ
  | [], st, κ => κ st
  | o :: r, st, κ => guardK ops st.env o
      (fun e0 => evOpK P E call o (evA e0) st.heap fun y => match putD n o.dst y.1 e0 with
        | some e => evOpsK P E call n ops r ⟨e, y.2.1, st.dirty ++ y.2.2⟩ κ
        | none => none)
      (fun e0 => match putD n o.dst .any e0 with
        | some e => evOpsK P E call n ops r ⟨e, st.heap, st.dirty⟩ κ
        | none => none)
theorem evOpsK_ok {P : Program} {E : Bool} {call : CallF} {callk : CallK ρ} (hc : Refines call callk) {n : Nat} {ops : Array Oper} : ∀ {l : List Oper} {st : St} {κ : St → Option ρ} {r : ρ}, evOpsK P E callk n ops l st κ = some r → ∃ y, evOps P call n ops l st = some y ∧ κ y = some r
  | [], st, κ, r, h => ⟨st, rfl, h⟩
  | o :: l, st, κ, r, h => by
    unfold evOpsK at h
    unfold evOps
    rcases guardK_ok h with ⟨hg, h⟩ | ⟨hg, h⟩
    · rw [hg]
      obtain ⟨y, hy, h⟩ := evOpK_ok hc h
      simp only [hy, Option.bind_some]
      split at h
      · rename_i e he
        rw [he]
        exact evOpsK_ok hc h
      · cases h
    · rw [hg]
      simp only
      split at h
      · rename_i e he
        rw [he]
        exact evOpsK_ok hc h
      · cases h
def evRK (P : Program) (E : Bool) (call : CallK ρ) (o : Oper) (ρv : Operand → SV) (H : Heap) (κ : SV → Option ρ) : Option ρ := match o.op with
  | .call c => match c.callee with
    | .builtin b => match b with
      | .append => none
      | b => (evBuiltin P b c o.type ρv H).bind fun y => κ y.1
    | .value f => match ρv f with
      | .v (.c (.fn fid cap)) => match avsOf ρv c.args.toList with
        | some l => call fid (l ++ cap.map ptrAV) H fun y => match y.2.2 with
          | [] => cond (noIdS y.1) (κ y.1) none
          | _ => none
        | none => none
      | _ => none
    | .invoke _ _ => none
  | .alloc _ | .box _ _ | .store _ _ _ => none
  | .binOp op t x y _ => binK P op t x y (ρv x) (ρv y) fun v => match outV v with
    | some r => κ r
    | none => none
  | .indexAddr t x i => idxK P E t (ρv x) (ρv i) κ
  | .pick c a b => match ρv c with
    | .v (.c (.s (.bool t))) => cond t (κ (ρv a)) (κ (ρv b))
    | _ => none
  | op => (evSimple P op ρv H).bind fun y => κ y.1
theorem evRK_ok {P : Program} {E : Bool} {call : CallF} {callk : CallK ρ} (hc : Refines call callk) {o : Oper} {ρv : Operand → SV} {H : Heap} {κ : SV → Option ρ} {r : ρ} (h : evRK P E callk o ρv H κ = some r) :
    ∃ y, evR P call o ρv H = some y ∧ κ y = some r := by
  unfold evRK at h
  unfold evR
  split at h
  · rename_i c hop
    simp only [hop]
    split at h
    · rename_i b hb
      simp only [hb]
      split at h
      · cases h
      · obtain ⟨y, hy, h⟩ := Option.bind_eq_some_iff.1 h
        refine ⟨y.1, ?_, h⟩
        split
        · rename_i hne; exact absurd rfl hne
        · rw [hy]; rfl
    · rename_i f hf
      simp only [hf]
      split at h
      · rename_i fid cap he
        simp only [he]
        split at h
        · rename_i l hl
          rw [hl]
          obtain ⟨y, hy, h⟩ := hc _ _ _ _ _ h
          simp only [Option.bind_some, hy]
          split at h
          · rename_i hD
            obtain ⟨hn, h⟩ := cond_none h
            exact ⟨y.1, by simp only [hD, hn, if_true], h⟩
          · cases h
        · cases h
      · cases h
    · cases h
  · cases h
  · cases h
  · cases h
  · rename_i op t x y yt hop
    simp only [hop]
    obtain ⟨v, hv, h⟩ := binK_ok h
    split at h
    · rename_i z hz
      exact ⟨_, by simp only [evSimple, hv, Option.bind_some, hz, Option.map_some], h⟩
    · cases h
  · rename_i t x i hop
    simp only [hop]
    obtain ⟨y, hy, h⟩ := idxK_ok h
    obtain ⟨i0, hi, hy⟩ := Option.bind_eq_some_iff.1 hy
    exact ⟨_, by simp only [evSimple, hi, Option.bind_some, hy, Option.map_some], h⟩
  · rename_i c a b hop
    simp only [hop]
    split at h
    · rename_i t ht
      rcases cond_some h with ⟨rfl, h⟩ | ⟨rfl, h⟩
      · exact ⟨_, by simp only [evSimple, ht, if_true, Option.map_some], h⟩
      · exact ⟨_, by simp only [evSimple, ht, Bool.false_eq_true, if_false, Option.map_some], h⟩
    · cases h
  · rename_i op h1 h2 h3 h4 h5 h6 h7
    obtain ⟨y, hy, h⟩ := Option.bind_eq_some_iff.1 h
    refine ⟨y.1, ?_, h⟩
    split
    · rename_i c hop; exact absurd hop (h1 _)
    · rename_i hop; exact absurd hop (h2 _)
    · rename_i hop; exact absurd hop (h3 _ _)
    · rename_i hop; exact absurd hop (h4 _ _ _)
    · rw [hy]; rfl
def evPreK (P : Program) (E : Bool) (call : CallK ρ) (n : Nat) (ops : Array Oper) (H : Heap) : List Oper → Env → (Env → Option ρ) → Option ρ
  | [], e, κ => κ e
  | o :: r, e, κ => guardK ops e o
      (fun e0 => evRK P E call o (evA e0) H fun sv => match putD n o.dst sv e0 with
        | some e => evPreK P E call n ops H r e κ
        | none => none)
      (fun e0 => match putD n o.dst .any e0 with
        | some e => evPreK P E call n ops H r e κ
        | none => none)
theorem evPreK_ok {P : Program} {E : Bool} {call : CallF} {callk : CallK ρ} (hc : Refines call callk) {n : Nat} {ops : Array Oper} {H : Heap} : ∀ {l : List Oper} {e : Env} {κ : Env → Option ρ} {r : ρ}, evPreK P E callk n ops H l e κ = some r → ∃ y, evPre P call n ops H l e = some y ∧ κ y = some r
  | [], e, κ, r, h => ⟨e, rfl, h⟩
  | o :: l, e, κ, r, h => by
    unfold evPreK at h
    unfold evPre
    rcases guardK_ok h with ⟨hg, h⟩ | ⟨hg, h⟩
    · rw [hg]
      obtain ⟨y, hy, h⟩ := evRK_ok hc h
      simp only [hy, Option.bind_some]
      split at h
      · rename_i e' he
        rw [he]
        exact evPreK_ok hc h
      · cases h
    · rw [hg]
      simp only
      split at h
      · rename_i e' he
        rw [he]
        exact evPreK_ok hc h
      · cases h
def evDrawK (P : Program) (E : Bool) (call : CallK ρ) (n : Nat) (ops : Array Oper) (st : St) (κ : St → Option ρ) : Option ρ :=
  cond (edgesOk ops.toList 0 && slotsOk ops (befs ops.toList []) && seqFrom (befs ops.toList []) (cutAt ops.toList) ops.size)
    (evPreK P E call n ops st.heap (ops.toList.take (cutAt ops.toList)) st.env fun e => evOpsK P E call n ops (ops.toList.drop (cutAt ops.toList)) ⟨e, st.heap, st.dirty⟩ κ)
    none
theorem evDrawK_ok {P : Program} {E : Bool} {call : CallF} {callk : CallK ρ} (hc : Refines call callk) {n : Nat} {ops : Array Oper} {st : St} {κ : St → Option ρ} {r : ρ} (h : evDrawK P E callk n ops st κ = some r) : ∃ y, evDraw P call n ops st = some y ∧ κ y = some r := by
  unfold evDrawK at h
  obtain ⟨h1, h⟩ := cond_none h
  simp only [Bool.and_eq_true] at h1
  obtain ⟨e, he, h⟩ := evPreK_ok hc h
  obtain ⟨y, hy, h⟩ := evOpsK_ok hc h
  refine ⟨y, ?_, h⟩
  unfold evDraw
  simp only
  rw [if_pos ⟨h1.1.1, h1.1.2, h1.2⟩, he]
  exact hy
end
end Go.Proofs.Ytalnfojlmkebnaa.AI
