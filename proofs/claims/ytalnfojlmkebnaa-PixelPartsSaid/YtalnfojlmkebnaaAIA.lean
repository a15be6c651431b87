/- An abstract machine for the program's code, and what it says of the machine's own runs. -/
import Derived.Calls
import Derived.LoopN
import Derived.Below
import Derived.Laws.World
import Derived.Laws.Sem
import Derived.Laws.Cells
import Derived.Laws.Entries
namespace Go.Proofs.Ytalnfojlmkebnaa.AI
open Go Go.RowKit
set_option linter.unusedVariables false
set_option linter.unusedSimpArgs false
/-! An abstract machine for the program's code: slices are lists, a variable in memory is a numbered box, a call gives its answer and the boxes that are left. -/
inductive PC where
  | s (v : Value)
  | row (l : List (List PC))
inductive AC where
  | s (v : Value)
  | row (l : List (List PC))
  | full (l : List (List PC))
  | own (r : Nat) (l : List (List PC))
  | ptr (b off : Nat)
  | rptr (c : List PC)
  | fn (f : Nat) (cap : List (Nat × Nat))
inductive AV where
  | c (a : AC)
  | agg (l : List AC)
inductive SV where
  | any
  | v (x : AV)
  | tup (l : List AV)
/-- A place of the abstract memory: a variable's cells; the right to append to a row; a right that is used up. -/
inductive Blk where
  | cells (l : List AC)
  | right (sz : Nat)
  | gone
abbrev Heap := List Blk
abbrev Env := List (Nat × SV)
def Env.get : Env → Nat → SV
  | [], _ => .any
  | (t, v) :: r, u => if t = u then v else Env.get r u
def Env.put : Env → Nat → SV → Env
  | [], t, v => [(t, v)]
  | (t', v') :: r, t, v => if t' = t then (t, v) :: r else (t', v') :: Env.put r t v
def Env.drop (ts : List Nat) (e : Env) : Env := e.filter fun p => !ts.contains p.1
def one (v : Value) : Bool := match v with | .agg _ | .tuple _ => false | _ => true
def ofVal (v : Value) : AV := match v with | .agg cs => .agg (cs.toList.map .s) | v => .c (.s v)
def constSV (v : Value) : SV := match v with
  | .tuple _ => .any
  | .agg cs => if cs.all one then .v (.agg (cs.toList.map .s)) else .any
  | v => .v (.c (.s v))
def evA (e : Env) : Operand → SV
  | .tmp t => e.get t
  | .const v => constSV v
  | .func f => .v (.c (.fn f []))
  | .global _ => .any
def PC.ac : PC → AC | .s v => .s v | .row l => .row l
def AC.pc : AC → Option PC
  | .s v => some (.s v) | .row l => some (.row l) | .full l => some (.row l) | .own _ l => some (.row l) | _ => none
/-- A row's elements. -/
def AC.els : AC → Option (List (List PC))
  | .s (.slice none 0 0) => some [] | .row l => some l | .full l => some l | .own _ l => some l | _ => none
def AV.cells : AV → List AC | .c a => [a] | .agg l => l
def AC.exact : AC → Option Value | .s v => some v | _ => none
def AV.exact : AV → Option Value
  | .c (.s v) => some v
  | .agg l => (l.mapM AC.exact).map fun vs => .agg vs.toArray
  | _ => none
def SV.av : SV → Option AV | .v x => some x | _ => none
def SV.exact (s : SV) : Option Value := s.av.bind AV.exact
def SV.int : SV → Option Int | .v (.c (.s (.int _ n))) => some n | _ => none
def pureRun (P : Program) {α : Type} : Sem α → Option α
  | .pure a => some a
  | .program k => pureRun P (k P)
  | _ => none
theorem pureRun_run {P : Program} {α : Type} {e : Sem α} {a : α} (h : pureRun P e = some a) (W : World) : e.run P W = .ok a W := by
  induction e with
  | pure b => simp only [pureRun, Option.some.injEq] at h; subst h; rfl
  | program k ih => simp only [pureRun] at h; exact ih P h
  | _ => simp [pureRun] at h
def aggT (P : Program) (t : TypeId) : Option Bool := match P.underlying t with
  | some (.struct _) | some (.array _ _) => some true
  | some _ => some false
  | none => none
def szT (P : Program) (t : TypeId) : Option Nat := (P.info? t).map (·.size)
def zeroT (P : Program) (t : TypeId) : Option Value := (P.info? t).bind (·.zero)
/-- What a load finds in the cells from an address on. -/
def ldCells (P : Program) (t : TypeId) (cs : List AC) : Option AV := match aggT P t with
  | some true => (szT P t).bind fun n => if n ≤ cs.length then some (.agg (cs.take n)) else none
  | some false => cs.head?.map .c
  | none => none
def splice {α : Type} (l : List α) (off : Nat) (cs : List α) : List α := l.take off ++ (cs ++ l.drop (off + cs.length))
def evLoad (P : Program) (t : TypeId) (x : SV) (H : Heap) : Option AV := match x with
  | .v (.c (.ptr b off)) => match H[b]? with
    | some (.cells l) => ldCells P t (l.drop off)
    | _ => none
  | .v (.c (.rptr c)) => ldCells P t (c.map PC.ac)
  | _ => none
def evStore (P : Program) (t : TypeId) (x y : SV) (H : Heap) : Option (Heap × List Nat) := match x, y with
  | .v (.c (.ptr b off)), .v y => match H[b]? with
    | some (.cells l) => if szT P t = some y.cells.length ∧ off + y.cells.length ≤ l.length then some (H.set b (.cells (splice l off y.cells)), [b]) else none
    | _ => none
  | _, _ => none
def fillA (place : Nat → Option (Nat × Nat)) : List AC → List (Nat × AV) → Option (List AC)
  | cells, [] => some cells
  | cells, (i, v) :: rest => match place i with
    | none => none
    | some (off, size) => if v.cells.length = size ∧ off + v.cells.length ≤ cells.length then fillA place (splice cells off v.cells) rest else none
def partsA (ρ : Operand → SV) : List (Nat × Operand) → Option (List (Nat × AV))
  | [] => some []
  | (i, x) :: r => (ρ x).av.bind fun v => (partsA ρ r).map fun l => (i, v) :: l
def chunks {α : Type} (sz : Nat) : Nat → List α → List (List α)
  | 0, _ => []
  | n + 1, l => l.take sz :: chunks sz n (l.drop sz)
def toPC (l : List (List AC)) : Option (List (List PC)) := l.mapM fun c => c.mapM AC.pc
def elemT (P : Program) (t : TypeId) : Option TypeId := match P.underlying t with | some (.slice e) => some e | _ => none
def bounds (ρ : Operand → SV) (n : Nat) (lo hi : Option Operand) : Option (Nat × Nat) :=
  (match hi with | none => some n | some x => (ρ x).int.bind fun i => if 0 ≤ i ∧ i ≤ n then some i.toNat else none).bind fun h =>
  (match lo with | none => some 0 | some x => (ρ x).int.bind fun i => if 0 ≤ i ∧ i ≤ h then some i.toNat else none).map fun l => (l, h)
/-! What an abstract value says of a value in a world. -/
structure Gh where
  blk : Nat → Nat
  rt : Nat → Value
  sz : Nat → Nat
  imm : Nat → Nat → Prop
inductive PR (W : World) (imm : Nat → Nat → Prop) : PC → Value → Prop
  | s (v : Value) (h : one v = true) : PR W imm (.s v) v
  | nil : PR W imm (.row []) (.slice none 0 0)
  | emp (a : Addr) (cap : Nat) (hm : cap ≤ maxLen) : PR W imm (.row []) (.slice (some a) 0 cap)
  | row (l : List (List PC)) (sz b o cap : Nat) (u : Nat → Nat → Value) (hc : l.length ≤ cap) (hm : cap ≤ maxLen) (hs : ∀ c ∈ l, c.length = sz)
      (hi : ∀ i c, l[i]? = some c → ∀ j p, c[j]? = some p → imm b (o + i * sz + j) ∧ W.cell? ⟨b, o + i * sz + j, none⟩ = some (u i j))
      (hp : ∀ i c, l[i]? = some c → ∀ j p, c[j]? = some p → PR W imm p (u i j)) : PR W imm (.row l) (.slice (some ⟨b, o, none⟩) l.length cap)
/-- Later: what may not change is as it was. -/
structure Keeps (W : World) (imm : Nat → Nat → Prop) (W' : World) (imm' : Nat → Nat → Prop) : Prop where
  sub : ∀ b o, imm b o → imm' b o
  same : ∀ b o, imm b o → W'.cell? ⟨b, o, none⟩ = W.cell? ⟨b, o, none⟩
theorem Keeps.refl (W : World) (imm) : Keeps W imm W imm := ⟨fun _ _ h => h, fun _ _ _ => rfl⟩
theorem Keeps.trans {W W1 W2 : World} {i i1 i2} (h : Keeps W i W1 i1) (k : Keeps W1 i1 W2 i2) : Keeps W i W2 i2 :=
  ⟨fun b o x => k.sub b o (h.sub b o x), fun b o x => (k.same b o (h.sub b o x)).trans (h.same b o x)⟩
theorem PR.mono {W W' : World} {i i' : Nat → Nat → Prop} (k : Keeps W i W' i') {p : PC} {v : Value} (h : PR W i p v) : PR W' i' p v := by
  induction h with
  | s v h => exact .s v h
  | nil => exact .nil
  | emp a cap hm => exact .emp a cap hm
  | row l sz b o cap u hc hm hs hi hp ih =>
    refine .row l sz b o cap u hc hm hs (fun i c hl j p hj => ?_) (fun i c hl j p hj => ih i c hl j p hj)
    obtain ⟨a, e⟩ := hi i c hl j p hj
    exact ⟨k.sub _ _ a, (k.same _ _ a).trans e⟩
theorem PR.one {W : World} {i} {p : PC} {v : Value} (h : PR W i p v) : one v = true := by cases h <;> first | assumption | rfl
/-- n: how many places the abstract memory has. -/
def AR (g : Gh) (W : World) (n : Nat) : AC → Value → Prop
  | .s v, u => one v = true ∧ u = v
  | .row l, u => PR W g.imm (.row l) u
  | .full l, u => PR W g.imm (.row l) u ∧ ∃ a, u = .slice a l.length l.length
  | .own r l, u => r < n ∧ u = g.rt r ∧ PR W g.imm (.row l) u ∧ ∀ c ∈ l, c.length = g.sz r
  | .ptr b off, u => b < n ∧ u = .pointer (some ⟨g.blk b, off, none⟩)
  | .rptr c, u => ∃ b o, u = .pointer (some ⟨b, o, none⟩) ∧ ∃ w : Nat → Value, ∀ j p, c[j]? = some p → g.imm b (o + j) ∧ W.cell? ⟨b, o + j, none⟩ = some (w j) ∧ PR W g.imm p (w j)
  | .fn f cap, u => ∃ C : Array Value, u = .func (.func f) #[] C ∧ C.toList = cap.map (fun x => .pointer (some ⟨g.blk x.1, x.2, none⟩)) ∧ ∀ x ∈ cap, x.1 < n
theorem AR.one {g : Gh} {W : World} {n : Nat} {a : AC} {u : Value} (h : AR g W n a u) : one u = true := by
  cases a with
  | s v => obtain ⟨h, rfl⟩ := h; exact h
  | row l => exact PR.one h
  | full l => exact PR.one h.1
  | own r l => exact PR.one h.2.2.1
  | ptr b off => obtain ⟨_, rfl⟩ := h; rfl
  | rptr c => obtain ⟨b, o, rfl, _⟩ := h; rfl
  | fn f cap => obtain ⟨C, rfl, _⟩ := h; rfl
/-- The ghost of later agrees with the elder one. -/
structure Ext (g : Gh) (W : World) (n : Nat) (g' : Gh) (W' : World) (n' : Nat) : Prop where
  le : n ≤ n'
  blk : ∀ b, b < n → g'.blk b = g.blk b
  rt : ∀ b, b < n → g'.rt b = g.rt b
  sz : ∀ b, b < n → g'.sz b = g.sz b
  keeps : Keeps W g.imm W' g'.imm
theorem Ext.refl (g : Gh) (W : World) (n : Nat) : Ext g W n g W n := ⟨Nat.le_refl _, fun _ _ => rfl, fun _ _ => rfl, fun _ _ => rfl, .refl _ _⟩
theorem Ext.trans {g g1 g2 : Gh} {W W1 W2 : World} {n n1 n2 : Nat} (h : Ext g W n g1 W1 n1) (k : Ext g1 W1 n1 g2 W2 n2) : Ext g W n g2 W2 n2 :=
  ⟨Nat.le_trans h.le k.le, fun b x => (k.blk b (Nat.lt_of_lt_of_le x h.le)).trans (h.blk b x), fun b x => (k.rt b (Nat.lt_of_lt_of_le x h.le)).trans (h.rt b x), fun b x => (k.sz b (Nat.lt_of_lt_of_le x h.le)).trans (h.sz b x), h.keeps.trans k.keeps⟩
theorem AR.mono {g g' : Gh} {W W' : World} {n n' : Nat} (k : Ext g W n g' W' n') {a : AC} {u : Value} (h : AR g W n a u) : AR g' W' n' a u := by
  cases a with
  | s v => exact h
  | row l => exact PR.mono k.keeps h
  | full l => exact ⟨PR.mono k.keeps h.1, h.2⟩
  | own r l => exact ⟨Nat.lt_of_lt_of_le h.1 k.le, h.2.1.trans (k.rt r h.1).symm, PR.mono k.keeps h.2.2.1, by rw [k.sz r h.1]; exact h.2.2.2⟩
  | ptr b off => exact ⟨Nat.lt_of_lt_of_le h.1 k.le, by rw [k.blk b h.1]; exact h.2⟩
  | rptr c =>
    obtain ⟨b, o, rfl, w, hw⟩ := h
    refine ⟨b, o, rfl, w, fun j p hj => ?_⟩
    obtain ⟨x, y, z⟩ := hw j p hj
    exact ⟨k.keeps.sub _ _ x, (k.keeps.same _ _ x).trans y, PR.mono k.keeps z⟩
  | fn f cap =>
    obtain ⟨C, rfl, hC, hn⟩ := h
    refine ⟨C, rfl, hC.trans (List.map_congr_left fun x hx => ?_), fun x hx => Nat.lt_of_lt_of_le (hn x hx) k.le⟩
    rw [k.blk _ (hn x hx)]
/-- As many cells, each told. -/
def ARs (g : Gh) (W : World) (n : Nat) : List AC → List Value → Prop
  | [], [] => True
  | a :: l, u :: r => AR g W n a u ∧ ARs g W n l r
  | _, _ => False
theorem ARs.mono {g g' : Gh} {W W' : World} {n n' : Nat} (k : Ext g W n g' W' n') : ∀ {l : List AC} {r : List Value}, ARs g W n l r → ARs g' W' n' l r
  | [], [], _ => trivial
  | a :: l, u :: r, h => ⟨AR.mono k h.1, ARs.mono k h.2⟩
  | [], _ :: _, h => h.elim
  | _ :: _, [], h => h.elim
theorem ARs.length {g : Gh} {W : World} {n : Nat} : ∀ {l : List AC} {r : List Value}, ARs g W n l r → r.length = l.length
  | [], [], _ => rfl
  | a :: l, u :: r, h => by simp [ARs.length h.2]
  | [], _ :: _, h => h.elim
  | _ :: _, [], h => h.elim
theorem ARs.append {g : Gh} {W : World} {n : Nat} : ∀ {l : List AC} {r : List Value} {l' : List AC} {r' : List Value}, ARs g W n l r → ARs g W n l' r' → ARs g W n (l ++ l') (r ++ r')
  | [], [], _, _, _, k => k
  | a :: l, u :: r, _, _, h, k => ⟨h.1, ARs.append h.2 k⟩
  | [], _ :: _, _, _, h, _ => h.elim
  | _ :: _, [], _, _, h, _ => h.elim
theorem ARs.take {g : Gh} {W : World} {n : Nat} : ∀ {l : List AC} {r : List Value} (m : Nat), ARs g W n l r → ARs g W n (l.take m) (r.take m)
  | [], [], m, _ => by simp [ARs]
  | a :: l, u :: r, 0, h => by simp [ARs]
  | a :: l, u :: r, m + 1, h => ⟨h.1, ARs.take m h.2⟩
  | [], _ :: _, _, h => h.elim
  | _ :: _, [], _, h => h.elim
theorem ARs.drop {g : Gh} {W : World} {n : Nat} : ∀ {l : List AC} {r : List Value} (m : Nat), ARs g W n l r → ARs g W n (l.drop m) (r.drop m)
  | [], [], m, _ => by simp [ARs]
  | a :: l, u :: r, 0, h => h
  | a :: l, u :: r, m + 1, h => ARs.drop (l := l) m h.2
  | [], _ :: _, _, h => h.elim
  | _ :: _, [], _, h => h.elim
theorem ARs.spl {g : Gh} {W : World} {n : Nat} {l l' : List AC} {r r' : List Value} (o : Nat) (h : ARs g W n l r) (k : ARs g W n l' r') : ARs g W n (splice l o l') (splice r o r') := by
  unfold splice
  rw [k.length]
  exact (h.take o).append (k.append (h.drop _))
theorem ARs.get {g : Gh} {W : World} {n : Nat} : ∀ {l : List AC} {r : List Value} {i : Nat} {a : AC}, ARs g W n l r → l[i]? = some a → ∃ u, r[i]? = some u ∧ AR g W n a u
  | a :: l, u :: r, 0, b, h, e => by simp at e; subst e; exact ⟨u, by simp, h.1⟩
  | a :: l, u :: r, i + 1, b, h, e => by simp at e; obtain ⟨v, x, y⟩ := ARs.get h.2 e; exact ⟨v, by simpa using x, y⟩
  | [], [], _, _, _, e => by simp at e
  | [], _ :: _, _, _, h, _ => h.elim
  | _ :: _, [], _, _, h, _ => h.elim
theorem ARs.of_get {g : Gh} {W : World} {n : Nat} : ∀ {l : List AC} {r : List Value}, r.length = l.length → (∀ (i : Nat) (a : AC) (u : Value), l[i]? = some a → r[i]? = some u → AR g W n a u) → ARs g W n l r
  | [], [], _, _ => trivial
  | a :: l, u :: r, e, h => ⟨h 0 a u (by simp) (by simp), ARs.of_get (by simpa using e) fun i b v hb hv => h (i + 1) b v (by simpa using hb) (by simpa using hv)⟩
  | [], _ :: _, e, _ => by simp at e
  | _ :: _, [], e, _ => by simp at e
theorem ARs.one {g : Gh} {W : World} {n : Nat} : ∀ {l : List AC} {r : List Value}, ARs g W n l r → ∀ u ∈ r, one u = true
  | [], [], _, u, hu => by simp at hu
  | a :: l, v :: r, h, u, hu => by
    rcases List.mem_cons.1 hu with rfl | hu
    · exact h.1.one
    · exact ARs.one h.2 u hu
  | [], _ :: _, h, _, _ => h.elim
  | _ :: _, [], h, _, _ => h.elim
def AVR (g : Gh) (W : World) (n : Nat) : AV → Value → Prop
  | .c a, u => AR g W n a u
  | .agg l, u => ∃ C : Array Value, u = .agg C ∧ ARs g W n l C.toList
theorem AVR.mono {g g' : Gh} {W W' : World} {n n' : Nat} (k : Ext g W n g' W' n') {a : AV} {u : Value} (h : AVR g W n a u) : AVR g' W' n' a u := by
  cases a with
  | c a => exact AR.mono k h
  | agg l => obtain ⟨C, e, h⟩ := h; exact ⟨C, e, h.mono k⟩
theorem cells_one {v : Value} (h : one v = true) : v.cells = #[v] := by cases v <;> first | rfl | simp [Go.Proofs.Ytalnfojlmkebnaa.AI.one] at h
theorem AVR.cells {g : Gh} {W : World} {n : Nat} {a : AV} {u : Value} (h : AVR g W n a u) : ARs g W n a.cells u.cells.toList := by
  cases a with
  | c a => rw [cells_one (AR.one h)]; exact ⟨h, trivial⟩
  | agg l => obtain ⟨C, rfl, h⟩ := h; exact h
def AVRs (g : Gh) (W : World) (n : Nat) : List AV → List Value → Prop
  | [], [] => True
  | a :: l, u :: r => AVR g W n a u ∧ AVRs g W n l r
  | _, _ => False
theorem AVRs.mono {g g' : Gh} {W W' : World} {n n' : Nat} (k : Ext g W n g' W' n') : ∀ {l : List AV} {r : List Value}, AVRs g W n l r → AVRs g' W' n' l r
  | [], [], _ => trivial
  | a :: l, u :: r, h => ⟨AVR.mono k h.1, AVRs.mono k h.2⟩
  | [], _ :: _, h => h.elim
  | _ :: _, [], h => h.elim
theorem AVRs.length {g : Gh} {W : World} {n : Nat} : ∀ {l : List AV} {r : List Value}, AVRs g W n l r → r.length = l.length
  | [], [], _ => rfl
  | a :: l, u :: r, h => by simp [AVRs.length h.2]
  | [], _ :: _, h => h.elim
  | _ :: _, [], h => h.elim
theorem AVRs.append {g : Gh} {W : World} {n : Nat} : ∀ {l : List AV} {r : List Value} {l' : List AV} {r' : List Value}, AVRs g W n l r → AVRs g W n l' r' → AVRs g W n (l ++ l') (r ++ r')
  | [], [], _, _, _, k => k
  | a :: l, u :: r, _, _, h, k => ⟨h.1, AVRs.append h.2 k⟩
  | [], _ :: _, _, _, h, _ => h.elim
  | _ :: _, [], _, _, h, _ => h.elim
theorem AVRs.get {g : Gh} {W : World} {n : Nat} : ∀ {l : List AV} {r : List Value} {i : Nat} {a : AV}, AVRs g W n l r → l[i]? = some a → ∃ u, r[i]? = some u ∧ AVR g W n a u
  | a :: l, u :: r, 0, b, h, e => by simp at e; subst e; exact ⟨u, by simp, h.1⟩
  | a :: l, u :: r, i + 1, b, h, e => by simp at e; obtain ⟨v, x, y⟩ := AVRs.get h.2 e; exact ⟨v, by simpa using x, y⟩
  | [], [], _, _, _, e => by simp at e
  | [], _ :: _, _, _, h, _ => h.elim
  | _ :: _, [], _, _, h, _ => h.elim
def SVR (g : Gh) (W : World) (n : Nat) : SV → Value → Prop
  | .any, _ => True
  | .v x, u => AVR g W n x u
  | .tup l, u => ∃ C : Array Value, u = .tuple C ∧ AVRs g W n l C.toList
theorem SVR.mono {g g' : Gh} {W W' : World} {n n' : Nat} (k : Ext g W n g' W' n') {a : SV} {u : Value} (h : SVR g W n a u) : SVR g' W' n' a u := by
  cases a with
  | any => trivial
  | v a => exact AVR.mono k h
  | tup l => obtain ⟨C, e, h⟩ := h; exact ⟨C, e, h.mono k⟩
def roomy (g : Gh) (b : Nat) : Blk → Prop
  | .cells _ => True
  | .right _ => ∃ a len cap, g.rt b = .slice a len cap ∧ len < cap
  | .gone => False
/-- The abstract memory, told of a world. -/
structure HR (g : Gh) (H : Heap) (W : World) : Prop where
  cells : ∀ b l, H[b]? = some (.cells l) → ∃ C e, W.heap[g.blk b]? = some (.cells C e (0, 0)) ∧ ARs g W H.length l C.toList ∧ ∀ o, ¬ g.imm (g.blk b) o
  right : ∀ r s, H[r]? = some (.right s) → g.sz r = s ∧ ∃ a len cap, g.rt r = .slice a len cap ∧ len ≤ cap ∧ (len < cap → ∃ o C e, a = some ⟨g.blk r, o, none⟩ ∧ W.heap[g.blk r]? = some (.cells C e (0, 0)) ∧ o + cap * s ≤ C.size ∧ ∀ o', o + len * s ≤ o' → o' < o + cap * s → ¬ g.imm (g.blk r) o')
  apart : ∀ b b' x x', H[b]? = some x → H[b']? = some x' → b ≠ b' → roomy g b x → roomy g b' x' → g.blk b ≠ g.blk b'
  imm : ∀ b o, g.imm b o → ∃ v, W.cell? ⟨b, o, none⟩ = some v
def ER (g : Gh) (W : World) (n : Nat) (e : Env) (tmps : Array Value) : Prop := ∀ t, SVR g W n (e.get t) (tmps.getD t undef)
/-- From one state to a later one: D names the places that were there and may have changed. -/
structure Step (g : Gh) (H : Heap) (W : World) (g' : Gh) (H' : Heap) (W' : World) (D : List Nat) : Prop where
  hr : HR g' H' W'
  ext : Ext g W H.length g' W' H'.length
  os : W'.os = W.os
  tape : W'.tape = W.tape
  output : W'.output = W.output
  size : W.heap.size ≤ W'.heap.size
  fr : ∀ B, B < W.heap.size → (∀ d ∈ D, ∀ x, H[d]? = some x → roomy g d x → B ≠ g.blk d) → W'.heap[B]? = W.heap[B]?
  old : ∀ d x', d < H.length → H'[d]? = some x' → roomy g' d x' → ∃ x, H[d]? = some x ∧ roomy g d x
  new : ∀ d x', H.length ≤ d → H'[d]? = some x' → roomy g' d x' → W.heap.size ≤ g'.blk d ∨ ∃ d0 ∈ D, ∃ x, H[d0]? = some x ∧ roomy g d0 x ∧ g'.blk d = g.blk d0
  clean : ∀ d, d < H.length → d ∉ D → H'[d]? = H[d]?
  fresh : ∀ b o, g'.imm b o → g.imm b o ∨ W.heap.size ≤ b ∨ ∃ d ∈ D, ∃ x, H[d]? = some x ∧ roomy g d x ∧ b = g.blk d
theorem Step.refl {g : Gh} {H : Heap} {W : World} (h : HR g H W) : Step g H W g H W [] :=
  ⟨h, .refl _ _ _, rfl, rfl, rfl, Nat.le_refl _, fun _ _ _ => rfl, fun d x _ hx hr => ⟨x, hx, hr⟩, fun d x hd hx _ => (by rw [List.getElem?_eq_none hd] at hx; cases hx), fun _ _ _ => rfl, fun _ _ h => .inl h⟩
theorem lt_of_get {α : Type} {l : List α} {i : Nat} {x : α} (h : l[i]? = some x) : i < l.length := (List.getElem?_eq_some_iff.1 h).1
theorem Step.trans {g g1 g2 : Gh} {H H1 H2 : Heap} {W W1 W2 : World} {D D' : List Nat} (h : Step g H W g1 H1 W1 D) (k : Step g1 H1 W1 g2 H2 W2 D') : Step g H W g2 H2 W2 (D ++ D') := by
  refine ⟨k.hr, h.ext.trans k.ext, k.os.trans h.os, k.tape.trans h.tape, k.output.trans h.output, Nat.le_trans h.size k.size, ?_, ?_, ?_, ?_, ?_⟩
  · intro B hB hD
    rw [k.fr B (Nat.lt_of_lt_of_le hB h.size) ?_, h.fr B hB (fun d hd => hD d (List.mem_append_left _ hd))]
    intro d hd x hx hr
    by_cases hn : d < H.length
    · obtain ⟨x0, hx0, hr0⟩ := h.old d x hn hx hr
      rw [h.ext.blk d hn]
      exact hD d (List.mem_append_right _ hd) x0 hx0 hr0
    · rcases h.new d x (by omega) hx hr with hb | ⟨d0, hd0, x0, hx0, hr0, e⟩
      · omega
      · rw [e]; exact hD d0 (List.mem_append_left _ hd0) x0 hx0 hr0
  · intro d x hd hx hr
    obtain ⟨x1, hx1, hr1⟩ := k.old d x (Nat.lt_of_lt_of_le hd h.ext.le) hx hr
    exact h.old d x1 hd hx1 hr1
  · intro d x hd hx hr
    by_cases hn : d < H1.length
    · obtain ⟨x1, hx1, hr1⟩ := k.old d x hn hx hr
      rw [k.ext.blk d hn]
      rcases h.new d x1 hd hx1 hr1 with hb | ⟨d0, hd0, r⟩
      · exact .inl hb
      · exact .inr ⟨d0, List.mem_append_left _ hd0, r⟩
    · rcases k.new d x (by omega) hx hr with hb | ⟨d1, hd1, x1, hx1, hr1, e⟩
      · exact .inl (Nat.le_trans h.size hb)
      · by_cases hn1 : d1 < H.length
        · obtain ⟨x0, hx0, hr0⟩ := h.old d1 x1 hn1 hx1 hr1
          exact .inr ⟨d1, List.mem_append_right _ hd1, x0, hx0, hr0, e.trans (h.ext.blk d1 hn1)⟩
        · rcases h.new d1 x1 (by omega) hx1 hr1 with hb | ⟨d0, hd0, x0, hx0, hr0, e0⟩
          · exact .inl (by omega)
          · exact .inr ⟨d0, List.mem_append_left _ hd0, x0, hx0, hr0, e.trans e0⟩
  · intro d hd hD
    rw [k.clean d (Nat.lt_of_lt_of_le hd h.ext.le) (fun x => hD (List.mem_append_right _ x)), h.clean d hd (fun x => hD (List.mem_append_left _ x))]
  · intro b o hi
    rcases k.fresh b o hi with hi | hb | ⟨d1, hd1, x1, hx1, hr1, rfl⟩
    · rcases h.fresh b o hi with hi | hb | ⟨d0, hd0, y⟩
      · exact .inl hi
      · exact .inr (.inl hb)
      · exact .inr (.inr ⟨d0, List.mem_append_left _ hd0, y⟩)
    · exact .inr (.inl (Nat.le_trans h.size hb))
    · by_cases hn1 : d1 < H.length
      · obtain ⟨x0, hx0, hr0⟩ := h.old d1 x1 hn1 hx1 hr1
        exact .inr (.inr ⟨d1, List.mem_append_right _ hd1, x0, hx0, hr0, h.ext.blk d1 hn1⟩)
      · rcases h.new d1 x1 (by omega) hx1 hr1 with hb | ⟨d0, hd0, x0, hx0, hr0, e0⟩
        · exact .inr (.inl hb)
        · exact .inr (.inr ⟨d0, List.mem_append_left _ hd0, x0, hx0, hr0, e0⟩)
theorem Step.sub {g g' : Gh} {H H' : Heap} {W W' : World} {D D' : List Nat} (h : Step g H W g' H' W' D) (hs : ∀ d ∈ D, d < H.length → d ∈ D') : Step g H W g' H' W' D' := by
  refine ⟨h.hr, h.ext, h.os, h.tape, h.output, h.size, fun B hB hD => h.fr B hB fun d hd x hx => hD d (hs d hd (lt_of_get hx)) x hx, h.old, fun d x hd hx hr => ?_, fun d hd hD => h.clean d hd fun x => hD (hs d x hd), fun b o hi => ?_⟩
  · rcases h.new d x hd hx hr with hb | ⟨d0, hd0, x0, hx0, r⟩
    · exact .inl hb
    · exact .inr ⟨d0, hs d0 hd0 (lt_of_get hx0), x0, hx0, r⟩
  · rcases h.fresh b o hi with hi | hb | ⟨d0, hd0, x0, hx0, r⟩
    · exact .inl hi
    · exact .inr (.inl hb)
    · exact .inr (.inr ⟨d0, hs d0 hd0 (lt_of_get hx0), x0, hx0, r⟩)
theorem cell_of_heap {W W' : World} {b o : Nat} (h : W'.heap[b]? = W.heap[b]?) : W'.cell? ⟨b, o, none⟩ = W.cell? ⟨b, o, none⟩ := by unfold World.cell?; rw [h]
theorem lt_of_cell {W : World} {b o : Nat} {v : Value} (h : W.cell? ⟨b, o, none⟩ = some v) : b < W.heap.size := by
  unfold World.cell? at h
  split at h
  · rename_i c e f hb; exact (Array.getElem?_eq_some_iff.1 hb).1
  · cases h
theorem lt_of_heap {W : World} {b : Nat} {o : Obj} (h : W.heap[b]? = some o) : b < W.heap.size := (Array.getElem?_eq_some_iff.1 h).1
theorem roomy_blk {g : Gh} {H : Heap} {W : World} (h : HR g H W) {d : Nat} {x : Blk} (hx : H[d]? = some x) (hr : roomy g d x) : g.blk d < W.heap.size := by
  cases x with
  | cells l => obtain ⟨C, e, hb, _⟩ := h.cells d l hx; exact lt_of_heap hb
  | right s =>
    obtain ⟨_, a, len, cap, e, _, hc⟩ := h.right d s hx
    obtain ⟨a', len', cap', e', hlt⟩ := hr
    rw [e] at e'
    cases e'
    obtain ⟨o, C, e, _, hb, _⟩ := hc hlt
    exact lt_of_heap hb
  | gone => exact hr.elim
/-- The world has grown; perhaps what is new may never change. -/
theorem Step.grow {g g' : Gh} {H : Heap} {W W' : World} (h : HR g H W) (os : W'.os = W.os) (tape : W'.tape = W.tape) (output : W'.output = W.output) (size : W.heap.size ≤ W'.heap.size)
    (fr : ∀ B, B < W.heap.size → W'.heap[B]? = W.heap[B]?) (eb : g'.blk = g.blk) (er : g'.rt = g.rt) (es : g'.sz = g.sz) (sub : ∀ b o, g.imm b o → g'.imm b o)
    (imm : ∀ b o, g'.imm b o → g.imm b o ∨ (W.heap.size ≤ b ∧ ∃ v, W'.cell? ⟨b, o, none⟩ = some v)) : Step g H W g' H W' [] := by
  have hk : Keeps W g.imm W' g'.imm := ⟨sub, fun b o hi => by obtain ⟨v, hv⟩ := h.imm b o hi; exact cell_of_heap (fr b (lt_of_cell hv))⟩
  have hx : Ext g W H.length g' W' H.length := ⟨Nat.le_refl _, fun b _ => by rw [eb], fun b _ => by rw [er], fun b _ => by rw [es], hk⟩
  have hro : ∀ d x, roomy g' d x → roomy g d x := by intro d x hr; cases x <;> simp only [roomy] at hr ⊢; rw [er] at hr; exact hr
  refine ⟨⟨?_, ?_, ?_, ?_⟩, hx, os, tape, output, size, fun B hB _ => fr B hB, fun d x _ hx hr => ⟨x, hx, hro d x hr⟩, fun d x hd hx _ => (by rw [List.getElem?_eq_none hd] at hx; cases hx), fun _ _ _ => rfl, fun b o hi => (imm b o hi).elim .inl fun x => .inr (.inl x.1)⟩
  · intro b l hb
    obtain ⟨C, e, hw, ha, hi⟩ := h.cells b l hb
    rw [eb]
    refine ⟨C, e, (fr _ (lt_of_heap hw)).trans hw, ha.mono hx, fun o ho => ?_⟩
    rcases imm _ _ ho with ho | ⟨ho, _⟩
    · exact hi o ho
    · have := lt_of_heap hw; omega
  · intro r s hr
    obtain ⟨e, a, len, cap, hrt, hl, hc⟩ := h.right r s hr
    rw [eb, er, es]
    refine ⟨e, a, len, cap, hrt, hl, fun hlt => ?_⟩
    obtain ⟨o, C, e, ha, hw, hs, hi⟩ := hc hlt
    refine ⟨o, C, e, ha, (fr _ (lt_of_heap hw)).trans hw, hs, fun o' h1 h2 ho => ?_⟩
    rcases imm _ _ ho with ho | ⟨ho, _⟩
    · exact hi o' h1 h2 ho
    · have := lt_of_heap hw; omega
  · intro b b' x x' hb hb' hne hr hr'
    rw [eb]
    exact h.apart b b' x x' hb hb' hne (hro _ _ hr) (hro _ _ hr')
  · intro b o ho
    rcases imm b o ho with ho | ⟨_, hv⟩
    · obtain ⟨v, hv⟩ := h.imm b o ho
      exact ⟨v, (cell_of_heap (fr b (lt_of_cell hv))).trans hv⟩
    · exact hv
/-- A new variable. -/
theorem Step.box {g : Gh} {H : Heap} {W : World} (h : HR g H W) {l : List AC} {C : Array Value} (e : TypeId) (ha : ARs g W H.length l C.toList) :
    Step g H W { g with blk := fun b => if b = H.length then W.heap.size else g.blk b } (H ++ [.cells l]) (W.alloc (.cells C e)) [] := by
  have hfr : ∀ B, B < W.heap.size → (W.alloc (.cells C e)).heap[B]? = W.heap[B]? := fun B hB => Below.heap_alloc _ _ _ hB
  have hk : Keeps W g.imm (W.alloc (.cells C e)) g.imm := ⟨fun _ _ h => h, fun b o hi => by obtain ⟨v, hv⟩ := h.imm b o hi; exact cell_of_heap (hfr b (lt_of_cell hv))⟩
  have hx : Ext g W H.length { g with blk := fun b => if b = H.length then W.heap.size else g.blk b } (W.alloc (.cells C e)) (H ++ [Blk.cells l]).length :=
    ⟨by simp, fun b hb => by show (if b = H.length then _ else _) = _; rw [if_neg (by omega)], fun _ _ => rfl, fun _ _ => rfl, hk⟩
  have hget : ∀ d x, (H ++ [Blk.cells l])[d]? = some x → (d < H.length ∧ H[d]? = some x) ∨ (d = H.length ∧ x = .cells l) := by
    intro d x hd
    rcases Nat.lt_trichotomy d H.length with hlt | rfl | hgt
    · rw [List.getElem?_append_left hlt] at hd; exact .inl ⟨hlt, hd⟩
    · simp at hd; exact .inr ⟨rfl, hd.symm⟩
    · rw [List.getElem?_eq_none (by simp; omega)] at hd; cases hd
  refine ⟨⟨?_, ?_, ?_, ?_⟩, hx, rfl, rfl, rfl, by simp, fun B hB _ => hfr B hB, ?_, ?_, fun d hd _ => List.getElem?_append_left hd, fun _ _ hi => .inl hi⟩
  · intro b l' hb
    rcases hget b _ hb with ⟨hlt, hb1⟩ | ⟨hb1, hb2⟩
    · obtain ⟨C', e', hw, ha', hi⟩ := h.cells b l' hb1
      have e1 : (if b = H.length then W.heap.size else g.blk b) = g.blk b := if_neg (by omega)
      show ∃ C e_1, (W.alloc (.cells _ e)).heap[if b = H.length then W.heap.size else g.blk b]? = _ ∧ _ ∧ ∀ o, ¬ g.imm (if b = H.length then W.heap.size else g.blk b) o
      rw [e1]
      exact ⟨C', e', (hfr _ (lt_of_heap hw)).trans hw, ha'.mono hx, hi⟩
    · cases hb2
      subst hb1
      show ∃ C e_1, (W.alloc (.cells _ e)).heap[if H.length = H.length then W.heap.size else g.blk H.length]? = _ ∧ _ ∧ ∀ o, ¬ g.imm (if H.length = H.length then W.heap.size else g.blk H.length) o
      rw [if_pos rfl]
      refine ⟨C, e, by show (W.heap.push _)[W.heap.size]? = _; simp, ha.mono hx, fun o ho => ?_⟩
      obtain ⟨v, hv⟩ := h.imm _ _ ho
      have := lt_of_cell hv; omega
  · intro r s hr
    rcases hget r _ hr with ⟨hlt, hr⟩ | ⟨_, hr⟩
    · obtain ⟨e0, a, len, cap, hrt, hl, hc⟩ := h.right r s hr
      refine ⟨e0, a, len, cap, hrt, hl, fun hcap => ?_⟩
      obtain ⟨o, C', e', ha', hw, hs, hi⟩ := hc hcap
      have e1 : (if r = H.length then W.heap.size else g.blk r) = g.blk r := if_neg (by omega)
      show ∃ o C e_1, a = some ⟨if r = H.length then W.heap.size else g.blk r, o, none⟩ ∧ (W.alloc (.cells _ e)).heap[if r = H.length then W.heap.size else g.blk r]? = _ ∧ _ ∧ ∀ o', _ → _ → ¬ g.imm (if r = H.length then W.heap.size else g.blk r) o'
      rw [e1]
      exact ⟨o, C', e', ha', (hfr _ (lt_of_heap hw)).trans hw, hs, hi⟩
    · cases hr
  · intro b b' x x' hb hb' hne hr hr'
    show (if b = H.length then W.heap.size else g.blk b) ≠ (if b' = H.length then W.heap.size else g.blk b')
    rcases hget b _ hb with ⟨hlt, hb⟩ | ⟨rfl, rfl⟩
    · have hr0 : roomy g b x := by cases x <;> exact hr
      rw [if_neg (by omega)]
      rcases hget b' _ hb' with ⟨hlt', hb'⟩ | ⟨rfl, rfl⟩
      · have hr0' : roomy g b' x' := by cases x' <;> exact hr'
        rw [if_neg (by omega)]
        exact h.apart b b' x x' hb hb' hne hr0 hr0'
      · rw [if_pos rfl]; have := roomy_blk h hb hr0; omega
    · rw [if_pos rfl]
      rcases hget b' _ hb' with ⟨hlt', hb'⟩ | ⟨rfl, rfl⟩
      · have hr0' : roomy g b' x' := by cases x' <;> exact hr'
        rw [if_neg (by omega)]; have := roomy_blk h hb' hr0'; omega
      · exact absurd rfl hne
  · intro b o ho
    obtain ⟨v, hv⟩ := h.imm b o ho
    exact ⟨v, (cell_of_heap (hfr b (lt_of_cell hv))).trans hv⟩
  · intro d x hd hx' hr
    rcases hget d _ hx' with ⟨_, hd'⟩ | ⟨e1, _⟩
    · exact ⟨x, hd', by cases x <;> exact hr⟩
    · omega
  · intro d x hd hx' hr
    rcases hget d _ hx' with ⟨hlt, _⟩ | ⟨rfl, _⟩
    · omega
    · left; show _ ≤ (if H.length = H.length then W.heap.size else g.blk H.length); rw [if_pos rfl]; exact Nat.le_refl _
/-- Cells of a block, one behind the other, are written. -/
def setCells (W : World) (b : Nat) : Nat → List Value → World
  | _, [] => W
  | o, v :: r => setCells (W.setCell ⟨b, o, none⟩ v) b (o + 1) r
theorem heap_setCell_at {W : World} {b o : Nat} {v : Value} {C : Array Value} {e : TypeId} {fr : Nat × Nat} (h : W.heap[b]? = some (.cells C e fr)) : (W.setCell ⟨b, o, none⟩ v).heap[b]? = some (.cells (C.setIfInBounds o v) e fr) := by
  simp only [World.setCell, Array.getElem?_modify, if_true, h, Option.map_some]
  rfl
theorem splice_cons {α : Type} (l : List α) (o : Nat) (v : α) (r : List α) (h : o + (r.length + 1) ≤ l.length) : splice (l.set o v) (o + 1) r = splice l o (v :: r) := by
  unfold splice
  rw [List.take_set, List.drop_set_of_lt (by omega), List.length_cons, show o + 1 + r.length = o + (r.length + 1) by omega]
  have : (List.take (o + 1) l).set o v = List.take o l ++ [v] := by
    rw [List.take_succ_eq_append_getElem (by omega), List.set_append, if_neg (by simp; omega)]
    simp [Nat.min_eq_left (show o ≤ l.length by omega)]
  rw [this]
  simp
theorem setCells_spec : ∀ (vs : List Value) (W : World) (b o : Nat) (C : Array Value) (e : TypeId), W.heap[b]? = some (.cells C e (0, 0)) → o + vs.length ≤ C.size → (∀ v ∈ vs, one v = true) →
    (∀ (P : Program), (storeCells ⟨b, o, none⟩ vs).run P W = .ok () (setCells W b o vs)) ∧ (setCells W b o vs).heap[b]? = some (.cells (splice C.toList o vs).toArray e (0, 0)) ∧ (∀ k, k ≠ b → (setCells W b o vs).heap[k]? = W.heap[k]?) ∧
      (setCells W b o vs).os = W.os ∧ (setCells W b o vs).tape = W.tape ∧ (setCells W b o vs).output = W.output ∧ (setCells W b o vs).heap.size = W.heap.size := by
  have key : ∀ (vs : List Value) (W : World) (b o i : Nat) (C : Array Value) (e : TypeId), W.heap[b]? = some (.cells C e (0, 0)) → o + i + vs.length ≤ C.size → (∀ v ∈ vs, one v = true) →
    (∀ (P : Program), (storeCells ⟨b, o, none⟩ vs i).run P W = .ok () (setCells W b (o + i) vs)) ∧ (setCells W b (o + i) vs).heap[b]? = some (.cells (splice C.toList (o + i) vs).toArray e (0, 0)) ∧ (∀ k, k ≠ b → (setCells W b (o + i) vs).heap[k]? = W.heap[k]?) ∧
      (setCells W b (o + i) vs).os = W.os ∧ (setCells W b (o + i) vs).tape = W.tape ∧ (setCells W b (o + i) vs).output = W.output ∧ (setCells W b (o + i) vs).heap.size = W.heap.size := by
    intro vs
    induction vs with
    | nil =>
      intro W b o i C e h hl ho
      refine ⟨fun P => rfl, ?_, fun _ _ => rfl, rfl, rfl, rfl, rfl⟩
      simp [setCells, splice, h]
    | cons v r ih =>
      intro W b o i C e h hl ho
      simp only [List.length_cons] at hl
      have h1 := heap_setCell_at (o := o + i) (v := v) h
      obtain ⟨a1, a2, a3, a4, a5, a6, a7⟩ := ih (W.setCell ⟨b, o + i, none⟩ v) b o (i + 1) (C.setIfInBounds (o + i) v) e h1 (by simp; omega) (fun x hx => ho x (List.mem_cons_of_mem _ hx))
      have hadd : (⟨b, o, none⟩ : Addr).add i = ⟨b, o + i, none⟩ := by
        unfold Addr.add; split
        · rename_i h0; subst h0; rfl
        · rfl
      refine ⟨fun P => ?_, ?_, fun k hk => ?_, a4, a5, a6, by rw [show o + (i + 1) = o + i + 1 by omega] at a7; exact a7.trans (by simp)⟩
      · have hc : W.cell? ⟨b, o + i, none⟩ = some (C[o + i]'(by omega)) := by
          unfold World.cell?; simp only [h]; simp
        have hf : W.frozen? ⟨b, o + i, none⟩ = false := by unfold World.frozen?; simp [h]
        have hv := ho v (List.mem_cons_self ..)
        unfold storeCells
        rw [hadd]
        have hb := a1 P
        show (Sem.store .plain _ v (storeCells ⟨b, o, none⟩ r (i + 1))).run P W = _
        have hs : (Sem.store .plain ⟨b, o + i, none⟩ v (storeCells ⟨b, o, none⟩ r (i + 1))).run P W = (storeCells ⟨b, o, none⟩ r (i + 1)).run P (W.setCell ⟨b, o + i, none⟩ v) := by
          cases v <;> first | (simp [one] at hv; done) | (simp [Sem.run, hc, hf])
        rw [hs, hb]
        rfl
      · show (setCells (W.setCell ⟨b, o + i, none⟩ v) b (o + i + 1) r).heap[b]? = _
        rw [show o + i + 1 = o + (i + 1) by omega, a2]
        congr 2
        rw [show o + (i + 1) = o + i + 1 by omega]
        rw [← splice_cons C.toList (o + i) v r (by simp; omega)]
        simp
      · show (setCells (W.setCell ⟨b, o + i, none⟩ v) b (o + i + 1) r).heap[k]? = _
        rw [show o + i + 1 = o + (i + 1) by omega, a3 k hk]
        exact Below.heap_setCell _ _ _ _ hk
  intro vs W b o C e h hl ho
  exact key vs W b o 0 C e h hl ho
/-- Cells of a variable are written. -/
theorem Step.store {g : Gh} {H : Heap} {W : World} (h : HR g H W) {b off : Nat} {l cs : List AC} {vs : List Value} (hb : H[b]? = some (.cells l)) (hl : off + cs.length ≤ l.length) (hv : ARs g W H.length cs vs) :
    (∀ P : Program, (storeCells ⟨g.blk b, off, none⟩ vs).run P W = .ok () (setCells W (g.blk b) off vs)) ∧ Step g H W g (H.set b (.cells (splice l off cs))) (setCells W (g.blk b) off vs) [b] := by
  obtain ⟨C, e, hw, ha, hi⟩ := h.cells b l hb
  have hlen := ha.length
  have hvl := hv.length
  obtain ⟨a1, a2, a3, a4, a5, a6, a7⟩ := setCells_spec vs W (g.blk b) off C e hw (by rw [hvl]; have : C.size = l.length := by rw [← hlen]; simp
                                                                                     omega) hv.one
  refine ⟨a1, ?_⟩
  have hk : Keeps W g.imm (setCells W (g.blk b) off vs) g.imm := ⟨fun _ _ h => h, fun b' o ho => cell_of_heap (a3 b' (fun e => hi o (e ▸ ho)))⟩
  have hx : Ext g W H.length g (setCells W (g.blk b) off vs) (H.set b (.cells (splice l off cs))).length := ⟨by simp, fun _ _ => rfl, fun _ _ => rfl, fun _ _ => rfl, hk⟩
  have hblt := lt_of_get hb
  have hget : ∀ d x, (H.set b (.cells (splice l off cs)))[d]? = some x → (d = b ∧ x = .cells (splice l off cs)) ∨ (d ≠ b ∧ H[d]? = some x) := by
    intro d x hd
    by_cases e : d = b
    · subst e; rw [List.getElem?_set_self hblt] at hd; exact .inl ⟨rfl, (Option.some.inj hd).symm⟩
    · rw [List.getElem?_set_ne (fun x => e x.symm)] at hd; exact .inr ⟨e, hd⟩
  have hne : ∀ d x, H[d]? = some x → roomy g d x → d ≠ b → g.blk d ≠ g.blk b := fun d x hd hr e => h.apart d b x _ hd hb e hr trivial
  refine ⟨⟨?_, ?_, ?_, ?_⟩, hx, a4, a5, a6, by rw [a7]; exact Nat.le_refl _, fun B hB hD => a3 B (hD b (List.mem_singleton.2 rfl) _ hb trivial), ?_, ?_, ?_, fun _ _ hi => .inl hi⟩
  · intro d l' hd
    rcases hget d _ hd with ⟨e1, e2⟩ | ⟨e1, hd⟩
    · cases e2
      subst e1
      refine ⟨_, e, a2, ?_, hi⟩
      have := (ha.spl off hv).mono hx
      simpa using this
    · obtain ⟨C', e', hw', ha', hi'⟩ := h.cells d l' hd
      exact ⟨C', e', (a3 _ (hne d _ hd trivial e1)).trans hw', ha'.mono hx, hi'⟩
  · intro r s hr
    rcases hget r _ hr with ⟨_, e2⟩ | ⟨e1, hr⟩
    · cases e2
    · obtain ⟨e0, a, len, cap, hrt, hle, hc⟩ := h.right r s hr
      refine ⟨e0, a, len, cap, hrt, hle, fun hcap => ?_⟩
      obtain ⟨o, C', e', ha', hw', hs, hi'⟩ := hc hcap
      exact ⟨o, C', e', ha', (a3 _ (hne r _ hr ⟨a, len, cap, hrt, hcap⟩ e1)).trans hw', hs, hi'⟩
  · intro d d' x x' hd hd' hdd hr hr'
    have f : ∀ d x, (H.set b (.cells (splice l off cs)))[d]? = some x → roomy g d x → ∃ y, H[d]? = some y ∧ roomy g d y := by
      intro d x hd hr
      rcases hget d x hd with ⟨e1, _⟩ | ⟨_, hd⟩
      · subst e1; exact ⟨_, hb, trivial⟩
      · exact ⟨x, hd, hr⟩
    obtain ⟨y, hy, hry⟩ := f d x hd hr
    obtain ⟨y', hy', hry'⟩ := f d' x' hd' hr'
    exact h.apart d d' y y' hy hy' hdd hry hry'
  · intro b' o ho
    obtain ⟨v, hv⟩ := h.imm b' o ho
    exact ⟨v, (hk.same b' o ho).trans hv⟩
  · intro d x hd hx' hr
    rcases hget d x hx' with ⟨e1, _⟩ | ⟨_, hd⟩
    · subst e1; exact ⟨_, hb, trivial⟩
    · exact ⟨x, hd, hr⟩
  · intro d x hd hx' hr
    rw [List.getElem?_eq_none (by simpa using hd)] at hx'
    cases hx'
  · intro d hd hD
    exact List.getElem?_set_ne (fun e => hD (by simp [e]))
/-- A right to append to a row that has no room, or whose room lies in a block that nobody else has. -/
theorem HR.addRight {g : Gh} {H : Heap} {W : World} (h : HR g H W) {s : Nat} {v : Value} {B : Nat} {a : Option Addr} {len cap : Nat} (hv : v = .slice a len cap) (hle : len ≤ cap)
    (hc : len < cap → (∀ d x, H[d]? = some x → roomy g d x → g.blk d ≠ B) ∧ ∃ o C e, a = some ⟨B, o, none⟩ ∧ W.heap[B]? = some (.cells C e (0, 0)) ∧ o + cap * s ≤ C.size ∧ ∀ o', o + len * s ≤ o' → o' < o + cap * s → ¬ g.imm B o') :
    HR { g with blk := fun b => if b = H.length then B else g.blk b, rt := fun b => if b = H.length then v else g.rt b, sz := fun b => if b = H.length then s else g.sz b } (H ++ [.right s]) W ∧
      Ext g W H.length { g with blk := fun b => if b = H.length then B else g.blk b, rt := fun b => if b = H.length then v else g.rt b, sz := fun b => if b = H.length then s else g.sz b } W (H ++ [Blk.right s]).length := by
  have hx : Ext g W H.length { g with blk := fun b => if b = H.length then B else g.blk b, rt := fun b => if b = H.length then v else g.rt b, sz := fun b => if b = H.length then s else g.sz b } W (H ++ [Blk.right s]).length :=
    ⟨by simp, fun b hb => if_neg (by omega), fun b hb => if_neg (by omega), fun b hb => if_neg (by omega), .refl _ _⟩
  have hget : ∀ d x, (H ++ [Blk.right s])[d]? = some x → (d < H.length ∧ H[d]? = some x) ∨ (d = H.length ∧ x = .right s) := by
    intro d x hd
    rcases Nat.lt_trichotomy d H.length with hlt | rfl | hgt
    · rw [List.getElem?_append_left hlt] at hd; exact .inl ⟨hlt, hd⟩
    · simp at hd; exact .inr ⟨rfl, hd.symm⟩
    · rw [List.getElem?_eq_none (by simp; omega)] at hd; cases hd
  have hro : ∀ d x, d < H.length → roomy { g with blk := fun b => if b = H.length then B else g.blk b, rt := fun b => if b = H.length then v else g.rt b, sz := fun b => if b = H.length then s else g.sz b } d x → roomy g d x := by
    intro d x hd hr
    cases x with
    | cells l => trivial
    | right s' =>
      obtain ⟨a, len, cap, e, hl⟩ := hr
      have e' : g.rt d = .slice a len cap := (hx.rt d hd).symm.trans e
      exact ⟨a, len, cap, e', hl⟩
    | gone => exact hr
  refine ⟨⟨?_, ?_, ?_, ?_⟩, hx⟩
  · intro d l hd
    rcases hget d _ hd with ⟨hlt, hd⟩ | ⟨_, e⟩
    · obtain ⟨C, e, hw, ha, hi⟩ := h.cells d l hd
      rw [hx.blk d hlt]
      exact ⟨C, e, hw, ha.mono hx, hi⟩
    · cases e
  · intro r s' hr
    rcases hget r _ hr with ⟨hlt, hr⟩ | ⟨e1, e⟩
    · rw [hx.blk r hlt, hx.sz r hlt, hx.rt r hlt]
      exact h.right r s' hr
    · cases e
      subst e1
      refine ⟨if_pos rfl, a, len, cap, (if_pos rfl).trans hv, hle, fun hl => ?_⟩
      obtain ⟨_, o, C, e, ha, hw, hs, hi⟩ := hc hl
      have e1 : (if H.length = H.length then B else g.blk H.length) = B := if_pos rfl
      show ∃ o C e, a = some ⟨if H.length = H.length then B else g.blk H.length, o, none⟩ ∧ W.heap[if H.length = H.length then B else g.blk H.length]? = _ ∧ _ ∧ ∀ o', _ → _ → ¬ g.imm (if H.length = H.length then B else g.blk H.length) o'
      rw [e1]
      exact ⟨o, C, e, ha, hw, hs, hi⟩
  · intro d d' x x' hd hd' hne hr hr'
    have hnew : H.length = H.length → roomy { g with blk := fun b => if b = H.length then B else g.blk b, rt := fun b => if b = H.length then v else g.rt b, sz := fun b => if b = H.length then s else g.sz b } H.length (.right s) → len < cap := by
      intro _ hr
      obtain ⟨a', len', cap', e, hl⟩ := hr
      have e' : v = .slice a' len' cap' := (if_pos rfl : (if H.length = H.length then v else g.rt H.length) = v).symm.trans e
      rw [hv] at e'
      cases e'
      exact hl
    rcases hget d _ hd with ⟨hlt, hd⟩ | ⟨e1, e⟩
    · rw [hx.blk d hlt]
      rcases hget d' _ hd' with ⟨hlt', hd'⟩ | ⟨e1', e'⟩
      · rw [hx.blk d' hlt']
        exact h.apart d d' x x' hd hd' hne (hro d x hlt hr) (hro d' x' hlt' hr')
      · subst e1' e'
        show g.blk d ≠ if H.length = H.length then B else g.blk H.length
        rw [if_pos rfl]
        exact (hc (hnew rfl hr')).1 d x hd (hro d x hlt hr)
    · subst e1 e
      rcases hget d' _ hd' with ⟨hlt', hd'⟩ | ⟨e1', e'⟩
      · rw [hx.blk d' hlt']
        show (if H.length = H.length then B else g.blk H.length) ≠ g.blk d'
        rw [if_pos rfl]
        exact fun e => (hc (hnew rfl hr)).1 d' x' hd' (hro d' x' hlt' hr') e.symm
      · exact absurd e1'.symm hne
  · exact h.imm
/-! Operations. -/
theorem r_sizeOf {P : Program} {t : TypeId} {n : Nat} (h : szT P t = some n) (W : World) : (sizeOf t).run P W = .ok n W := by
  unfold szT at h
  cases hi : P.info? t with
  | none => rw [hi] at h; cases h
  | some i => rw [hi] at h; cases h; simp [sizeOf, typeInfo, hi]
theorem r_zero {P : Program} {t : TypeId} {v : Value} (h : zeroT P t = some v) (W : World) : (zeroValue t).run P W = .ok v W := by
  unfold zeroT at h
  cases hi : P.info? t with
  | none => rw [hi] at h; cases h
  | some i =>
    rw [hi] at h
    have h' : i.zero = some v := h
    simp [zeroValue, typeInfo, hi, h']
theorem r_isAgg {P : Program} {t : TypeId} {b : Bool} (h : aggT P t = some b) (W : World) : (isAgg t).run P W = .ok b W := by
  unfold aggT at h
  cases hd : P.underlying t with
  | none => rw [hd] at h; cases h
  | some d =>
    rw [hd] at h
    simp only [isAgg, Sem.run_bind, run_underlying hd, Result.andThen_ok]
    cases d <;> cases h <;> rfl
theorem add_mk (b o j : Nat) : (⟨b, o, none⟩ : Addr).add j = ⟨b, o + j, none⟩ := by
  unfold Addr.add; split
  · rename_i h; subst h; rfl
  · rfl
theorem r_loadVar {P : Program} {g : Gh} {W : World} {n : Nat} {t : TypeId} {b o : Nat} {cs : List AC} {vs : List Value} {av : AV} (hat : ∀ j u, vs[j]? = some u → W.cell? ⟨b, o + j, none⟩ = some u) (ha : ARs g W n cs vs)
    (h : ldCells P t cs = some av) : ∃ v, (loadVar t ⟨b, o, none⟩).run P W = .ok v W ∧ AVR g W n av v := by
  unfold ldCells at h
  cases hg : aggT P t with
  | none => rw [hg] at h; cases h
  | some k =>
    rw [hg] at h
    cases k with
    | true =>
      cases hs : szT P t with
      | none => rw [hs] at h; cases h
      | some m =>
        simp only [hs, Option.bind_some] at h
        split at h
        · rename_i hle
          cases h
          have hl := ha.length
          have hr := run_loadCells_list (P := P) W ⟨b, o, none⟩ (vs.take m) (fun j v hj => by
            rw [add_mk]
            rw [List.getElem?_take] at hj
            split at hj
            · exact hat j v hj
            · cases hj)
          rw [show (vs.take m).length = m by rw [List.length_take]; omega] at hr
          refine ⟨.agg (vs.take m).toArray, ?_, (vs.take m).toArray, rfl, ?_⟩
          · simp [loadVar, r_isAgg hg, r_sizeOf hs, hr]
          · simpa using ha.take m
        · cases h
    | false =>
      cases cs with
      | nil => cases h
      | cons a r =>
        simp only [List.head?_cons, Option.map_some] at h
        cases h
        cases vs with
        | nil => exact ha.elim
        | cons u s =>
          have h0 := hat 0 u (by simp)
          exact ⟨u, by simp [loadVar, r_isAgg hg, show W.cell? ⟨b, o, none⟩ = some u from h0], ha.1⟩
theorem pc_ac {g : Gh} {W : World} {n : Nat} {p : PC} {u : Value} (h : PR W g.imm p u) : AR g W n p.ac u := by
  cases p with
  | s v => cases h with | s _ h => exact ⟨h, rfl⟩
  | row l => exact h
/-- What an address of cells tells, either kind. -/
theorem addr_cells {g : Gh} {H : Heap} {W : World} (h : HR g H W) {b off : Nat} {l : List AC} (hb : H[b]? = some (.cells l)) :
    ∃ vs : List Value, (∀ j u, vs[j]? = some u → W.cell? ⟨g.blk b, off + j, none⟩ = some u) ∧ ARs g W H.length (l.drop off) vs := by
  obtain ⟨C, e, hw, ha, _⟩ := h.cells b l hb
  refine ⟨C.toList.drop off, fun j u hj => ?_, ha.drop off⟩
  unfold World.cell?
  simp only [hw]
  rw [List.getElem?_drop] at hj
  simpa using hj
theorem rptr_cells {g : Gh} {W : World} {n b o : Nat} {c : List PC} {w : Nat → Value} (hw : ∀ j p, c[j]? = some p → g.imm b (o + j) ∧ W.cell? ⟨b, o + j, none⟩ = some (w j) ∧ PR W g.imm p (w j)) :
    ∃ vs : List Value, (∀ j u, vs[j]? = some u → W.cell? ⟨b, o + j, none⟩ = some u) ∧ ARs g W n (c.map PC.ac) vs := by
  refine ⟨(List.range c.length).map w, fun j u hj => ?_, ARs.of_get (by simp) (fun i a u hi hu => ?_)⟩
  · rw [List.getElem?_map] at hj
    by_cases hl : j < c.length
    · rw [List.getElem?_range hl] at hj
      cases hj
      exact (hw j _ (List.getElem?_eq_getElem hl)).2.1
    · rw [List.getElem?_eq_none (by simp; omega)] at hj; cases hj
  · rw [List.getElem?_map] at hi hu
    cases hc : c[i]? with
    | none => rw [hc] at hi; cases hi
    | some p =>
      rw [hc] at hi
      cases hi
      rw [List.getElem?_range (lt_of_get hc)] at hu
      cases hu
      exact pc_ac (hw i p hc).2.2
/-- An operation has been carried out. -/
def Does (g : Gh) (H : Heap) (W : World) (r : Result Next) (sv : SV) (H' : Heap) (D : List Nat) : Prop :=
  ∃ v W' g', (r = .ok (.value v) W' ∨ (r = .ok .skip W' ∧ v = undef)) ∧ Step g H W g' H' W' D ∧ SVR g' W' H'.length sv v
theorem Does.pure {g : Gh} {H : Heap} {W : World} (h : HR g H W) {r : Result Next} {sv : SV} {v : Value} (hr : r = .ok (.value v) W) (hs : SVR g W H.length sv v) : Does g H W r sv H [] := ⟨v, W, g, .inl hr, Step.refl h, hs⟩
theorem do_load {P : Program} {g : Gh} {H : Heap} {W : World} (h : HR g H W) {t : TypeId} {x : SV} {u : Value} {av : AV} (hx : SVR g W H.length x u) (he : evLoad P t x H = some av) : ∃ v, (Instr.loadAt t u).run P W = .ok v W ∧ AVR g W H.length av v := by
  unfold evLoad at he
  split at he
  · rename_i b off
    obtain ⟨hn, rfl⟩ := hx
    split at he
    · rename_i l hb
      obtain ⟨vs, h1, h2⟩ := addr_cells h (off := off) hb
      obtain ⟨v, hv, ha⟩ := r_loadVar h1 h2 he
      exact ⟨v, by simp [Instr.loadAt, Instr.sureAddr, hv], ha⟩
    · cases he
  · rename_i c
    obtain ⟨b, o, rfl, w, hw⟩ := hx
    obtain ⟨vs, h1, h2⟩ := rptr_cells (n := H.length) hw
    obtain ⟨v, hv, ha⟩ := r_loadVar h1 h2 he
    exact ⟨v, by simp [Instr.loadAt, Instr.sureAddr, hv], ha⟩
  · cases he
theorem do_store {P : Program} {g : Gh} {H : Heap} {W : World} (h : HR g H W) {t : TypeId} {x y : SV} {u z : Value} {H' : Heap} {D : List Nat} (hx : SVR g W H.length x u) (hy : SVR g W H.length y z) (he : evStore P t x y H = some (H', D)) :
    ∃ W', (Instr.storeAt t u z).run P W = .ok () W' ∧ Step g H W g H' W' D := by
  unfold evStore at he
  split at he
  · rename_i b off y'
    obtain ⟨hn, rfl⟩ := hx
    split at he
    · rename_i l hb
      split at he
      · rename_i hc
        cases he
        obtain ⟨hr, hs⟩ := Step.store h (vs := z.cells.toList) hb hc.2 (AVR.cells hy)
        refine ⟨_, ?_, hs⟩
        have hlen : z.cells.size = y'.cells.length := by have := (AVR.cells hy).length; simpa using this
        simp [Instr.storeAt, Instr.sureAddr, storeVar, r_sizeOf hc.1, hlen, hr]
      · cases he
    · cases he
  · cases he
theorem do_box {g : Gh} {H : Heap} {W : World} (h : HR g H W) {P : Program} {t : TypeId} {v : AV} {u : Value} (hv : AVR g W H.length v u) :
    ∃ z W' g', (newVar t u).run P W = .ok z W' ∧ Step g H W g' (H ++ [.cells v.cells]) W' [] ∧ AR g' W' (H ++ [Blk.cells v.cells]).length (.ptr H.length 0) (.pointer (some z)) := by
  refine ⟨⟨W.heap.size, 0, none⟩, _, _, ?_, Step.box h t (AVR.cells hv), ?_⟩
  · simp only [newVar, newRow, Sem.run_bind, run_newObj, Result.andThen_ok, Sem.run_pure]
    rfl
  · exact ⟨by simp, by show _ = Value.pointer (some ⟨if H.length = H.length then W.heap.size else g.blk H.length, 0, none⟩); rw [if_pos rfl]⟩
def fieldOff (P : Program) (s f : Nat) : Option Nat := match P.underlying s with
  | some (.struct fs) => fs[f]?.bind fun fd => match szT P fd.type with
    | some (_ + 1) => some fd.offset
    | _ => none
  | _ => none
def evAt (x : SV) (o : Nat) : Option SV := match x with
  | .v (.c (.ptr b off)) => some (.v (.c (.ptr b (off + o))))
  | .v (.c (.rptr c)) => some (.v (.c (.rptr (c.drop o))))
  | _ => none
theorem do_at {g : Gh} {W : World} {n : Nat} {x y : SV} {u : Value} {o : Nat} (hx : SVR g W n x u) (he : evAt x o = some y) : ∃ b f, u = .pointer (some ⟨b, f, none⟩) ∧ SVR g W n y (.pointer (some ⟨b, f + o, none⟩)) := by
  unfold evAt at he
  split at he
  · rename_i b off
    cases he
    obtain ⟨hn, rfl⟩ := hx
    exact ⟨_, _, rfl, hn, rfl⟩
  · rename_i c
    cases he
    obtain ⟨b, f, rfl, w, hw⟩ := hx
    refine ⟨b, f, rfl, b, f + o, rfl, fun j => w (o + j), fun j p hj => ?_⟩
    rw [List.getElem?_drop] at hj
    have := hw (o + j) p hj
    rwa [← Nat.add_assoc] at this
  · cases he
theorem do_field {P : Program} {g : Gh} {W : World} {n : Nat} {s f o : Nat} {x y : SV} {u : Value} (hf : fieldOff P s f = some o) (hx : SVR g W n x u) (he : evAt x o = some y) : ∃ v, (Instr.fieldAt s u f).run P W = .ok v W ∧ SVR g W n y v := by
  obtain ⟨b, q, rfl, hy⟩ := do_at hx he
  refine ⟨_, ?_, hy⟩
  unfold fieldOff at hf
  split at hf
  · rename_i fs hu
    cases hg : fs[f]? with
    | none => rw [hg] at hf; cases hf
    | some fd =>
      rw [hg] at hf
      simp only [Option.bind_some] at hf
      split at hf
      · rename_i m hs
        cases hf
        simp [Instr.fieldAt, run_underlying hu, hg, Instr.sureAddr, fieldPlace, r_sizeOf hs, add_mk]
      · cases hf
  · cases hf
/-- The address of an element. -/
def evIndexAddr (P : Program) (t : TypeId) (x : SV) (i : Int) : Option SV := match P.underlying t with
  | some (.array len e) => if 0 ≤ i ∧ i < len then (szT P e).bind fun s => evAt x (i.toNat * s) else none
  | some (.slice e) => match x with
    | .v (.c a) => a.els.bind fun l => if 0 ≤ i then l[i.toNat]?.bind fun c => if szT P e = some c.length then some (.v (.c (.rptr c))) else none else none
    | _ => none
  | _ => none
theorem els_row {g : Gh} {W : World} {n : Nat} {a : AC} {l : List (List PC)} {u : Value} (h : AR g W n a u) (he : a.els = some l) : PR W g.imm (.row l) u := by
  unfold AC.els at he
  split at he
  · cases he; obtain ⟨_, rfl⟩ := h; exact .nil
  · cases he; exact h
  · cases he; exact h.1
  · cases he; exact h.2.2.1
  · cases he
theorem do_indexAddr {P : Program} {g : Gh} {W : World} {n : Nat} {t : TypeId} {x y : SV} {u : Value} {k : IntKind} {i : Int} (hx : SVR g W n x u) (he : evIndexAddr P t x i = some y) : ∃ v, (Instr.indexAt t u (.int k i)).run P W = .ok v W ∧ SVR g W n y v := by
  unfold evIndexAddr at he
  split at he
  · rename_i len e hu
    split at he
    · rename_i hi
      cases hs : szT P e with
      | none => rw [hs] at he; cases he
      | some s =>
        rw [hs] at he
        obtain ⟨b, f, rfl, hy⟩ := do_at hx he
        exact ⟨_, by simp [Instr.indexAt, asIntOf, run_underlying hu, Instr.sureAddr, hi, r_sizeOf hs, add_mk], hy⟩
    · cases he
  · rename_i e hu
    split at he
    · rename_i a
      cases hl : a.els with
      | none => rw [hl] at he; cases he
      | some l =>
        rw [hl] at he
        simp only [Option.bind_some] at he
        split at he
        · rename_i h0
          cases hc : l[i.toNat]? with
          | none => rw [hc] at he; cases he
          | some c =>
            rw [hc] at he
            simp only [Option.bind_some] at he
            split at he
            · rename_i hs
              cases he
              have hr := els_row hx hl
              have hlt := lt_of_get hc
              cases hr with
              | nil => simp at hc
              | emp a cap hm => simp at hc
              | row l sz b o cap w hcap hm hss hi hp =>
                have hsz := hss c (List.mem_of_getElem? hc)
                refine ⟨.pointer (some ⟨b, o + i.toNat * c.length, none⟩), ?_, b, _, rfl, fun j => w i.toNat j, fun j p hj => ?_⟩
                · have h1 : 0 ≤ i ∧ i < (l.length : Int) := ⟨h0, by omega⟩
                  simp [Instr.indexAt, asIntOf, run_underlying hu, h1, r_sizeOf hs, add_mk]
                · rw [hsz]
                  exact ⟨(hi _ _ hc j p hj).1, (hi _ _ hc j p hj).2, hp _ _ hc j p hj⟩
            · cases he
        · cases he
    · cases he
  · cases he
/-! Structs, rows. -/
def buildA (P : Program) (t : TypeId) (parts : List (Nat × AV)) : Option AV := (zeroT P t).bind fun z => if z.cells.all one then
    match P.underlying t with
    | some (.struct fs) => (fillA (fun i => fs[i]?.bind fun fd => (szT P fd.type).map fun s => (fd.offset, s)) (z.cells.toList.map .s) parts).map .agg
    | some (.array _ e) => (szT P e).bind fun s => (fillA (fun i => some (i * s, s)) (z.cells.toList.map .s) parts).map .agg
    | _ => none
  else none
def PartsR (g : Gh) (W : World) (n : Nat) : List (Nat × AV) → List (Nat × Value) → Prop
  | [], [] => True
  | (i, a) :: l, (j, u) :: r => i = j ∧ AVR g W n a u ∧ PartsR g W n l r
  | _, _ => False
theorem foldl_splice : ∀ (vs : List Value) (cs : Array Value) (off k : Nat), off + k + vs.length ≤ cs.size →
    ((vs.zipIdx k).foldl (fun (cs : Array Value) (x : Value × Nat) => cs.setIfInBounds (off + x.2) x.1) cs).toList = splice cs.toList (off + k) vs
  | [], cs, off, k, _ => by simp [splice]
  | v :: r, cs, off, k, h => by
    simp only [List.length_cons] at h
    rw [List.zipIdx_cons, List.foldl_cons, foldl_splice r _ off (k + 1) (by simp; omega), show off + (k + 1) = off + k + 1 by omega, ← splice_cons _ (off + k) v r (by simp; omega)]
    simp
theorem do_fill {g : Gh} {W : World} {n : Nat} {place place' : Nat → Option (Nat × Nat)} (hp : ∀ i x, place i = some x → place' i = some x) : ∀ {ps : List (Nat × AV)} {qs : List (Nat × Value)} {cs ds : List AC} {C : Array Value}, PartsR g W n ps qs → ARs g W n cs C.toList →
    fillA place cs ps = some ds → ∃ D : Array Value, Instr.fill place' C qs = some D ∧ ARs g W n ds D.toList
  | [], [], cs, ds, C, _, hc, h => by simp only [fillA] at h; cases h; exact ⟨C, rfl, hc⟩
  | (i, a) :: l, (j, u) :: r, cs, ds, C, hq, hc, h => by
    obtain ⟨rfl, ha, hq⟩ := hq
    unfold fillA at h
    split at h
    · cases h
    · rename_i off size hpl
      split at h
      · rename_i hs
        have hcl := hc.length
        have hal := (AVR.cells ha).length
        have hsz : u.cells.size = a.cells.length := by simpa using hal
        have hCs : C.size = cs.length := by simpa using hcl
        have hf := foldl_splice u.cells.toList C off 0 (by simp; omega)
        have hnew : ARs g W n (splice cs off a.cells) ((u.cells.zipIdx.foldl (fun (cs : Array Value) (x : Value × Nat) => cs.setIfInBounds (off + x.2) x.1) C)).toList := by
          rw [← Array.foldl_toList, Array.toList_zipIdx, hf]
          exact hc.spl off (AVR.cells ha)
        obtain ⟨D, hD, hr⟩ := do_fill hp hq hnew h
        refine ⟨D, ?_, hr⟩
        unfold Instr.fill
        rw [hp i _ hpl]
        simp only
        rw [if_neg (by simp; omega)]
        exact hD
      · cases h
  | [], _ :: _, _, _, _, hq, _, _ => hq.elim
  | _ :: _, [], _, _, _, hq, _, _ => hq.elim
theorem zeros_R (g : Gh) (W : World) (n : Nat) : ∀ {l : List Value}, l.all one = true → ARs g W n (l.map AC.s) l
  | [], _ => trivial
  | v :: r, h => by
    rw [List.all_cons, Bool.and_eq_true] at h
    exact ⟨⟨h.1, rfl⟩, zeros_R g W n h.2⟩
theorem mapM_places {P : Program} {W : World} : ∀ {fs : List Field} {ps : List (Nat × Nat)}, (∀ (i : Nat) (x : Nat × Nat), ps[i]? = some x → ∃ fd, fs[i]? = some fd ∧ szT P fd.type = some x.2 ∧ x.1 = fd.offset) → ps.length = fs.length →
    (fs.mapM (m := Sem) fun f => do pure (f.offset, ← sizeOf f.type)).run P W = .ok ps W
  | [], [], _, _ => rfl
  | f :: fs, p :: ps, h, hl => by
    obtain ⟨fd, e, hs, ho⟩ := h 0 p rfl
    simp at e
    subst e
    have ih := mapM_places (P := P) (W := W) (fs := fs) (ps := ps) (fun i x hx => h (i + 1) x hx) (by simpa using hl)
    rw [List.mapM_cons]
    simp only [Sem.run_bind, r_sizeOf hs, Result.andThen_ok, Sem.run_pure, ih]
    rw [← ho]
  | [], _ :: _, _, hl => by simp at hl
  | _ :: _, [], _, hl => by simp at hl
/-- All fields' types are known. -/
def sizesOk (P : Program) (fs : Array Field) : Bool := fs.all fun fd => (szT P fd.type).isSome
def evBuild (P : Program) (t : TypeId) (parts : List (Nat × AV)) : Option AV := match P.underlying t with
  | some (.struct fs) => if sizesOk P fs then buildA P t parts else none
  | _ => buildA P t parts
theorem do_build {P : Program} {g : Gh} {W : World} {n : Nat} {t : TypeId} {ps : List (Nat × AV)} {qs : Array (Nat × Value)} {av : AV} (hq : PartsR g W n ps qs.toList) (he : evBuild P t ps = some av) : ∃ v, (Instr.build t qs).run P W = .ok v W ∧ AVR g W n av v := by
  have hb : buildA P t ps = some av ∧ ∀ fs, P.underlying t = some (.struct fs) → sizesOk P fs = true := by
    unfold evBuild at he
    split at he
    · rename_i fs hu
      split at he
      · rename_i h
        exact ⟨he, fun fs' h' => by rw [hu] at h'; cases h'; exact h⟩
      · cases he
    · rename_i hu
      exact ⟨he, fun fs h => absurd h (hu fs)⟩
  obtain ⟨hb, hok⟩ := hb
  unfold buildA at hb
  cases hz : zeroT P t with
  | none => rw [hz] at hb; cases hb
  | some z =>
    rw [hz] at hb
    simp only [Option.bind_some] at hb
    split at hb
    · rename_i hall
      have hz0 : ARs g W n (z.cells.toList.map AC.s) z.cells.toList := zeros_R g W n (by simpa using hall)
      split at hb
      · rename_i fs hu
        cases hf : fillA (fun i => fs[i]?.bind fun fd => (szT P fd.type).map fun s => (fd.offset, s)) (z.cells.toList.map .s) ps with
        | none => rw [hf] at hb; cases hb
        | some ds =>
          rw [hf] at hb
          cases hb
          have hsok := hok fs hu
          let pl : List (Nat × Nat) := fs.toList.map fun fd => (fd.offset, (szT P fd.type).getD 0)
          have hpl : ∀ (i : Nat) (x : Nat × Nat), pl[i]? = some x → ∃ fd, fs.toList[i]? = some fd ∧ szT P fd.type = some x.2 ∧ x.1 = fd.offset := by
            intro i x hx
            simp only [pl, List.getElem?_map, Option.map_eq_some_iff] at hx
            obtain ⟨fd, hfd, rfl⟩ := hx
            have hm : fd ∈ fs.toList := List.mem_of_getElem? hfd
            have := (Array.all_eq_true_iff_forall_mem.1 hsok) fd (by simpa using hm)
            obtain ⟨s, hs⟩ := Option.isSome_iff_exists.1 this
            exact ⟨fd, hfd, by simp [hs], rfl⟩
          have hrun := mapM_places (P := P) (W := W) hpl (by simp [pl])
          obtain ⟨D, hD, hr⟩ := do_fill (place' := fun i => pl.toArray[i]?) (fun i x hx => by
            cases hfd : fs[i]? with
            | none => rw [hfd] at hx; cases hx
            | some fd =>
              rw [hfd] at hx
              simp only [Option.bind_some, Option.map_eq_some_iff] at hx
              obtain ⟨s, hs, rfl⟩ := hx
              have : fs.toList[i]? = some fd := by simpa using hfd
              simp [pl, List.getElem?_map, this, hs]) hq hz0 hf
          refine ⟨.agg D, ?_, D, rfl, hr⟩
          have hrun' : (fs.mapM (m := Sem) fun f => do pure (f.offset, ← sizeOf f.type)).run P W = .ok pl.toArray W := by
            rw [Array.mapM_eq_mapM_toList]
            simp only [Sem.run_map, hrun, Result.andThen_ok]
          simp only [Instr.build, Sem.run_bind, r_zero hz, Result.andThen_ok, run_underlying hu, hrun', hD, Sem.run_pure]
      · rename_i len e hu
        cases hs : szT P e with
        | none => rw [hs] at hb; cases hb
        | some s =>
          rw [hs] at hb
          simp only [Option.bind_some] at hb
          cases hf : fillA (fun i => some (i * s, s)) (z.cells.toList.map .s) ps with
          | none => rw [hf] at hb; cases hb
          | some ds =>
            rw [hf] at hb
            cases hb
            obtain ⟨D, hD, hr⟩ := do_fill (place' := fun i => some (i * s, s)) (fun i x hx => hx) hq hz0 hf
            refine ⟨.agg D, ?_, D, rfl, hr⟩
            simp only [Instr.build, Sem.run_bind, r_zero hz, Result.andThen_ok, run_underlying hu, r_sizeOf hs, hD, Sem.run_pure]
      · cases hb
    · cases hb
/-! Rows that are made. -/
theorem ac_pc {g : Gh} {W : World} {n : Nat} {a : AC} {p : PC} {u : Value} (h : AR g W n a u) (hp : a.pc = some p) : PR W g.imm p u := by
  cases a with
  | s v => cases hp; obtain ⟨h, rfl⟩ := h; exact .s _ h
  | row l => cases hp; exact h
  | full l => cases hp; exact h.1
  | own r l => cases hp; exact h.2.2.1
  | _ => cases hp
/-- Elements, one behind the other, in an array from o on. -/
def Flat (W : World) (imm : Nat → Nat → Prop) (sz : Nat) (l : List (List PC)) (vs : List Value) : Prop :=
  vs.length = l.length * sz ∧ (∀ c ∈ l, c.length = sz) ∧ ∀ i c, l[i]? = some c → ∀ j p, c[j]? = some p → ∃ u, vs[i * sz + j]? = some u ∧ PR W imm p u
theorem Flat.one {W : World} {imm} {sz : Nat} {l : List (List PC)} {vs : List Value} (h : Flat W imm sz l vs) : ∀ v ∈ vs, one v = true := by
  intro v hv
  obtain ⟨k, hk, rfl⟩ := List.getElem_of_mem hv
  have hpos : 0 < sz := by
    rcases Nat.eq_zero_or_pos sz with e | e
    · have := h.1; rw [e] at this; omega
    · exact e
  have hkl : k < l.length * sz := by rw [← h.1]; exact hk
  have hi : k / sz < l.length := (Nat.div_lt_iff_lt_mul hpos).2 hkl
  have hc := List.getElem?_eq_getElem hi
  have hlen := h.2.1 _ (List.getElem_mem hi)
  have hj : k % sz < (l[k / sz]).length := by rw [hlen]; exact Nat.mod_lt _ hpos
  obtain ⟨u, hu, hp⟩ := h.2.2 _ _ hc (k % sz) _ (List.getElem?_eq_getElem hj)
  have e : k / sz * sz + k % sz = k := by rw [Nat.mul_comm]; exact Nat.div_add_mod k sz
  rw [e, List.getElem?_eq_getElem hk] at hu
  cases hu
  exact PR.one hp
theorem Flat.append {W : World} {imm} {sz : Nat} {l l' : List (List PC)} {vs vs' : List Value} (h : Flat W imm sz l vs) (k : Flat W imm sz l' vs') : Flat W imm sz (l ++ l') (vs ++ vs') := by
  refine ⟨by rw [List.length_append, List.length_append, h.1, k.1, Nat.add_mul], fun c hc => ?_, fun i c hi j p hj => ?_⟩
  · rcases List.mem_append.1 hc with hc | hc
    · exact h.2.1 c hc
    · exact k.2.1 c hc
  · by_cases hlt : i < l.length
    · rw [List.getElem?_append_left hlt] at hi
      obtain ⟨u, hu, hp⟩ := h.2.2 i c hi j p hj
      exact ⟨u, by rw [List.getElem?_append_left (lt_of_get hu)]; exact hu, hp⟩
    · rw [List.getElem?_append_right (by omega)] at hi
      obtain ⟨u, hu, hp⟩ := k.2.2 _ c hi j p hj
      refine ⟨u, ?_, hp⟩
      have e : i * sz + j = vs.length + ((i - l.length) * sz + j) := by
        rw [h.1, ← Nat.add_assoc, ← Nat.add_mul]
        congr 2; omega
      rw [e, List.getElem?_append_right (by omega), Nat.add_sub_cancel_left]
      exact hu
/-- What a row's cells hold. -/
theorem PR.flat {W : World} {imm} {l : List (List PC)} {v : Value} (h : PR W imm (.row l) v) {sz : Nat} (hs : ∀ c ∈ l, c.length = sz) :
    ∃ a cap vs, v = .slice a l.length cap ∧ l.length ≤ cap ∧ cap ≤ maxLen ∧ Flat W imm sz l vs ∧ (∀ (P : Program) (W' : World), Keeps W imm W' imm → (Builtin.firstCells sz l.length v).run P W' = .ok vs.toArray W') ∧
      (∀ b o s, a = some ⟨b, o, s⟩ → (l ≠ [] → s = none) ∧ ∀ k u, vs[k]? = some u → imm b (o + k) ∧ W.cell? ⟨b, o + k, none⟩ = some u) ∧ (a = none → l = [] ∧ cap = 0) := by
  cases h with
  | nil => exact ⟨none, 0, [], rfl, Nat.le_refl _, Nat.zero_le _, ⟨by simp, by simp, by simp⟩, fun P W' _ => rfl, fun b o s h => (by cases h), fun _ => ⟨rfl, rfl⟩⟩
  | emp a cap hm =>
    refine ⟨some a, cap, [], rfl, Nat.zero_le _, hm, ⟨by simp, by simp, by simp⟩, fun P W' _ => ?_, fun b o s _ => ⟨fun h => absurd rfl h, fun k u h => (by simp at h)⟩, fun h => by cases h⟩
    simp [Builtin.firstCells, loadCells, loadCellsFrom]
  | row l sz' b o cap u hc hm hs' hi hp =>
    by_cases hl : l = []
    · subst hl
      refine ⟨_, cap, [], rfl, hc, hm, ⟨by simp, by simp, by simp⟩, fun P W' _ => ?_, fun b o s h => ?_, fun h => by cases h⟩
      · simp [Builtin.firstCells, loadCells, loadCellsFrom]
      · exact ⟨fun h => absurd rfl h, fun k u h => by simp at h⟩
    · have hsz : sz' = sz := by
        obtain ⟨c, hcm⟩ := List.exists_mem_of_ne_nil l hl
        rw [← hs' c hcm, hs c hcm]
      subst hsz
      have hcell : ∀ k, k < l.length * sz' → ∃ u', imm b (o + k) ∧ W.cell? ⟨b, o + k, none⟩ = some u' ∧ u' = u (k / sz') (k % sz') := by
        intro k hk
        have hpos : 0 < sz' := by
          rcases Nat.eq_zero_or_pos sz' with e | e
          · rw [e] at hk; omega
          · exact e
        have hi' : k / sz' < l.length := (Nat.div_lt_iff_lt_mul hpos).2 hk
        have hlen := hs' _ (List.getElem_mem hi')
        have hj : k % sz' < (l[k / sz']).length := by rw [hlen]; exact Nat.mod_lt _ hpos
        obtain ⟨h1, h2⟩ := hi _ _ (List.getElem?_eq_getElem hi') (k % sz') _ (List.getElem?_eq_getElem hj)
        have e : o + k / sz' * sz' + k % sz' = o + k := by rw [Nat.add_assoc, Nat.mul_comm, Nat.div_add_mod]
        rw [e] at h1 h2
        exact ⟨_, h1, h2, rfl⟩
      refine ⟨_, cap, (List.range (l.length * sz')).map fun k => u (k / sz') (k % sz'), rfl, hc, hm, ⟨by simp, hs', fun i c hic j p hj => ?_⟩, fun P W' K => ?_, fun b' o' s h => ?_, fun h => by cases h⟩
      · have hjl := lt_of_get hj
        rw [hs' c (List.mem_of_getElem? hic)] at hjl
        have hil := lt_of_get hic
        have hk : i * sz' + j < l.length * sz' := by
          have : (i + 1) * sz' ≤ l.length * sz' := Nat.mul_le_mul_right _ hil
          rw [Nat.add_mul] at this; omega
        have hpos : 0 < sz' := by omega
        refine ⟨u i j, ?_, hp i c hic j p hj⟩
        rw [List.getElem?_map, List.getElem?_range hk]
        simp only [Option.map_some]
        rw [show (i * sz' + j) / sz' = i by rw [Nat.mul_comm, Nat.mul_add_div hpos, Nat.div_eq_of_lt hjl, Nat.add_zero], show (i * sz' + j) % sz' = j by rw [Nat.mul_comm, Nat.mul_add_mod, Nat.mod_eq_of_lt hjl]]
      · simp only [Builtin.firstCells]
        have hr := run_loadCells_list (P := P) W' ⟨b, o, none⟩ ((List.range (l.length * sz')).map fun k => u (k / sz') (k % sz')) (fun k v hv => by
          rw [add_mk]
          rw [List.getElem?_map] at hv
          by_cases hk : k < l.length * sz'
          · rw [List.getElem?_range hk] at hv
            cases hv
            obtain ⟨u', h1, h2, rfl⟩ := hcell k hk
            exact (K.same _ _ h1).trans h2
          · rw [List.getElem?_eq_none (by simp; omega)] at hv; cases hv)
        rw [List.length_map, List.length_range] at hr
        exact hr
      · cases h
        refine ⟨fun _ => rfl, fun k v hv => ?_⟩
        rw [List.getElem?_map] at hv
        by_cases hk : k < l.length * sz'
        · rw [List.getElem?_range hk] at hv
          cases hv
          obtain ⟨u', h1, h2, rfl⟩ := hcell k hk
          exact ⟨h1, h2⟩
        · rw [List.getElem?_eq_none (by simp; omega)] at hv; cases hv
theorem Flat.mono {W W' : World} {i i' : Nat → Nat → Prop} (k : Keeps W i W' i') {sz : Nat} {l : List (List PC)} {vs : List Value} (h : Flat W i sz l vs) : Flat W' i' sz l vs :=
  ⟨h.1, h.2.1, fun a c hc j p hj => by obtain ⟨u, hu, hp⟩ := h.2.2 a c hc j p hj; exact ⟨u, hu, PR.mono k hp⟩⟩
theorem Flat.row {W : World} {imm : Nat → Nat → Prop} {sz : Nat} {l : List (List PC)} {vs : List Value} (h : Flat W imm sz l vs) {b o cap : Nat} (hc : l.length ≤ cap) (hm : cap ≤ maxLen)
    (hi : ∀ k u, vs[k]? = some u → imm b (o + k) ∧ W.cell? ⟨b, o + k, none⟩ = some u) : PR W imm (.row l) (.slice (some ⟨b, o, none⟩) l.length cap) := by
  refine .row l sz b o cap (fun i j => vs.getD (i * sz + j) undef) hc hm h.2.1 (fun i c hic j p hj => ?_) (fun i c hic j p hj => ?_)
  · obtain ⟨u, hu, _⟩ := h.2.2 i c hic j p hj
    obtain ⟨h1, h2⟩ := hi _ u hu
    rw [Nat.add_assoc]
    exact ⟨h1, by rw [h2, List.getD_eq_getElem?_getD, hu]; rfl⟩
  · obtain ⟨u, hu, hp⟩ := h.2.2 i c hic j p hj
    rw [List.getD_eq_getElem?_getD, hu]
    exact hp
/-- A block of the call's own whose first m cells may never change. -/
def immNew (g : Gh) (B m : Nat) : Gh := { g with imm := fun b o => g.imm b o ∨ (b = B ∧ o < m) }
theorem Step.row {g : Gh} {H : Heap} {W : World} (h : HR g H W) {sz m : Nat} {l : List (List PC)} {vs : List Value} {C : Array Value} (e : TypeId) (hf : Flat W g.imm sz l vs) (hm : m = vs.length) (hC : ∀ (k : Nat) (u : Value), vs[k]? = some u → C[k]? = some u) :
    Step g H W (immNew g W.heap.size m) H (W.alloc (.cells C e)) [] ∧ Flat (W.alloc (.cells C e)) (immNew g W.heap.size m).imm sz l vs ∧
      ∀ k u, vs[k]? = some u → (immNew g W.heap.size m).imm W.heap.size (0 + k) ∧ (W.alloc (.cells C e)).cell? ⟨W.heap.size, 0 + k, none⟩ = some u := by
  have hcell : ∀ k u, vs[k]? = some u → (W.alloc (.cells C e)).cell? ⟨W.heap.size, 0 + k, none⟩ = some u := by
    intro k u hu
    rw [World.cell?_alloc_new, Nat.zero_add]
    exact hC k u hu
  have hs : Step g H W (immNew g W.heap.size m) H (W.alloc (.cells C e)) [] := by
    refine Step.grow h rfl rfl rfl (by simp) (fun B hB => Below.heap_alloc _ _ _ hB) rfl rfl rfl (fun b o h => .inl h) (fun b o ho => ?_)
    rcases ho with ho | ⟨rfl, ho⟩
    · exact .inl ho
    · refine .inr ⟨Nat.le_refl _, ?_⟩
      have hk : o < vs.length := by omega
      exact ⟨_, by have := hcell o _ (List.getElem?_eq_getElem hk); rwa [Nat.zero_add] at this⟩
  exact ⟨hs, hf.mono hs.ext.keeps, fun k u hu => ⟨.inr ⟨rfl, by have := lt_of_get hu; omega⟩, hcell k u hu⟩⟩
/-- A right is used up. -/
theorem Step.gone {g g1 : Gh} {H H1 : Heap} {W W1 : World} {D : List Nat} (S : Step g H W g1 H1 W1 D) (r : Nat) : Step g H W g1 (H1.set r .gone) W1 (r :: D) := by
  have h := S.hr
  have hget : ∀ d x, (H1.set r .gone)[d]? = some x → x = .gone ∨ (d ≠ r ∧ H1[d]? = some x) := by
    intro d x hd
    by_cases e : d = r
    · subst e
      by_cases hlt : d < H1.length
      · rw [List.getElem?_set_self hlt] at hd; exact .inl (Option.some.inj hd).symm
      · rw [List.getElem?_eq_none (by simpa using hlt)] at hd; cases hd
    · rw [List.getElem?_set_ne (fun x => e x.symm)] at hd; exact .inr ⟨e, hd⟩
  have hro : ∀ d x, (H1.set r .gone)[d]? = some x → roomy g1 d x → H1[d]? = some x := by
    intro d x hd hr
    rcases hget d x hd with rfl | ⟨_, hd⟩
    · exact hr.elim
    · exact hd
  refine ⟨⟨?_, ?_, ?_, h.imm⟩, ⟨by rw [List.length_set]; exact S.ext.le, S.ext.blk, S.ext.rt, S.ext.sz, S.ext.keeps⟩, S.os, S.tape, S.output, S.size, fun B hB hD => S.fr B hB fun d hd => hD d (List.mem_cons_of_mem _ hd), fun d x hd hx hr => S.old d x hd (hro d x hx hr) hr, fun d x hd hx hr => ?_, fun d hd hD => ?_, fun b o hi => (S.fresh b o hi)|>.imp id (Or.imp id fun ⟨d, hd, y⟩ => ⟨d, List.mem_cons_of_mem _ hd, y⟩)⟩
  · intro b l hb
    rcases hget b _ hb with e | ⟨_, hb⟩
    · cases e
    · rw [List.length_set]; exact h.cells b l hb
  · intro s' s hr
    rcases hget s' _ hr with e | ⟨_, hr⟩
    · cases e
    · exact h.right s' s hr
  · intro b b' x x' hb hb' hne hr hr'
    exact h.apart b b' x x' (hro b x hb hr) (hro b' x' hb' hr') hne hr hr'
  · rcases S.new d x hd (hro d x hx hr) hr with hb | ⟨d0, hd0, y⟩
    · exact .inl hb
    · exact .inr ⟨d0, List.mem_cons_of_mem _ hd0, y⟩
  · rw [List.getElem?_set_ne (fun e => hD (by simp [e])), S.clean d hd (fun x => hD (List.mem_cons_of_mem _ x))]
def withRight (g : Gh) (n B s : Nat) (v : Value) : Gh := { g with blk := fun b => if b = n then B else g.blk b, rt := fun b => if b = n then v else g.rt b, sz := fun b => if b = n then s else g.sz b }
theorem Step.right {g g1 : Gh} {H H1 : Heap} {W W1 : World} {D : List Nat} (S : Step g H W g1 H1 W1 D) {s : Nat} {v : Value} {B : Nat} {a : Option Addr} {len cap : Nat} (hv : v = .slice a len cap) (hle : len ≤ cap)
    (hc : len < cap → (∀ d x, H1[d]? = some x → roomy g1 d x → g1.blk d ≠ B) ∧ ∃ o C e, a = some ⟨B, o, none⟩ ∧ W1.heap[B]? = some (.cells C e (0, 0)) ∧ o + cap * s ≤ C.size ∧ ∀ o', o + len * s ≤ o' → o' < o + cap * s → ¬ g1.imm B o')
    (hB : len < cap → W.heap.size ≤ B ∨ ∃ d0 ∈ D, ∃ x, H[d0]? = some x ∧ roomy g d0 x ∧ B = g.blk d0) : Step g H W (withRight g1 H1.length B s v) (H1 ++ [.right s]) W1 D := by
  obtain ⟨hr, hx⟩ := HR.addRight S.hr hv hle hc
  have hget : ∀ d x, (H1 ++ [Blk.right s])[d]? = some x → (d < H1.length ∧ H1[d]? = some x) ∨ (d = H1.length ∧ x = .right s) := by
    intro d x hd
    rcases Nat.lt_trichotomy d H1.length with hlt | rfl | hgt
    · rw [List.getElem?_append_left hlt] at hd; exact .inl ⟨hlt, hd⟩
    · simp at hd; exact .inr ⟨rfl, hd.symm⟩
    · rw [List.getElem?_eq_none (by simp; omega)] at hd; cases hd
  have hro : ∀ d x, d < H1.length → roomy (withRight g1 H1.length B s v) d x → roomy g1 d x := by
    intro d x hd hr
    cases x with
    | cells l => trivial
    | right s' =>
      obtain ⟨a, len, cap, e, hl⟩ := hr
      exact ⟨a, len, cap, (hx.rt d hd).symm.trans e, hl⟩
    | gone => exact hr
  refine ⟨hr, S.ext.trans hx, S.os, S.tape, S.output, S.size, S.fr, fun d x hd hx' hr => ?_, fun d x hd hx' hr => ?_, fun d hd hD => ?_, S.fresh⟩
  · have hlt := Nat.lt_of_lt_of_le hd S.ext.le
    rcases hget d x hx' with ⟨_, hd'⟩ | ⟨e, _⟩
    · exact S.old d x hd hd' (hro d x hlt hr)
    · omega
  · rcases hget d x hx' with ⟨hlt, hd'⟩ | ⟨rfl, rfl⟩
    · have e := hx.blk d hlt
      rcases S.new d x hd hd' (hro d x hlt hr) with hb | hb
      · exact .inl (by rw [show (withRight g1 H1.length B s v).blk d = g1.blk d from e]; exact hb)
      · exact .inr (by rw [show (withRight g1 H1.length B s v).blk d = g1.blk d from e]; exact hb)
    · obtain ⟨a', len', cap', e, hl⟩ := hr
      have e' : v = .slice a' len' cap' := (if_pos rfl : (if H1.length = H1.length then v else g1.rt H1.length) = v).symm.trans e
      rw [hv] at e'
      cases e'
      have e2 : (withRight g1 H1.length B s v).blk H1.length = B := if_pos rfl
      rw [e2]
      exact hB hl
  · rw [List.getElem?_append_left (Nat.lt_of_lt_of_le hd S.ext.le)]
    exact S.clean d hd hD
/-- Cells behind a row are written: the row's right is used up, and they may never change again. -/
theorem Step.inplace {g : Gh} {H : Heap} {W : World} (h : HR g H W) {r s len cap o : Nat} {vs : List Value} (hr : H[r]? = some (.right s)) (hrt : g.rt r = .slice (some ⟨g.blk r, o, none⟩) len cap) (hlt : len < cap) (hfit : len * s + vs.length ≤ cap * s) (hone : ∀ v ∈ vs, one v = true) :
    (∀ P : Program, (storeCells ⟨g.blk r, o + len * s, none⟩ vs).run P W = .ok () (setCells W (g.blk r) (o + len * s) vs)) ∧
    Step g H W { g with imm := fun b q => g.imm b q ∨ (b = g.blk r ∧ o + len * s ≤ q ∧ q < o + len * s + vs.length) } (H.set r .gone) (setCells W (g.blk r) (o + len * s) vs) [r] ∧
    (∃ C e, (setCells W (g.blk r) (o + len * s) vs).heap[g.blk r]? = some (.cells C e (0, 0)) ∧ o + cap * s ≤ C.size) ∧
    (∀ k u, vs[k]? = some u → (setCells W (g.blk r) (o + len * s) vs).cell? ⟨g.blk r, o + len * s + k, none⟩ = some u) ∧
    (∀ o', o + len * s ≤ o' → o' < o + cap * s → ¬ g.imm (g.blk r) o') := by
  obtain ⟨_, a, len', cap', e, _, hc⟩ := h.right r s hr
  rw [hrt] at e
  cases e
  obtain ⟨o', C, e, ho, hw, hC, hi⟩ := hc hlt
  cases ho
  obtain ⟨a1, a2, a3, a4, a5, a6, a7⟩ := setCells_spec vs W (g.blk r) (o + len * s) C e hw (by omega) hone
  have hcellB : ∀ q, ¬ (o + len * s ≤ q ∧ q < o + len * s + vs.length) → (setCells W (g.blk r) (o + len * s) vs).cell? ⟨g.blk r, q, none⟩ = W.cell? ⟨g.blk r, q, none⟩ := by
    intro q hq
    unfold World.cell?
    simp only [a2, hw]
    simp only [Option.isSome_none, Bool.false_eq_true, if_false]
    rw [List.getElem?_toArray]
    unfold splice
    by_cases h1 : q < o + len * s
    · rw [List.getElem?_append_left (by simp; omega), List.getElem?_take_of_lt h1]; simp
    · rw [List.getElem?_append_right (by simp; omega), List.getElem?_append_right (by simp; omega), List.getElem?_drop]
      simp only [List.length_take, Array.length_toList, Array.getElem?_toList]
      congr 1
      omega
  have hnew : ∀ k u, vs[k]? = some u → (setCells W (g.blk r) (o + len * s) vs).cell? ⟨g.blk r, o + len * s + k, none⟩ = some u := by
    intro k u hu
    unfold World.cell?
    simp only [a2]
    simp only [Option.isSome_none, Bool.false_eq_true, if_false]
    rw [List.getElem?_toArray]
    unfold splice
    have hk := lt_of_get hu
    rw [List.getElem?_append_right (by simp; omega), List.getElem?_append_left (by simp; omega)]
    simp only [List.length_take, Array.length_toList]
    rw [show o + len * s + k - min (o + len * s) C.size = k by omega]
    exact hu
  have hk : Keeps W g.imm (setCells W (g.blk r) (o + len * s) vs) (fun b q => g.imm b q ∨ (b = g.blk r ∧ o + len * s ≤ q ∧ q < o + len * s + vs.length)) := by
    refine ⟨fun _ _ h => .inl h, fun b q hq => ?_⟩
    by_cases e : b = g.blk r
    · subst e
      exact hcellB q (fun hh => hi q hh.1 (by omega) hq)
    · exact cell_of_heap (a3 b e)
  have hrr : roomy g r (.right s) := ⟨_, _, _, hrt, hlt⟩
  have hx : Ext g W H.length { g with imm := fun b q => g.imm b q ∨ (b = g.blk r ∧ o + len * s ≤ q ∧ q < o + len * s + vs.length) } (setCells W (g.blk r) (o + len * s) vs) (H.set r Blk.gone).length := ⟨by simp, fun _ _ => rfl, fun _ _ => rfl, fun _ _ => rfl, hk⟩
  have hget : ∀ d x, (H.set r .gone)[d]? = some x → x = .gone ∨ (d ≠ r ∧ H[d]? = some x) := by
    intro d x hd
    by_cases e : d = r
    · subst e; rw [List.getElem?_set_self (lt_of_get hr)] at hd; exact .inl (Option.some.inj hd).symm
    · rw [List.getElem?_set_ne (fun x => e x.symm)] at hd; exact .inr ⟨e, hd⟩
  have hro : ∀ d x, roomy { g with imm := fun b q => g.imm b q ∨ (b = g.blk r ∧ o + len * s ≤ q ∧ q < o + len * s + vs.length) } d x → roomy g d x := by intro d x hr; cases x <;> exact hr
  refine ⟨a1, ⟨⟨?_, ?_, ?_, ?_⟩, hx, a4, a5, a6, by rw [a7]; exact Nat.le_refl _, fun B hB hD => a3 B (hD r (List.mem_singleton.2 rfl) _ hr hrr), ?_, ?_, ?_, ?_⟩, ⟨_, e, a2, ?_⟩, hnew, hi⟩
  · intro b l hb
    rcases hget b _ hb with e | ⟨e1, hb⟩
    · cases e
    · obtain ⟨C', e', hw', ha', hi'⟩ := h.cells b l hb
      have hne := h.apart b r _ _ hb hr e1 trivial hrr
      refine ⟨C', e', (a3 _ hne).trans hw', ha'.mono hx, fun q hq => ?_⟩
      rcases hq with hq | ⟨hq, _⟩
      · exact hi' q hq
      · exact hne hq
  · intro r' s' hr'
    rcases hget r' _ hr' with e | ⟨e1, hr'⟩
    · cases e
    · obtain ⟨e0, a, len', cap', hrt', hle', hc'⟩ := h.right r' s' hr'
      refine ⟨e0, a, len', cap', hrt', hle', fun hl => ?_⟩
      obtain ⟨o', C', e', ha', hw', hs', hi'⟩ := hc' hl
      have hne := h.apart r' r _ _ hr' hr e1 ⟨a, len', cap', hrt', hl⟩ hrr
      refine ⟨o', C', e', ha', (a3 _ hne).trans hw', hs', fun q h1 h2 hq => ?_⟩
      rcases hq with hq | ⟨hq, _⟩
      · exact hi' q h1 h2 hq
      · exact hne hq
  · intro b b' x x' hb hb' hne hr1 hr2
    rcases hget b x hb with rfl | ⟨_, hb⟩
    · exact (hro _ _ hr1).elim
    · rcases hget b' x' hb' with rfl | ⟨_, hb'⟩
      · exact (hro _ _ hr2).elim
      · exact h.apart b b' x x' hb hb' hne (hro _ _ hr1) (hro _ _ hr2)
  · intro b q hq
    rcases hq with hq | ⟨rfl, h1, h2⟩
    · obtain ⟨v, hv⟩ := h.imm b q hq
      exact ⟨v, (hk.same b q hq).trans hv⟩
    · have hlt : q - (o + len * s) < vs.length := by omega
      have := hnew _ _ (List.getElem?_eq_getElem hlt)
      rw [show o + len * s + (q - (o + len * s)) = q by omega] at this
      exact ⟨_, this⟩
  · intro d x hd hx' hr'
    rcases hget d x hx' with rfl | ⟨_, hx'⟩
    · exact hr'.elim
    · exact ⟨x, hx', hro _ _ hr'⟩
  · intro d x hd hx' _
    rw [List.getElem?_eq_none (by simpa using hd)] at hx'
    cases hx'
  · intro d hd hD
    exact List.getElem?_set_ne (fun e => hD (by simp [e]))
  · intro b q hq
    rcases hq with hq | ⟨rfl, _, _⟩
    · exact .inl hq
    · exact .inr (.inr ⟨r, by simp, _, hr, hrr, rfl⟩)
  · simp only [List.size_toArray]
    unfold splice
    simp only [List.length_append, List.length_take, List.length_drop, Array.length_toList]
    omega
/-! append, and rows told one by one. -/
def LIM : Nat := 1099511627776
def bytesT (P : Program) (t : TypeId) : Option Nat := (P.info? t).map (·.bytes)
theorem r_info {P : Program} {t : TypeId} {n : Nat} (h : bytesT P t = some n) (W : World) : ∃ i, (typeInfo t).run P W = .ok i W ∧ i.bytes = n := by
  unfold bytesT at h
  cases hi : P.info? t with
  | none => rw [hi] at h; cases h
  | some i => rw [hi] at h; cases h; exact ⟨i, by simp [typeInfo, hi], rfl⟩
theorem growBy_le (n : Nat) : ∀ (k c : Nat), c ≤ 2 * n + 1024 → Builtin.growBy n k c ≤ 2 * n + 1024
  | 0, c, h => h
  | k + 1, c, h => by
    unfold Builtin.growBy
    split
    · exact h
    · rename_i hlt
      exact growBy_le n k _ (by omega)
theorem nextcap_le {need cap : Nat} (h : cap < need) : Builtin.nextslicecap need cap ≤ 2 * need + 1024 := by
  unfold Builtin.nextslicecap
  split
  · omega
  · split
    · omega
    · exact growBy_le _ _ _ (by omega)
/-- The rows that append takes: what is added, its kind. -/
def addEls (x : AC) : Option (List (List PC)) := match x with
  | .s (.string b) => some (b.data.toList.map fun c => [.s (.int .u8 c.toNat)])
  | a => a.els
/-- Is there a right to append here? -/
def isRight (H : Heap) (r sz : Nat) : Bool := match H[r]? with | some (.right s) => s == sz | _ => false
theorem isRight_get {H : Heap} {r sz : Nat} (h : isRight H r sz = true) : H[r]? = some (.right sz) := by
  unfold isRight at h
  split at h
  · rename_i s e; rw [e]; simp at h; rw [h]
  · cases h
def addT (P : Program) (t : TypeId) : Bool := match P.underlying t with | some (.slice _) | some .string => true | _ => false
theorem addT_of {P : Program} {t : TypeId} (h : addT P t = true) : (∃ e, P.underlying t = some (.slice e)) ∨ P.underlying t = some .string := by
  unfold addT at h
  split at h
  · rename_i e he; exact .inl ⟨e, he⟩
  · rename_i he; exact .inr he
  · cases h
def appendOk (P : Program) (ts : List TypeId) : Option (Nat × Nat × TypeId) := match ts with
  | [ta, tb] => match P.underlying ta with
    | some (.slice e) => (szT P e).bind fun sz => (bytesT P e).bind fun by_ => match zeroT P e with
      | some z => if z.cells.size = sz ∧ 1 ≤ by_ ∧ by_ ≤ 1048576 ∧ addT P tb = true then some (sz, by_, e) else none
      | none => none
    | _ => none
  | _ => none
def evAppend (P : Program) (ts : List TypeId) (s x : AC) (H : Heap) : Option (AC × Heap × List Nat) :=
  (appendOk P ts).bind fun (sz, by_, _) => (addEls x).bind fun l2 =>
    match s with
    | .own r l => if isRight H r sz = true ∧ (l2.all fun c => c.length == sz) = true ∧ (l.length + l2.length) * by_ ≤ LIM then some (.own H.length (l ++ l2), H.set r .gone ++ [.right sz], [r]) else none
    | .full l => if (l.all fun c => c.length == sz) = true ∧ (l2.all fun c => c.length == sz) = true ∧ (l.length + l2.length) * by_ ≤ LIM then some (.own H.length (l ++ l2), H ++ [.right sz], []) else none
    | .s (.slice none 0 0) => if (l2.all fun c => c.length == sz) = true ∧ l2.length * by_ ≤ LIM then some (.own H.length l2, H ++ [.right sz], []) else none
    | _ => none

theorem all_len {l : List (List PC)} {sz : Nat} (h : (l.all fun c => c.length == sz) = true) : ∀ c ∈ l, c.length = sz := fun c hc => by simpa using List.all_eq_true.1 h c hc
/-- What is added, as append reads it. -/
theorem add_flat {g : Gh} {W : World} {n : Nat} {x : AC} {u : Value} {l2 : List (List PC)} {sz : Nat} (h : AR g W n x u) (he : addEls x = some l2) (hs : ∀ c ∈ l2, c.length = sz) :
    ∃ vs, Flat W g.imm sz l2 vs ∧ (∀ (P : Program) (W' : World), (Builtin.lenOf u).run P W' = .ok l2.length W') ∧ ∀ (P : Program) (W' : World), Keeps W g.imm W' g.imm → (Builtin.firstCells sz l2.length u).run P W' = .ok vs.toArray W' := by
  unfold addEls at he
  split at he
  · rename_i b
    cases he
    obtain ⟨_, rfl⟩ := h
    have hsz : b.data.toList ≠ [] → sz = 1 := by
      intro hne
      obtain ⟨c, hc⟩ := List.exists_mem_of_ne_nil _ hne
      exact (hs _ (List.mem_map.2 ⟨c, hc, rfl⟩)).symm
    have hbs : b.size = b.data.toList.length := by rw [Array.length_toList]; rfl
    refine ⟨b.data.toList.map fun c => .int .u8 c.toNat, ⟨?_, hs, fun i c hi j p hj => ?_⟩, fun P W' => ?_, fun P W' _ => ?_⟩
    · simp only [List.length_map]
      by_cases hne : b.data.toList = []
      · simp [hne]
      · rw [hsz hne]; simp
    · rw [List.getElem?_map] at hi
      cases hc : b.data.toList[i]? with
      | none => rw [hc] at hi; cases hi
      | some c' =>
        rw [hc] at hi
        cases hi
        have e1 := hsz (fun h => by rw [h] at hc; cases hc)
        rcases j with _ | j
        · simp at hj
          subst hj
          refine ⟨.int .u8 c'.toNat, ?_, .s _ rfl⟩
          rw [e1, Nat.mul_one, Nat.add_zero, List.getElem?_map, hc]
          rfl
        · simp at hj
    · show Result.ok b.size W' = _
      rw [hbs, List.length_map]
    · have e2 : b.extract 0 (b.data.toList.map fun c => ([PC.s (.int .u8 c.toNat)] : List PC)).length = b := by
        rw [List.length_map, ← hbs]
        exact ByteArray.extract_zero_size
      show Result.ok (Array.map _ (b.extract 0 _).data) W' = _
      rw [e2]
      congr 1
      apply Array.ext'
      simp
  · have hr := els_row h he
    obtain ⟨a, cap, vs, rfl, _, _, hf, hc, _, _⟩ := PR.flat hr hs
    exact ⟨vs, hf, fun P W' => rfl, hc⟩
theorem zeroCells_size {z : Array Value} {n : Nat} : (Builtin.zeroCells z n).size = n * z.size := by simp [Builtin.zeroCells]
theorem append_in {P : Program} {W : World} {ta tb e T : TypeId} {sz len cap n : Nat} {a : Option Addr} {z : Value} {vs : List Value} (hu : P.underlying ta = some (.slice e)) (hsz : szT P e = some sz) (h2 : addT P tb = true)
    (hlen : (Builtin.lenOf z).run P W = .ok n W) (hc : (Builtin.firstCells sz n z).run P W = .ok vs.toArray W) (hin : len + n ≤ cap) :
    (Builtin.append_ #[ta, tb] T #[.slice a len cap, z]).run P W = match a with | none => .ok (.slice none (len + n) cap) W | some x => ((storeCells (x.add (len * sz)) vs).run P W).andThen fun _ W' => .ok (.slice (some x) (len + n) cap) W' := by
  rcases addT_of h2 with ⟨e2, h2⟩ | h2 <;> cases a <;> simp [Builtin.append_, run_underlying hu, run_underlying h2, r_sizeOf hsz, hlen, hc, hin]
theorem append_new {P : Program} {W : World} {ta tb e T : TypeId} {sz by_ len cap n : Nat} {a : Option Addr} {z zz : Value} {vs1 vs2 : List Value} (hu : P.underlying ta = some (.slice e)) (hsz : szT P e = some sz) (hby : bytesT P e = some by_) (hb1 : 1 ≤ by_) (hz : zeroT P e = some zz) (h2 : addT P tb = true)
    (hlen : ∀ W', (Builtin.lenOf z).run P W' = .ok n W') (hc1 : (Builtin.firstCells sz len (.slice a len cap)).run P W.drew = .ok vs1.toArray W.drew) (hc2 : (Builtin.firstCells sz n z).run P W.drew = .ok vs2.toArray W.drew) (hin : ¬ len + n ≤ cap)
    (hmul : Builtin.nextslicecap (len + n) cap * by_ ≤ 281474976710656) :
    (Builtin.append_ #[ta, tb] T #[.slice a len cap, z]).run P W = .ok (.slice (some ⟨W.heap.size, 0, none⟩) (len + n) (Question.cut (.appendCap (len + n) cap e) (W.tape W.drawn (.appendCap (len + n) cap e))))
      (W.drew.alloc (.cells ((vs1 ++ vs2).toArray ++ Builtin.zeroCells zz.cells (Question.cut (.appendCap (len + n) cap e) (W.tape W.drawn (.appendCap (len + n) cap e)) - (len + n))) e)) := by
  obtain ⟨i, hi⟩ : ∃ i, P.info? e = some i ∧ i.bytes = by_ := by
    unfold bytesT at hby
    cases h : P.info? e with
    | none => rw [h] at hby; cases hby
    | some i => rw [h] at hby; cases hby; exact ⟨i, rfl, rfl⟩
  have hti : ∀ W', (typeInfo e).run P W' = .ok i W' := fun W' => by simp [typeInfo, hi.1]
  have hb0 : ¬ (i.bytes = 0) := by rw [hi.2]; omega
  have hm : ¬ (Builtin.nextslicecap (len + n) cap * i.bytes > 2 ^ 48) := by rw [hi.2]; omega
  have hdrew : ({ W with drawn := W.drawn + 1 } : World) = W.drew := rfl
  have hf : Question.forced (.appendCap (len + n) cap e) = false := rfl
  rcases addT_of h2 with ⟨e2, h2⟩ | h2
  all_goals
    unfold Builtin.append_
    simp [run_underlying hu, run_underlying h2, r_sizeOf hsz, hlen, hin, hti, hb0, hm, hf, hdrew, hc1, hc2, r_zero hz, newRow]
    first | rfl | (refine congrArg (fun c => W.drew.alloc (Obj.cells c e)) (Array.ext' ?_); simp)

theorem own_R {g : Gh} {W : World} {H : Heap} {sz B : Nat} {v : Value} {l : List (List PC)} (hp : PR W g.imm (.row l) v) (hs : ∀ c ∈ l, c.length = sz) : AR (withRight g H.length B sz v) W (H ++ [Blk.right sz]).length (.own H.length l) v :=
  ⟨by simp, (if_pos rfl).symm, hp, fun c hc => (hs c hc).trans (if_pos rfl).symm⟩
theorem do_append {P : Program} {g : Gh} {H : Heap} {W : World} (h : HR g H W) {ts : Array TypeId} {T : TypeId} {s x : AC} {u z : Value} {a' : AC} {H' : Heap} {D : List Nat} (hs : AR g W H.length s u) (hx : AR g W H.length x z)
    (he : evAppend P ts.toList s x H = some (a', H', D)) : ∃ v W' g', (Builtin.append_ ts T #[u, z]).run P W = .ok v W' ∧ Step g H W g' H' W' D ∧ AR g' W' H'.length a' v := by
  unfold evAppend at he
  cases ho : appendOk P ts.toList with
  | none => rw [ho] at he; cases he
  | some k =>
    obtain ⟨sz, by_, e⟩ := k
    rw [ho] at he
    simp only [Option.bind_some] at he
    cases ha : addEls x with
    | none => rw [ha] at he; cases he
    | some l2 =>
      rw [ha] at he
      simp only [Option.bind_some] at he
      obtain ⟨ta, tb, hts, hu, hsz, hby, zz, hz, hzs, hb1, hb2, hu2⟩ : ∃ ta tb, ts = #[ta, tb] ∧ P.underlying ta = some (.slice e) ∧ szT P e = some sz ∧ bytesT P e = some by_ ∧ ∃ zz, zeroT P e = some zz ∧ zz.cells.size = sz ∧ 1 ≤ by_ ∧ by_ ≤ 1048576 ∧ addT P tb = true := by
        unfold appendOk at ho
        split at ho
        · rename_i ta tb hts
          split at ho
          · rename_i e' hu
            cases h1 : szT P e' with
            | none => rw [h1] at ho; cases ho
            | some sz' =>
              rw [h1] at ho
              cases h2 : bytesT P e' with
              | none => rw [h2] at ho; cases ho
              | some by' =>
                rw [h2] at ho
                cases h3 : zeroT P e' with
                | none => rw [h3] at ho; cases ho
                | some zz =>
                  rw [h3] at ho
                  simp only [Option.bind_some] at ho
                  split at ho
                  · rename_i hc
                    cases ho
                    exact ⟨ta, tb, by apply Array.ext'; simpa using hts, hu, h1, h2, zz, h3, hc.1, hc.2.1, hc.2.2.1, hc.2.2.2⟩
                  · cases ho
          · cases ho
        · cases ho
      subst hts
      obtain ⟨l, hl, hl1, hl2, hlim, hkind⟩ : ∃ l : List (List PC), s.els = some l ∧ (∀ c ∈ l, c.length = sz) ∧ (∀ c ∈ l2, c.length = sz) ∧ (l.length + l2.length) * by_ ≤ LIM ∧
          ((∃ r, s = .own r l ∧ H[r]? = some (.right sz) ∧ a' = .own H.length (l ++ l2) ∧ H' = H.set r .gone ++ [.right sz] ∧ D = [r]) ∨
            ((∃ a, u = .slice a l.length l.length) ∧ a' = .own H.length (l ++ l2) ∧ H' = H ++ [.right sz] ∧ D = [])) := by
        split at he
        · rename_i r l
          split at he
          · rename_i hc
            cases he
            have hr := isRight_get hc.1
            refine ⟨l, rfl, ?_, all_len hc.2.1, hc.2.2, .inl ⟨r, rfl, hr, rfl, rfl, rfl⟩⟩
            have e0 := (h.right r sz hr).1
            intro c hcm
            rw [hs.2.2.2 c hcm, e0]
          · cases he
        · rename_i l
          split at he
          · rename_i hc
            cases he
            exact ⟨l, rfl, all_len hc.1, all_len hc.2.1, hc.2.2, .inr ⟨hs.2, rfl, rfl, rfl⟩⟩
          · cases he
        · split at he
          · rename_i hc
            cases he
            obtain ⟨_, rfl⟩ := hs
            exact ⟨[], rfl, by simp, all_len hc.1, by simpa using hc.2, .inr ⟨⟨none, rfl⟩, by simp, rfl, rfl⟩⟩
          · cases he
        · cases he
      obtain ⟨vs2, hf2, hlen2, hcells2⟩ := add_flat hx ha hl2
      obtain ⟨a, cap, vs1, rfl, hle, hmax, hf1, hcells1, hat, hnone⟩ := PR.flat (els_row hs hl) hl1
      have hfl := hf1.append hf2
      have hll : ∀ c ∈ l ++ l2, c.length = sz := fun c hc => (List.mem_append.1 hc).elim (hl1 c) (hl2 c)
      have hlimN : (l.length + l2.length) * by_ ≤ 1099511627776 := hlim
      have hneed : l.length + l2.length ≤ 1099511627776 := Nat.le_trans (Nat.le_mul_of_pos_right _ hb1) hlimN
      have hrow := els_row hs hl
      by_cases hin : l.length + l2.length ≤ cap
      · have hrun := append_in (P := P) (W := W) (T := T) (a := a) (cap := cap) hu hsz hu2 (hlen2 P W) (hcells2 P W (.refl _ _)) hin
        by_cases hroom : l2 = []
        · subst hroom
          have hv2 : vs2 = [] := by have := hf2.1; simpa using this
          subst hv2
          have hrun2 : (Builtin.append_ #[ta, tb] T #[.slice a l.length cap, z]).run P W = .ok (.slice a l.length cap) W := by
            rw [hrun]
            cases a <;> rfl
          have hl0 : l ++ [] = l := List.append_nil l
          rcases hkind with ⟨r, rfl, hr, rfl, rfl, rfl⟩ | ⟨⟨a0, e0⟩, rfl, rfl, rfl⟩
          · obtain ⟨hsz', a1, len1, cap1, hrt, hle1, hc1⟩ := h.right r sz hr
            have hrt2 : g.rt r = .slice a l.length cap := hs.2.1.symm
            rw [hrt2] at hrt
            cases hrt
            have S2 := Step.right (s := sz) (v := .slice a l.length cap) (B := g.blk r) (Step.gone (Step.refl h) r) rfl hle (fun hlt => by
              obtain ⟨o, C, e, ho, hw, hC, hi⟩ := hc1 hlt
              refine ⟨fun d y hd hy => ?_, o, C, e, ho, hw, hC, hi⟩
              by_cases ed : d = r
              · subst ed; rw [List.getElem?_set_self (lt_of_get hr)] at hd; cases hd; exact hy.elim
              · rw [List.getElem?_set_ne (fun x => ed x.symm)] at hd
                exact h.apart d r y _ hd hr ed hy ⟨_, _, _, hrt2, hlt⟩) (fun hlt => .inr ⟨r, by simp, _, hr, ⟨_, _, _, hrt2, hlt⟩, rfl⟩)
            rw [hl0]
            have hA := own_R (g := g) (W := W) (H := H.set r .gone) (sz := sz) (B := g.blk r) hrow hl1
            rw [List.length_set] at S2 hA
            exact ⟨_, _, _, hrun2, S2, hA⟩
          · cases e0
            have S2 := Step.right (s := sz) (v := .slice a l.length l.length) (B := 0) (Step.refl h) rfl (Nat.le_refl _) (fun hlt => absurd hlt (Nat.lt_irrefl _)) (fun hlt => absurd hlt (Nat.lt_irrefl _))
            rw [hl0]
            exact ⟨_, _, _, hrun2, S2, own_R hrow hl1⟩
        · have hpos : 0 < l2.length := List.length_pos_iff.2 hroom
          rcases hkind with ⟨r, rfl, hr, rfl, rfl, rfl⟩ | ⟨⟨a0, e0⟩, _⟩
          · have hrt2 : g.rt r = .slice a l.length cap := hs.2.1.symm
            obtain ⟨hsz', a1, len1, cap1, hrt, hle1, hc1⟩ := h.right r sz hr
            rw [hrt2] at hrt
            cases hrt
            have hlt : l.length < cap := by omega
            obtain ⟨o, C, e, ho, hw, hC, hi⟩ := hc1 hlt
            subst ho
            have hfit : l.length * sz + vs2.length ≤ cap * sz := by rw [hf2.1, ← Nat.add_mul]; exact Nat.mul_le_mul_right _ hin
            obtain ⟨b1, S, ⟨C2, e2, hw2, hC2⟩, b3, b4⟩ := Step.inplace h hr hrt2 hlt hfit hf2.one
            have hrun2 : (Builtin.append_ #[ta, tb] T #[.slice (some ⟨g.blk r, o, none⟩) l.length cap, z]).run P W = .ok (.slice (some ⟨g.blk r, o, none⟩) (l.length + l2.length) cap) (setCells W (g.blk r) (o + l.length * sz) vs2) := by
              rw [hrun]
              simp only [add_mk, b1, Result.andThen_ok]
            have S2 := Step.right (s := sz) (v := .slice (some ⟨g.blk r, o, none⟩) (l.length + l2.length) cap) (B := g.blk r) S rfl hin (fun hl3 => by
              refine ⟨fun d y hd hy => ?_, o, C2, e2, rfl, hw2, hC2, fun o' h1 h2 hh => ?_⟩
              · by_cases ed : d = r
                · subst ed; rw [List.getElem?_set_self (lt_of_get hr)] at hd; cases hd; exact hy.elim
                · rw [List.getElem?_set_ne (fun x => ed x.symm)] at hd
                  exact h.apart d r y _ hd hr ed (by cases y <;> exact hy) ⟨_, _, _, hrt2, hlt⟩
              · rw [Nat.add_mul] at h1
                rcases hh with hh | ⟨_, h3, h4⟩
                · exact b4 o' (by omega) h2 hh
                · rw [hf2.1] at h4; omega) (fun _ => .inr ⟨r, by simp, _, hr, ⟨_, _, _, hrt2, hlt⟩, rfl⟩)
            have hpr := (hfl.mono S.ext.keeps).row (b := g.blk r) (o := o) (cap := cap) (by rw [List.length_append]; exact hin) hmax (fun k v hk => by
                by_cases hk1 : k < vs1.length
                · rw [List.getElem?_append_left hk1] at hk
                  obtain ⟨i1, i2⟩ := (hat _ _ _ rfl).2 k v hk
                  exact ⟨.inl i1, (S.ext.keeps.same _ _ i1).trans i2⟩
                · rw [List.getElem?_append_right (by omega)] at hk
                  have hk2 := b3 _ v hk
                  have hkl := lt_of_get hk
                  have e3 : o + l.length * sz + (k - vs1.length) = o + k := by rw [← hf1.1]; omega
                  rw [e3] at hk2
                  refine ⟨.inr ⟨rfl, ?_, ?_⟩, hk2⟩
                  · rw [← hf1.1]; omega
                  · rw [← hf1.1]; omega)
            rw [List.length_append] at hpr
            have hA := own_R (H := H.set r .gone) (sz := sz) (B := g.blk r) hpr hll
            rw [List.length_set] at S2 hA
            exact ⟨_, _, _, hrun2, S2, hA⟩
          · cases e0; omega
      · have hmul : Builtin.nextslicecap (l.length + l2.length) cap * by_ ≤ 281474976710656 := by
          refine Nat.le_trans (Nat.mul_le_mul_right _ (nextcap_le (need := l.length + l2.length) (cap := cap) (by omega))) ?_
          rw [Nat.add_mul, Nat.mul_assoc]
          have : 1024 * by_ ≤ 1024 * 1048576 := Nat.mul_le_mul_left _ hb2
          omega
        have kd : Keeps W g.imm W.drew g.imm := ⟨fun _ _ h => h, fun _ _ _ => rfl⟩
        have hrun := append_new (P := P) (W := W) (T := T) (a := a) (cap := cap) hu hsz hby hb1 hz hu2 (hlen2 P) (hcells1 P W.drew kd) (hcells2 P W.drew kd) hin hmul
        obtain ⟨nc, hnc⟩ : ∃ nc, nc = Question.cut (.appendCap (l.length + l2.length) cap e) (W.tape W.drawn (.appendCap (l.length + l2.length) cap e)) := ⟨_, rfl⟩
        rw [← hnc] at hrun
        have hnc1 : l.length + l2.length ≤ nc ∧ nc ≤ maxLen := by
          have e9 : maxLen = 2 ^ 63 - 1 := rfl
          have : W.tape W.drawn (.appendCap (l.length + l2.length) cap e) % (2 ^ 63 - (l.length + l2.length)) < 2 ^ 63 - (l.length + l2.length) := Nat.mod_lt _ (by omega)
          have e8 : nc = l.length + l2.length + W.tape W.drawn (.appendCap (l.length + l2.length) cap e) % (2 ^ 63 - (l.length + l2.length)) := hnc
          omega
        have S1 : Step g H W g H W.drew [] := Step.grow (W' := W.drew) h rfl rfl rfl (Nat.le_refl _) (fun _ _ => rfl) rfl rfl rfl (fun _ _ x => x) (fun _ _ x => .inl x)
        have hvl : (vs1 ++ vs2).length = (l.length + l2.length) * sz := by rw [hfl.1, List.length_append]
        obtain ⟨S2, hfl2, hcell2⟩ := Step.row (C := (vs1 ++ vs2).toArray ++ Builtin.zeroCells zz.cells (nc - (l.length + l2.length))) S1.hr e (hfl.mono S1.ext.keeps) rfl (fun k u hk => by
          rw [← Array.getElem?_toList, Array.toList_append, List.getElem?_append_left (lt_of_get hk)]
          exact hk)
        have S12 := S1.trans S2
        have hsize : ((vs1 ++ vs2).toArray ++ Builtin.zeroCells zz.cells (nc - (l.length + l2.length))).size = nc * sz := by
          rw [Array.size_append, zeroCells_size, hzs, List.size_toArray, hvl, ← Nat.add_mul]
          congr 1; omega
        have hpr := hfl2.row (b := W.heap.size) (o := 0) (cap := nc) (by rw [List.length_append]; exact hnc1.1) hnc1.2 hcell2
        rw [show (l ++ l2).length = l.length + l2.length from List.length_append] at hpr
        have hblk : (W.drew.alloc (.cells ((vs1 ++ vs2).toArray ++ Builtin.zeroCells zz.cells (nc - (l.length + l2.length))) e)).heap[W.heap.size]? = some (.cells ((vs1 ++ vs2).toArray ++ Builtin.zeroCells zz.cells (nc - (l.length + l2.length))) e (0, 0)) := by
          show (W.heap.push _)[W.heap.size]? = _; simp
        have hfresh : ∀ d y, H[d]? = some y → roomy g d y → g.blk d ≠ W.heap.size := fun d y hd hy => Nat.ne_of_lt (roomy_blk h hd hy)
        have himm : ∀ o', (l.length + l2.length) * sz ≤ o' → ¬ (immNew g W.heap.size (vs1 ++ vs2).length).imm W.heap.size o' := by
          intro o' ho hh
          rcases hh with hh | ⟨_, hh⟩
          · obtain ⟨v, hv⟩ := h.imm _ _ hh
            have := lt_of_cell hv; omega
          · rw [hvl] at hh; omega
        rcases hkind with ⟨r, rfl, hr, rfl, rfl, rfl⟩ | ⟨_, rfl, rfl, rfl⟩
        · have S3 := Step.right (s := sz) (v := .slice (some ⟨W.heap.size, 0, none⟩) (l.length + l2.length) nc) (B := W.heap.size) (S12.gone r) rfl hnc1.1 (fun _ => by
            refine ⟨fun d y hd hy => ?_, 0, _, _, rfl, hblk, by rw [hsize]; omega, fun o' h1 _ => himm o' (by omega)⟩
            by_cases ed : d = r
            · subst ed; rw [List.getElem?_set_self (lt_of_get hr)] at hd; cases hd; exact hy.elim
            · rw [List.getElem?_set_ne (fun x => ed x.symm)] at hd
              exact hfresh d y hd (by cases y <;> exact hy)) (fun _ => .inl (Nat.le_refl _))
          have hA := own_R (H := H.set r .gone) (sz := sz) (B := W.heap.size) hpr hll
          rw [List.length_set] at S3 hA
          exact ⟨_, _, _, hrun, S3.sub (by simp), hA⟩
        · have S3 := Step.right (s := sz) (v := .slice (some ⟨W.heap.size, 0, none⟩) (l.length + l2.length) nc) (B := W.heap.size) S12 rfl hnc1.1 (fun _ => by
            refine ⟨fun d y hd hy => ?_, 0, _, _, rfl, hblk, by rw [hsize]; omega, fun o' h1 _ => himm o' (by omega)⟩
            exact hfresh d y hd (by cases y <;> exact hy)) (fun _ => .inl (Nat.le_refl _))
          exact ⟨_, _, _, hrun, S3.sub (by simp), own_R hpr hll⟩
end Go.Proofs.Ytalnfojlmkebnaa.AI
