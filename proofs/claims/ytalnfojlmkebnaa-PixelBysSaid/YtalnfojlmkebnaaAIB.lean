/- An abstract machine for the program's code, and what it says of the machine's own runs. -/
import Derived.Test.YtalnfojlmkebnaaAIA
import Derived.Orders
import Derived.IntWalk
import Derived.Laws.BytesString
import Derived.Lib.ConvBytes
import Derived.Laws.StructEq
import Derived.ChangeKeysEq
namespace Go.Proofs.Ytalnfojlmkebnaa.AI
open Go Go.RowKit
set_option linter.unusedVariables false
set_option linter.unusedSimpArgs false
/-! Rows told one by one; parts of rows; texts; operations on plain values. -/
theorem chunks_get {α : Type} (sz : Nat) : ∀ (n : Nat) (l : List α) (i : Nat) (c : List α), (chunks sz n l)[i]? = some c → i < n ∧ c = (l.drop (i * sz)).take sz
  | 0, l, i, c, h => by simp [chunks] at h
  | n + 1, l, 0, c, h => by simp [chunks] at h; exact ⟨by omega, by simp [h]⟩
  | n + 1, l, i + 1, c, h => by
    simp only [chunks, List.getElem?_cons_succ] at h
    obtain ⟨a, b⟩ := chunks_get sz n (l.drop sz) i c h
    refine ⟨by omega, ?_⟩
    rw [b, List.drop_drop, Nat.add_mul, Nat.one_mul, Nat.add_comm]
theorem chunks_len {α : Type} (sz : Nat) : ∀ (n : Nat) (l : List α), (chunks sz n l).length = n
  | 0, _ => rfl
  | n + 1, l => by simp [chunks, chunks_len sz n]
theorem mapM_get {α β : Type} {f : α → Option β} : ∀ {l : List α} {r : List β}, l.mapM f = some r → r.length = l.length ∧ ∀ (i : Nat) (b : β), r[i]? = some b → ∃ a, l[i]? = some a ∧ f a = some b
  | [], r, h => by simp at h; subst h; exact ⟨rfl, fun i b h => by simp at h⟩
  | a :: l, r, h => by
    rw [List.mapM_cons] at h
    cases ha : f a with
    | none => rw [ha] at h; cases h
    | some b =>
      rw [ha] at h
      cases hl : l.mapM f with
      | none =>
        rw [hl] at h
        cases h
      | some r' =>
        rw [hl] at h
        cases h
        obtain ⟨e, hg⟩ := mapM_get hl
        refine ⟨by simp [e], fun i c hi => ?_⟩
        rcases i with _ | i
        · simp at hi; subst hi; exact ⟨a, by simp, ha⟩
        · obtain ⟨x, hx, hf⟩ := hg i c (by simpa using hi); exact ⟨x, by simpa using hx, hf⟩
/-- The cells of a flat list, as elements. -/
theorem chunk_flat {g : Gh} {W : World} {n : Nat} {sz m : Nat} {cs : List AC} {vs : List Value} {l : List (List PC)} (ha : ARs g W n cs vs) (hl : cs.length = m * sz) (h : toPC (chunks sz m cs) = some l) : Flat W g.imm sz l vs ∧ l.length = m := by
  obtain ⟨e, hg⟩ := mapM_get h
  rw [chunks_len] at e
  have hel : ∀ (i : Nat) (c : List PC), l[i]? = some c → i < m ∧ c.length = sz ∧ ∀ (j : Nat) (p : PC), c[j]? = some p → ∃ a, cs[i * sz + j]? = some a ∧ a.pc = some p ∧ j < sz := by
    intro i c hi
    obtain ⟨ca, hca, hm⟩ := hg i c hi
    obtain ⟨him, rfl⟩ := chunks_get sz m cs i ca hca
    obtain ⟨e2, hg2⟩ := mapM_get hm
    have hlen : ((cs.drop (i * sz)).take sz).length = sz := by
      rw [List.length_take, List.length_drop, hl]
      have : (i + 1) * sz ≤ m * sz := Nat.mul_le_mul_right _ him
      rw [Nat.add_mul] at this; omega
    refine ⟨him, by rw [e2, hlen], fun j p hj => ?_⟩
    obtain ⟨a, ha', hp⟩ := hg2 j p hj
    have hjl : j < sz := by have := lt_of_get ha'; rw [hlen] at this; exact this
    rw [List.getElem?_take_of_lt hjl, List.getElem?_drop] at ha'
    exact ⟨a, ha', hp, hjl⟩
  refine ⟨⟨by rw [ha.length, hl, e], fun c hc => ?_, fun i c hi j p hj => ?_⟩, e⟩
  · obtain ⟨i, hi⟩ := List.getElem?_of_mem hc
    exact (hel i c hi).2.1
  · obtain ⟨a, ha', hp, _⟩ := (hel i c hi).2.2 j p hj
    obtain ⟨u, hu, hr⟩ := ha.get ha'
    exact ⟨u, hu, ac_pc hr hp⟩
def zeroFlat (z : Array Value) (n : Nat) : List AC := (List.range n).map fun i => .s (z[i % z.size]!)
theorem zeroFlat_R (g : Gh) (W : World) (k : Nat) {z : Array Value} {n : Nat} (hz : z.all one = true) (h0 : n ≠ 0 → 0 < z.size) : ARs g W k (zeroFlat z n) ((Array.range n).map (z[· % z.size]!)).toList := by
  refine ARs.of_get (by simp [zeroFlat]) (fun i a u hi hu => ?_)
  simp only [zeroFlat, List.getElem?_map, Option.map_eq_some_iff] at hi
  obtain ⟨j, hj, rfl⟩ := hi
  simp only [Array.toList_map, List.getElem?_map, Option.map_eq_some_iff] at hu
  obtain ⟨j', hj', rfl⟩ := hu
  have hlt : i < n := by have := lt_of_get hj; simpa using this
  rw [List.getElem?_range hlt] at hj
  cases hj
  have : j' = i := by
    rw [Array.getElem?_toList] at hj'
    simp [Array.getElem?_range, hlt] at hj'
    exact hj'.symm
  subst this
  have hpos := h0 (by omega)
  have hm : j' % z.size < z.size := Nat.mod_lt _ hpos
  refine ⟨?_, rfl⟩
  rw [getElem!_pos z _ hm]
  exact (Array.all_eq_true_iff_forall_mem.1 hz) _ (Array.getElem_mem hm)
def evBuildSlice (P : Program) (t : TypeId) (len : Nat) (parts : List (Nat × AV)) : Option AC := match P.underlying t with
  | some (.slice e) => (szT P e).bind fun s => (zeroT P e).bind fun z =>
      if z.cells.all one = true ∧ z.cells.size = s ∧ 0 < s ∧ len * s ≤ 16777216 then
        (fillA (fun i => some (i * s, s)) (zeroFlat z.cells (len * s)) parts).bind fun cs => if cs.length = len * s then (toPC (chunks s len cs)).map .full else none
      else none
  | _ => none
theorem do_buildSlice {P : Program} {g : Gh} {H : Heap} {W : World} (h : HR g H W) {t : TypeId} {len : Nat} {ps : List (Nat × AV)} {qs : Array (Nat × Value)} {a : AC} (hq : PartsR g W H.length ps qs.toList) (he : evBuildSlice P t len ps = some a) :
    ∃ v W' g', (Instr.buildSlice t len qs).run P W = .ok v W' ∧ Step g H W g' H W' [] ∧ AR g' W' H.length a v := by
  unfold evBuildSlice at he
  split at he
  · rename_i e hu
    cases hs : szT P e with
    | none => rw [hs] at he; cases he
    | some s =>
      rw [hs] at he
      cases hz : zeroT P e with
      | none => rw [hz] at he; cases he
      | some z =>
        rw [hz] at he
        simp only [Option.bind_some] at he
        split at he
        · rename_i hc
          obtain ⟨hc1, hc2, hc3, hc4⟩ := hc
          cases hf : fillA (fun i => some (i * s, s)) (zeroFlat z.cells (len * s)) ps with
          | none => rw [hf] at he; cases he
          | some cs =>
            rw [hf] at he
            simp only [Option.bind_some] at he
            split at he
            · rename_i hcl
              cases hp : toPC (chunks s len cs) with
              | none => rw [hp] at he; cases he
              | some l =>
                rw [hp] at he
                cases he
                obtain ⟨D, hD, hr⟩ := do_fill (place' := fun i => some (i * s, s)) (fun i x hx => hx) hq (zeroFlat_R g W H.length (n := len * s) hc1 (fun _ => by omega)) hf
                obtain ⟨hfl, hll⟩ := chunk_flat hr hcl hp
                subst hll
                obtain ⟨S, hfl2, hcell⟩ := Step.row (C := D) h e hfl rfl (fun k u hk => by simpa using hk)
                have h9 : maxLen = 2 ^ 63 - 1 := rfl
                have hll : l.length ≤ 16777216 := Nat.le_trans (Nat.le_mul_of_pos_right _ hc3) hc4
                refine ⟨_, _, _, ?_, S, hfl2.row (b := W.heap.size) (o := 0) (cap := l.length) (Nat.le_refl _) (by omega) hcell, _, rfl⟩
                have hge : ¬ (l.length * s > 2 ^ 24) := by omega
                simp only [Instr.buildSlice, Sem.run_bind, run_underlying hu, Result.andThen_ok, r_sizeOf hs, if_neg hge]
                split
                · rename_i h0
                  have e0 : (Array.range (l.length * s)).map (z.cells[· % z.cells.size]!) = #[] := by rw [h0]; simp
                  have e1 : (Array.range (l.length * s)).map ((#[] : Array Value)[· % (#[] : Array Value).size]!) = #[] := by rw [h0]; simp
                  rw [e0] at hD
                  simp only [Sem.run_bind, Sem.run_pure, Result.andThen_ok, e1, hD, newRow, run_newObj]
                  rfl
                · simp only [Sem.run_bind, Sem.run_pure, Result.andThen_ok, r_zero hz, hD, newRow, run_newObj]
                  rfl
            · cases he
        · cases he
  · cases he
/-- make, all of it used. -/
def evMakeSlice (P : Program) (t : TypeId) (n c : SV) : Option AC := match P.underlying t with
  | some (.slice e) => n.int.bind fun i => c.int.bind fun j => (szT P e).bind fun s => (bytesT P e).bind fun by_ => (zeroT P e).bind fun z =>
      if i = j ∧ 0 ≤ i ∧ i * by_ ≤ 1099511627776 ∧ i ≤ 1099511627776 ∧ z.cells.all one = true ∧ z.cells.size = s ∧ 0 < s then
        some (.full (List.replicate i.toNat (z.cells.toList.map .s)))
      else none
  | _ => none
theorem int_of {g : Gh} {W : World} {n : Nat} {x : SV} {u : Value} {i : Int} (h : SVR g W n x u) (e : x.int = some i) : ∃ k, u = .int k i := by
  unfold SV.int at e
  split at e
  · cases e; obtain ⟨_, rfl⟩ := h; exact ⟨_, rfl⟩
  · cases e
theorem zero_flat (W : World) (imm : Nat → Nat → Prop) {z : Array Value} {s m : Nat} (hz : z.all one = true) (hs : z.size = s) (h0 : 0 < s) : Flat W imm s (List.replicate m (z.toList.map .s)) ((Array.range (m * s)).map (z[· % z.size]!)).toList := by
  refine ⟨by simp, fun c hc => by rw [List.eq_of_mem_replicate hc]; simp [hs], fun i c hi j p hj => ?_⟩
  have hc := List.eq_of_mem_replicate (List.mem_of_getElem? hi)
  subst hc
  have him : i < m := by have := lt_of_get hi; simpa using this
  have hjs : j < s := by have := lt_of_get hj; simpa [hs] using this
  have hk : i * s + j < m * s := by
    have : (i + 1) * s ≤ m * s := Nat.mul_le_mul_right _ him
    rw [Nat.add_mul] at this; omega
  have hmod : (i * s + j) % s = j := by rw [Nat.mul_comm, Nat.mul_add_mod, Nat.mod_eq_of_lt hjs]
  rw [List.getElem?_map] at hj
  cases hv : z.toList[j]? with
  | none => rw [hv] at hj; cases hj
  | some v =>
    rw [hv] at hj
    cases hj
    rw [Array.getElem?_toList] at hv
    obtain ⟨hlt, e⟩ := Array.getElem?_eq_some_iff.1 hv
    refine ⟨v, ?_, .s v ?_⟩
    · rw [Array.getElem?_toList, Array.getElem?_map, Array.getElem?_range, if_pos hk]
      simp only [Option.map_some]
      have e9 : z[(i * s + j) % z.size]! = z[j]! := by rw [hs, hmod]
      rw [e9, getElem!_pos z j hlt, e]
    · rw [← e]; exact (Array.all_eq_true_iff_forall_mem.1 hz) _ (Array.getElem_mem hlt)
theorem do_makeSlice {P : Program} {g : Gh} {H : Heap} {W : World} (h : HR g H W) {t : TypeId} {x y : SV} {u w : Value} {a : AC} (hx : SVR g W H.length x u) (hy : SVR g W H.length y w) (he : evMakeSlice P t x y = some a) :
    ∃ v W' g', (Instr.makeSlice t u w).run P W = .ok v W' ∧ Step g H W g' H W' [] ∧ AR g' W' H.length a v := by
  unfold evMakeSlice at he
  split at he
  · rename_i e hu
    cases hi : x.int with
    | none => rw [hi] at he; cases he
    | some i =>
      rw [hi] at he
      cases hj : y.int with
      | none => rw [hj] at he; cases he
      | some j =>
        rw [hj] at he
        cases hs : szT P e with
        | none => rw [hs] at he; cases he
        | some s =>
          rw [hs] at he
          cases hb : bytesT P e with
          | none => rw [hb] at he; cases he
          | some by_ =>
            rw [hb] at he
            cases hz : zeroT P e with
            | none => rw [hz] at he; cases he
            | some z =>
              rw [hz] at he
              simp only [Option.bind_some] at he
              split at he
              · rename_i hc
                obtain ⟨rfl, h0, h1, h2, h3, h4, h5⟩ := hc
                cases he
                obtain ⟨k, rfl⟩ := int_of hx hi
                obtain ⟨k', rfl⟩ := int_of hy hj
                obtain ⟨m, rfl⟩ := Int.eq_ofNat_of_zero_le h0
                obtain ⟨info, hinfo, hib⟩ : ∃ info, (∀ W', (typeInfo e).run P W' = .ok info W') ∧ info.bytes = by_ := by
                  unfold bytesT at hb
                  cases hh : P.info? e with
                  | none => rw [hh] at hb; cases hb
                  | some q => rw [hh] at hb; cases hb; exact ⟨q, fun W' => by simp [typeInfo, hh], rfl⟩
                have hwr : IntKind.i64.wrap (m : Int) = m := IntWalk.i64_in _ (by omega)
                have hfl := zero_flat W g.imm (m := m) h3 h4 h5
                obtain ⟨S, hfl2, hcell⟩ := Step.row (C := (Array.range (m * s)).map (z.cells[· % z.cells.size]!)) h e hfl rfl (fun k u hk => by rw [Array.getElem?_toList] at hk; exact hk)
                have h9 : maxLen = 2 ^ 63 - 1 := rfl
                have hpr := hfl2.row (b := W.heap.size) (o := 0) (cap := m) (by simp) (by omega) hcell
                simp only [List.length_replicate] at hpr
                refine ⟨.slice (some ⟨W.heap.size, 0, none⟩) m m, _, _, ?_, S, ?_, ?_⟩
                · have q1 : ¬ ((by_ : Int) * (m : Int) > 2 ^ 48) := by rw [Int.mul_comm]; omega
                  have q2 : ¬ ((m : Int) < 0) := by omega
                  have q3 : ¬ ((m : Int) > m) := by omega
                  simp only [Instr.makeSlice, Sem.run_bind, run_underlying hu, Result.andThen_ok, asInt, asIntOf, Sem.run_pure, hinfo, hib, hwr]
                  simp only [q1, q2, q3, decide_false, Bool.or_false, Bool.false_or, Bool.or_self, Bool.false_eq_true, if_false]
                  simp only [Sem.run_bind, run_askRoom, Result.andThen_ok, r_sizeOf hs, Int.toNat_natCast]
                  split
                  · rename_i hm0
                    have e0 : (Array.range (m * s)).map (z.cells[· % z.cells.size]!) = #[] := by rw [hm0]; simp
                    have e1 : (Array.range (m * s)).map ((#[] : Array Value)[· % (#[] : Array Value).size]!) = #[] := by rw [hm0]; simp
                    simp only [Sem.run_bind, Sem.run_pure, Result.andThen_ok, e0, e1, newRow, run_newObj]
                    rfl
                  · simp only [Sem.run_bind, Sem.run_pure, Result.andThen_ok, r_zero hz, newRow, run_newObj]
                    rfl
                · simpa using hpr
                · exact ⟨some ⟨W.heap.size, 0, none⟩, by simp⟩
              · cases he
  · cases he
/-! The other operations. -/
theorem exact_R {g : Gh} {W : World} {n : Nat} {a : AV} {u v : Value} (h : AVR g W n a u) (e : a.exact = some v) : u = v := by
  unfold AV.exact at e
  split at e
  · cases e; exact h.2
  · rename_i l
    obtain ⟨C, rfl, hC⟩ := h
    cases hm : l.mapM AC.exact with
    | none => rw [hm] at e; cases e
    | some vs =>
      rw [hm] at e
      cases e
      obtain ⟨hl, hg⟩ := mapM_get hm
      congr 1
      apply Array.ext'
      apply List.ext_getElem?
      intro i
      by_cases hi : i < vs.length
      · obtain ⟨a, ha, hx⟩ := hg i _ (List.getElem?_eq_getElem hi)
        obtain ⟨u, hu, hr⟩ := hC.get ha
        rw [hu]
        cases a with
        | s v =>
          have hx' : some v = some vs[i] := hx
          obtain ⟨_, rfl⟩ := hr
          simp at hx'
          rw [List.getElem?_eq_getElem (by simpa using hi)]
          simp [hx']
        | _ => cases hx
      · rw [List.getElem?_eq_none (by rw [hC.length, ← hl]; omega), List.getElem?_eq_none (by simpa using Nat.le_of_not_lt hi)]
  · cases e
theorem sv_exact {g : Gh} {W : World} {n : Nat} {x : SV} {u v : Value} (h : SVR g W n x u) (e : x.exact = some v) : u = v := by
  unfold SV.exact SV.av at e
  cases x with
  | v a => exact exact_R h e
  | any => cases e
  | tup l => cases e
theorem ofVal_R (g : Gh) (W : World) (n : Nat) {v : Value} {x : SV} (h : constSV v = x) : SVR g W n x v := by
  subst h
  unfold constSV
  split
  · trivial
  · rename_i cs
    split
    · rename_i hc
      exact ⟨cs, rfl, zeros_R g W n (by simpa using hc)⟩
    · trivial
  · rename_i h1 h2
    refine ⟨?_, rfl⟩
    cases v <;> first | rfl | exact absurd rfl (h1 _) | exact absurd rfl (h2 _)
theorem evA_R {g : Gh} {W : World} {n : Nat} {e : Env} {a : Act} (h : ER g W n e a.tmps) (x : Operand) : SVR g W n (evA e x) (a.eval x) := by
  cases x with
  | tmp t => exact h t
  | const v => exact ofVal_R g W n rfl
  | global g => trivial
  | func f => exact ⟨#[], rfl, rfl, by simp⟩
/-- s[lo:hi:max] of a row. -/
def evSlice (P : Program) (t : TypeId) (x : SV) (lo hi mx : Option SV) : Option AC := match P.underlying t, x with
  | some (.slice e), .v (.c a) => a.els.bind fun l => (szT P e).bind fun sz =>
      (match hi with | none => some l.length | some i => i.int.bind fun i => if 0 ≤ i ∧ i ≤ l.length then some i.toNat else none).bind fun h =>
      (match lo with | none => some 0 | some i => i.int.bind fun i => if 0 ≤ i ∧ i ≤ h then some i.toNat else none).bind fun b =>
      if (l.all fun c => c.length == sz) = true then
        match mx with
        | none => some (.row ((l.take h).drop b))
        | some m => m.int.bind fun m => if hi.isSome ∧ m = h then some (.full ((l.take h).drop b)) else none
      else none
  | _, _ => none
def evSliceS (P : Program) (t : TypeId) (x : SV) (lo hi mx : Option SV) : Option AC := match P.underlying t, x, mx with
  | some .string, .v (.c (.s (.string s))), none =>
      (match hi with | none => some s.size | some i => i.int.bind fun i => if 0 ≤ i ∧ i ≤ s.size then some i.toNat else none).bind fun h =>
      (match lo with | none => some 0 | some i => i.int.bind fun i => if 0 ≤ i ∧ i ≤ h then some i.toNat else none).map fun b => .s (.string (s.extract b h))
  | _, _, _ => none
theorem r_bound {P : Program} {g : Gh} {W : World} {n : Nat} {x : SV} {u : Value} {m k : Nat} {c : BoundsCode} (hx : SVR g W n x u) {i : Int} (hi : x.int = some i) (h : (if 0 ≤ i ∧ i ≤ (m : Int) then some i.toNat else none) = some k) (y : Nat) (hy : m ≤ y) : (Instr.sliceBound u y c).run P W = .ok k W := by
  split at h
  · rename_i hc
    cases h
    obtain ⟨kk, rfl⟩ := int_of hx hi
    have h2 : 0 ≤ i ∧ i ≤ (y : Int) := by omega
    simp [Instr.sliceBound, asIntOf, h2]
  · cases h
theorem drop_flat {W : World} {imm} {sz : Nat} {l : List (List PC)} {vs : List Value} (h : Flat W imm sz l vs) (b k : Nat) (hb : b ≤ k) (hk : k ≤ l.length) : Flat W imm sz ((l.take k).drop b) ((vs.take (k * sz)).drop (b * sz)) := by
  have h1 : k * sz ≤ l.length * sz := Nat.mul_le_mul_right _ hk
  refine ⟨?_, fun c hc => h.2.1 c (List.mem_of_mem_take (List.mem_of_mem_drop hc)), fun i c hi j p hj => ?_⟩
  · simp only [List.length_drop, List.length_take, h.1, Nat.min_eq_left h1, Nat.min_eq_left hk, Nat.sub_mul]
  · rw [List.getElem?_drop] at hi
    have hlt : b + i < k := by have := lt_of_get hi; rw [List.length_take] at this; omega
    rw [List.getElem?_take_of_lt hlt] at hi
    obtain ⟨u, hu, hp⟩ := h.2.2 _ c hi j p hj
    have hjl : j < sz := by rw [← h.2.1 c (List.mem_of_getElem? hi)]; exact lt_of_get hj
    refine ⟨u, ?_, hp⟩
    rw [List.getElem?_drop, show b * sz + (i * sz + j) = (b + i) * sz + j by rw [Nat.add_mul]; omega, List.getElem?_take_of_lt, hu]
    have : (b + i + 1) * sz ≤ k * sz := Nat.mul_le_mul_right _ hlt
    rw [Nat.add_mul, Nat.one_mul] at this
    omega
/-- A row's cut. -/
theorem cut_R {W : World} {imm : Nat → Nat → Prop} {l : List (List PC)} {v : Value} (h : PR W imm (.row l) v) {sz b k c : Nat} (hs : ∀ c ∈ l, c.length = sz) (hb : b ≤ k) (hk : k ≤ l.length) :
    ∃ a len cap, v = .slice a len cap ∧ len = l.length ∧ len ≤ cap ∧ cap ≤ maxLen ∧ ∀ m, k ≤ m → m ≤ cap → PR W imm (.row ((l.take k).drop b)) (.slice (if m = b then a else a.map (·.add (b * sz))) (k - b) (m - b)) := by
  obtain ⟨a, cap, vs, rfl, hle, hm, hf, _, hat, hnone⟩ := PR.flat h hs
  refine ⟨a, _, cap, rfl, rfl, hle, hm, fun m h1 h2 => ?_⟩
  have hlen : ((l.take k).drop b).length = k - b := by rw [List.length_drop, List.length_take]; omega
  cases a with
  | none =>
    obtain ⟨rfl, rfl⟩ := hnone rfl
    have : m = b := by simp at hk; omega
    subst this
    simp only [if_true, Nat.sub_self]
    have e1 : ((([] : List (List PC)).take k).drop m) = [] := by simp
    rw [e1, show k - m = 0 by omega]
    exact .nil
  | some a =>
    by_cases hl0 : l = []
    · subst hl0
      have : k = 0 := by simpa using hk
      subst this
      have : b = 0 := by omega
      subst this
      have e1 : ((([] : List (List PC)).take 0).drop 0) = [] := rfl
      rw [e1]
      split
      · exact .emp a _ (by omega)
      · rw [Option.map_some]; exact .emp _ _ (by omega)
    obtain ⟨B, o, s⟩ := a
    have hs0 : s = none := (hat _ _ _ rfl).1 hl0
    subst hs0
    have hv := (hat _ _ _ rfl).2
    have hf2 := drop_flat hf b k hb hk
    have key : ∀ o', (k - b = 0 ∨ o' = o + b * sz) → PR W imm (.row ((l.take k).drop b)) (.slice (some ⟨B, o', none⟩) (k - b) (m - b)) := by
      intro o' ho
      have := hf2.row (b := B) (o := o') (cap := m - b) (by rw [hlen]; omega) (by omega) (fun q u hq => by
        rcases ho with ho | rfl
        · exfalso
          have hl2 := lt_of_get hq
          rw [hf2.1, hlen, ho] at hl2
          omega
        · rw [List.getElem?_drop] at hq
          have hq2 : vs[b * sz + q]? = some u := by
            have := lt_of_get hq
            rw [List.length_take] at this
            rwa [List.getElem?_take_of_lt (by omega)] at hq
          have := hv _ u hq2
          rwa [← Nat.add_assoc] at this)
      rw [hlen] at this
      exact this
    split
    · rename_i e
      exact key o (.inl (by omega))
    · rw [Option.map_some, add_mk]
      exact key _ (.inr rfl)
def byteOf : List PC → Option UInt8 | [.s (.int .u8 n)] => some (UInt8.ofNat n.toNat) | _ => none
def rowBytes (l : List (List PC)) : Option ByteArray := (l.mapM byteOf).map fun bs => ⟨bs.toArray⟩
def okVal (r : Value) : Bool := match r with | .tuple _ => false | .agg cs => cs.all one | _ => true
def outV (r : Value) : Option SV := if okVal r then some (.v (ofVal r)) else none
def byteRow (b : ByteArray) : List (List PC) := b.data.toList.map fun c => [PC.s (.int .u8 c.toNat)]
def isU8 (P : Program) (e : TypeId) : Bool := match P.underlying e with | some (.int .u8) => true | _ => false
def evConvert (P : Program) (src dst : TypeId) (x : SV) : Option SV := match P.underlying src, P.underlying dst, x with
  | some (.slice e), some .string, .v (.c a) => if isU8 P e then a.els.bind fun l => (rowBytes l).map fun b => .v (.c (.s (.string b))) else none
  | some .string, some (.slice e), .v (.c (.s (.string b))) => if isU8 P e = true ∧ b.size ≤ 1099511627776 then some (.v (.c (.row (byteRow b)))) else none
  | _, _, x => x.exact.bind fun v => (pureRun P (convert src dst v)).bind outV
/-- A slice (true) or a pointer; is it nil? -/
def AC.nil? : AC → Option (Bool × Bool)
  | .s (.slice none 0 0) => some (true, true)
  | .s (.pointer none) => some (false, true)
  | .row (_ :: _) => some (true, false) | .full (_ :: _) => some (true, false) | .own _ (_ :: _) => some (true, false)
  | .ptr _ _ => some (false, false)
  | .rptr _ => some (false, false)
  | _ => none
def refT (P : Program) (t : TypeId) : Option Bool := match P.underlying t with | some (.slice _) => some true | some (.pointer _) => some false | _ => none
def evNil (P : Program) (op : BinOp) (t : TypeId) (a b : AC) : Option Bool := match refT P t, a.nil?, b.nil? with
  | some k, some (k1, p), some (k2, q) => if k1 = k ∧ k2 = k ∧ (p = true ∨ q = true) then (match op with
      | .eql => some (p == q)
      | .neq => some (p != q)
      | _ => none) else none
  | _, _, _ => none
/-- Structs and arrays, compared. -/
def partV (P : Program) (t : TypeId) (cs : Array Value) (off : Nat) : Option Value := match aggT P t with
  | some true => (szT P t).map fun n => .agg (cs.extract off (off + n))
  | some false => cs[off]?
  | none => none
theorem r_part {P : Program} {t : TypeId} {cs : Array Value} {off : Nat} {v : Value} (h : partV P t cs off = some v) (W : World) : (part t cs off).run P W = .ok v W := by
  unfold partV at h
  unfold part
  split at h
  · rename_i ha
    rw [Option.map_eq_some_iff] at h
    obtain ⟨n, hn, rfl⟩ := h
    simp only [Sem.run_bind, r_isAgg ha, Result.andThen_ok, if_true, r_sizeOf hn, Sem.run_pure]
  · rename_i ha
    simp only [Sem.run_bind, r_isAgg ha, Result.andThen_ok, Bool.false_eq_true, if_false, h, Sem.run_pure]
  · cases h
def eqFs (rec : TypeId → Value → Value → Option Bool) (P : Program) (xs ys : Array Value) : List Field → Option Bool
  | [] => some true
  | f :: fs => if f.name ≠ "_" then match partV P f.type xs f.offset, partV P f.type ys f.offset with
      | some a, some b => match rec f.type a b, eqFs rec P xs ys fs with
        | some r, some s => if fs.isEmpty then some r else some (r && s)
        | _, _ => none
      | _, _ => none
    else eqFs rec P xs ys fs
def eqIs (rec : TypeId → Value → Value → Option Bool) (P : Program) (e : TypeId) (n : Nat) (xs ys : Array Value) : List Nat → Option Bool
  | [] => some true
  | i :: is => match partV P e xs (i * n), partV P e ys (i * n) with
    | some a, some b => match rec e a b, eqIs rec P e n xs ys is with
      | some r, some s => if is.isEmpty then some r else some (r && s)
      | _, _ => none
    | _, _ => none
def eqV (P : Program) : Nat → TypeId → Value → Value → Option Bool
  | 0, _, _, _ => none
  | d + 1, t, x, y => match P.underlying t, x, y with
    | some .bool, .bool a, .bool b => some (a == b)
    | some (.int _), .int k a, .int k' b => if k = k' then some (a == b) else none
    | some .string, .string a, .string b => some (a == b)
    | some (.struct fs), .agg xs, .agg ys => if P.stoodInHeld t = false then eqFs (eqV P d) P xs ys fs.toList else none
    | some (.array n e), .agg xs, .agg ys => if (P.info? e).isSome then eqIs (eqV P d) P e (P.cellsOf e) xs ys (List.range n) else none
    | _, _, _ => none
theorem eqFs_run {P : Program} {W : World} {d : Nat} {rec : TypeId → Value → Value → Option Bool} (hrec : ∀ t x y b, rec t x y = some b → (Op.equalIn d t x y).run P W = .ok b W) {xs ys : Array Value} : ∀ {fs : List Field} {b : Bool}, eqFs rec P xs ys fs = some b → (Op.eqFields d xs ys fs).run P W = .ok b W
  | [], b, h => by simp only [eqFs] at h; cases h; simp [Op.eqFields]
  | f :: fs, b, h => by
    simp only [eqFs] at h
    unfold Op.eqFields
    split at h
    · rename_i hn
      rw [if_pos hn]
      split at h
      · rename_i u v hu hv
        split at h
        · rename_i r s hr hs
          have ih := eqFs_run hrec hs
          simp only [Sem.run_bind, r_part hu, r_part hv, hrec _ _ _ _ hr, Result.andThen_ok]
          split at h
          · rename_i he
            cases h
            have : fs = [] := by simpa using he
            subst this
            simp only [eqFs] at hs
            cases hs
            cases b <;> simp [Op.eqFields]
          · cases h
            cases r
            · simp
            · simpa using ih
        · cases h
      · cases h
    · rename_i hn
      rw [if_neg hn]
      exact eqFs_run hrec h
theorem eqIs_run {P : Program} {W : World} {d : Nat} {rec : TypeId → Value → Value → Option Bool} (hrec : ∀ t x y b, rec t x y = some b → (Op.equalIn d t x y).run P W = .ok b W) {e : TypeId} {n : Nat} {xs ys : Array Value} : ∀ {is : List Nat} {b : Bool}, eqIs rec P e n xs ys is = some b → (Op.eqItems d e n xs ys is).run P W = .ok b W
  | [], b, h => by simp only [eqIs] at h; cases h; simp [Op.eqItems]
  | i :: is, b, h => by
    simp only [eqIs] at h
    unfold Op.eqItems
    split at h
    · rename_i u v hu hv
      split at h
      · rename_i r s hr hs
        have ih := eqIs_run hrec hs
        simp only [Sem.run_bind, r_part hu, r_part hv, hrec _ _ _ _ hr, Result.andThen_ok]
        split at h
        · rename_i he
          cases h
          have : is = [] := by simpa using he
          subst this
          simp only [eqIs] at hs
          cases hs
          cases b <;> simp [Op.eqItems]
        · cases h
          cases r
          · simp
          · simpa using ih
      · cases h
    · cases h
theorem eqV_run {P : Program} {W : World} (m : Nat) : ∀ (d : Nat) (t : TypeId) (x y : Value) (b : Bool), eqV P d t x y = some b → (Op.equalIn (d + m) t x y).run P W = .ok b W := by
  intro d
  induction d with
  | zero => intro t x y b h; cases h
  | succ d ih =>
    intro t x y b h
    rw [show d + 1 + m = (d + m) + 1 by omega]
    simp only [eqV] at h
    split at h
    · rename_i a b hu; cases h; exact run_equalIn_bool W _ t a b hu
    · rename_i k0 k a k' b hu
      split at h
      · rename_i e; cases h; subst e; exact run_equalIn_int W _ t k k0 a b hu
      · cases h
    · rename_i a b hu; cases h; rw [beq_toListBytes]; simp [Op.equalIn, run_underlying hu, beq_toListBytes]
    · rename_i fs xs ys hu
      split at h
      · rename_i hp
        have hf : P.fieldsOf t = fs := by simp [Program.fieldsOf, hu]
        rw [run_equalIn_struct W _ t xs ys (by rw [hf]; exact hu) hp, hf]
        exact eqFs_run ih h
      · cases h
    · rename_i n e xs ys hu
      split at h
      · rename_i hi
        obtain ⟨i, hi⟩ := Option.isSome_iff_exists.1 hi
        rw [run_equalIn_array (P := P) W _ xs ys hu hi]
        exact eqIs_run ih h
      · cases h
    · cases h
def eqAgg (P : Program) (op : BinOp) (t : TypeId) (a b : Value) : Option Value := match op, a, b with
  | .eql, .agg xs, .agg ys => if P.eqGuardType P.depth t = false then (eqV P 30 t (.agg xs) (.agg ys)).map .bool else none
  | .neq, .agg xs, .agg ys => if P.eqGuardType P.depth t = false then (eqV P 30 t (.agg xs) (.agg ys)).map fun b => .bool (!b) else none
  | _, _, _ => none
theorem eqAgg_run {P : Program} {W : World} {op : BinOp} {t : TypeId} {a b v : Value} (ox oy : Operand) (h : eqAgg P op t a b = some v) : (do eqGuard op t ox oy a b; binOp op t a b : Sem Value).run P W = .ok v W := by
  unfold eqAgg at h
  split at h
  · rename_i xs ys
    split at h
    · rename_i hg
      rw [Option.map_eq_some_iff] at h
      obtain ⟨r, hr, rfl⟩ := h
      have := eqV_run (W := W) 9970 30 t _ _ r hr
      simp [eqGuard, run_program, hg, binOp, Op.equal, Op.maxDepth, this]
    · cases h
  · rename_i xs ys
    split at h
    · rename_i hg
      rw [Option.map_eq_some_iff] at h
      obtain ⟨r, hr, rfl⟩ := h
      have := eqV_run (W := W) 9970 30 t _ _ r hr
      simp [eqGuard, run_program, hg, binOp, Op.equal, Op.maxDepth, this]
    · cases h
  · cases h
def evBin (P : Program) (op : BinOp) (t : TypeId) (ox oy : Operand) (x y : SV) : Option Value := match x.exact, y.exact with
  | some a, some b => match eqAgg P op t a b with
    | some r => some r
    | none => pureRun P (do eqGuard op t ox oy a b; binOp op t a b)
  | _, _ => match x, y with
    | .v (.c a), .v (.c b) => (evNil P op t a b).map .bool
    | _, _ => none
def capsOf : List SV → Option (List (Nat × Nat))
  | [] => some []
  | .v (.c (.ptr b o)) :: r => (capsOf r).map fun l => (b, o) :: l
  | _ => none
def partT (P : Program) (t : TypeId) (cs : List AC) (off : Nat) : Option AV := match aggT P t with
  | some true => (szT P t).bind fun n => if off + n ≤ cs.length then some (.agg ((cs.drop off).take n)) else none
  | some false => cs[off]?.map .c
  | none => none
def sameOpt (x : Option SV) : Option SV := x
def svo (ρ : Operand → SV) : Option Operand → Option SV | none => none | some x => some (ρ x)
/-- An operation that calls nothing. -/
def evSimple (P : Program) (o : Op) (ρ : Operand → SV) (H : Heap) : Option (SV × Heap × List Nat) := match o with
  | .move x => some (ρ x, H, [])
  | .assign x => some (ρ x, H, [])
  | .pick c a b => match ρ c with
    | .v (.c (.s (.bool t))) => some (if t then ρ a else ρ b, H, [])
    | _ => none
  | .alloc t => (zeroT P t).bind fun z => if z.cells.all one then some (.v (.c (.ptr H.length 0)), H ++ [.cells (z.cells.toList.map .s)], []) else none
  | .box t x => match ρ x with
    | .v v => some (.v (.c (.ptr H.length 0)), H ++ [.cells v.cells], [])
    | _ => none
  | .build t parts => (partsA ρ parts.toList).bind fun ps => (evBuild P t ps).map fun a => (.v a, H, [])
  | .buildSlice t n parts => (partsA ρ parts.toList).bind fun ps => (evBuildSlice P t n ps).map fun a => (.v (.c a), H, [])
  | .load t x => (evLoad P t (ρ x) H).map fun a => (.v a, H, [])
  | .store t x y => (evStore P t (ρ x) (ρ y) H).map fun r => (.any, r.1, r.2)
  | .nilCheck x => match ρ x with
    | .v (.c (.ptr b o)) => some (.v (.c (.ptr b o)), H, [])
    | .v (.c (.rptr c)) => some (.v (.c (.rptr c)), H, [])
    | .v (.c (.fn f c)) => some (.v (.c (.fn f c)), H, [])
    | _ => none
  | .binOp op t x y _ => ((evBin P op t x y (ρ x) (ρ y)).bind outV).map fun r => (r, H, [])
  | .unOp op _ x => ((ρ x).exact.bind fun v => (pureRun P (Op.unary op v)).bind outV).map fun r => (r, H, [])
  | .convert s d x => (evConvert P s d (ρ x)).map fun r => (r, H, [])
  | .makeFunc fn first caps => match fn with
    | .func f => if first.size = 0 then (capsOf (caps.toList.map ρ)).map fun l => (.v (.c (.fn f l)), H, []) else none
    | _ => none
  | .makeSlice t l c => (evMakeSlice P t (ρ l) (ρ c)).map fun a => (.v (.c a), H, [])
  | .slice t x lo hi mx => match evSlice P t (ρ x) (svo ρ lo) (svo ρ hi) (svo ρ mx) with
    | some a => some (.v (.c a), H, [])
    | none => (evSliceS P t (ρ x) (svo ρ lo) (svo ρ hi) (svo ρ mx)).map fun a => (.v (.c a), H, [])
  | .fieldAddr s x f => (fieldOff P s f).bind fun o => (evAt (ρ x) o).map fun y => (y, H, [])
  | .indexAddr t x i => (ρ i).int.bind fun i => (evIndexAddr P t (ρ x) i).map fun y => (y, H, [])
  | .field s x f => match P.underlying s, ρ x with
    | some (.struct fs), .v (.agg cs) => fs[f]?.bind fun fd => (partT P fd.type cs fd.offset).map fun a => (.v a, H, [])
    | _, _ => none
  | .index t x i => ((ρ x).exact.bind fun v => (ρ i).exact.bind fun w => (pureRun P (Instr.index t v w)).bind outV).map fun r => (r, H, [])
  | .extract x i => match ρ x with
    | .tup l => l[i]?.map fun a => (.v a, H, [])
    | _ => none
  | _ => none
theorem r_rowBytes {P : Program} {W : World} {imm : Nat → Nat → Prop} {l : List (List PC)} {v : Value} {b : ByteArray} (h : PR W imm (.row l) v) (e : rowBytes l = some b) : (Conv.bytesToString v).run P W = .ok (.string b) W := by
  unfold rowBytes at e
  cases hm : l.mapM byteOf with
  | none => rw [hm] at e; cases e
  | some bs =>
    rw [hm] at e
    cases e
    obtain ⟨hl, hg⟩ := mapM_get hm
    have hel : ∀ (i : Nat) (c : List PC), l[i]? = some c → ∃ n, c = [.s (.int .u8 n)] ∧ bs[i]? = some (UInt8.ofNat n.toNat) := by
      intro i c hc
      have hlt : i < bs.length := by rw [hl]; exact lt_of_get hc
      obtain ⟨c', hc', hf⟩ := hg i _ (List.getElem?_eq_getElem hlt)
      rw [hc] at hc'
      cases hc'
      unfold byteOf at hf
      split at hf
      · rename_i n
        exact ⟨n, rfl, by rw [List.getElem?_eq_getElem hlt, ← hf]⟩
      · cases hf
    have hs : ∀ c ∈ l, c.length = 1 := by
      intro c hc
      obtain ⟨i, hi⟩ := List.getElem?_of_mem hc
      obtain ⟨n, rfl, _⟩ := hel i c hi
      rfl
    obtain ⟨a, cap, vs, rfl, _, _, hf, hc, _, hnone⟩ := PR.flat h hs
    cases a with
    | none =>
      obtain ⟨rfl, _⟩ := hnone rfl
      have : bs = [] := by simpa using hl
      subst this
      rfl
    | some a =>
      have hc1 := hc P W (.refl _ _)
      simp only [Builtin.firstCells, Nat.mul_one] at hc1
      have hvs : ∃ ns : List Int, vs = ns.map (Value.int .u8) ∧ ns.map (fun n => UInt8.ofNat n.toNat) = bs := by
        refine ⟨vs.map fun v => match v with | .int _ n => n | _ => 0, ?_, ?_⟩
        · apply List.ext_getElem?
          intro i
          rw [List.map_map, List.getElem?_map]
          by_cases hi : i < l.length
          · obtain ⟨n, hcn, _⟩ := hel i _ (List.getElem?_eq_getElem hi)
            obtain ⟨u, hu, hp⟩ := hf.2.2 i _ (List.getElem?_eq_getElem hi) 0 (.s (.int .u8 n)) (by rw [hcn]; rfl)
            rw [Nat.mul_one, Nat.add_zero] at hu
            rw [hu]
            cases hp
            rfl
          · rw [List.getElem?_eq_none (by rw [hf.1]; omega)]; rfl
        · apply List.ext_getElem?
          intro i
          rw [List.map_map, List.getElem?_map]
          by_cases hi : i < l.length
          · obtain ⟨n, hcn, hb⟩ := hel i _ (List.getElem?_eq_getElem hi)
            obtain ⟨u, hu, hp⟩ := hf.2.2 i _ (List.getElem?_eq_getElem hi) 0 (.s (.int .u8 n)) (by rw [hcn]; rfl)
            rw [Nat.mul_one, Nat.add_zero] at hu
            rw [hu, hb]
            cases hp
            rfl
          · rw [List.getElem?_eq_none (by rw [hf.1]; omega), List.getElem?_eq_none (by rw [hl]; omega)]; rfl
      obtain ⟨ns, rfl, hb⟩ := hvs
      have hr := run_bytesToString (P := P) W a l.length cap ns hc1
      rw [hr, ← hb]
      congr 2
      have : ∀ (ns : List Int) (s : ByteArray), ns.foldl (fun r n => r.push (UInt8.ofNat n.toNat)) s = ⟨(s.data.toList ++ ns.map fun n => UInt8.ofNat n.toNat).toArray⟩ := by
        intro ns
        induction ns with
        | nil => intro s; simp
        | cons n ns ih =>
          intro s
          rw [List.foldl_cons, ih]
          simp [ByteArray.push]
      rw [this]
      rfl
theorem r_convertRow {P : Program} {W : World} {src dst e : TypeId} {v : Value} (hs : P.underlying src = some (.slice e)) (he : isU8 P e = true) (hd : P.underlying dst = some .string) (hv : ∃ a l c, v = .slice a l c) :
    (convert src dst v).run P W = (Conv.bytesToString v).run P W := by
  obtain ⟨a, l, c, rfl⟩ := hv
  have he' : P.underlying e = some (.int .u8) := by
    unfold isU8 at he; split at he
    · assumption
    · cases he
  exact run_convert_bytes_string W src dst e a l c hs he' hd
theorem PR.slice {W : World} {imm} {l : List (List PC)} {v : Value} (h : PR W imm (.row l) v) : ∃ a n c, v = .slice a n c := by cases h <;> exact ⟨_, _, _, rfl⟩
theorem do_bytes {P : Program} {g : Gh} {H : Heap} {W : World} (h : HR g H W) {src dst e : TypeId} {b : ByteArray} (hs : P.underlying src = some .string) (hd : P.underlying dst = some (.slice e)) (he : isU8 P e = true) (hb : b.size ≤ 1099511627776) :
    ∃ v W' g', (convert src dst (.string b)).run P W = .ok v W' ∧ Step g H W g' H W' [] ∧ PR W' g'.imm (.row (byteRow b)) v := by
  have he' : P.underlying e = some (.int .u8) := by
    unfold isU8 at he; split at he
    · assumption
    · cases he
  have hcell : ∀ k u, (b.data.toList.map fun c => Value.int .u8 c.toNat)[k]? = some u → (Lib.bytesWorld W e b).cell? ⟨W.heap.size, 0 + k, none⟩ = some u := by
    intro k u hk
    rw [List.getElem?_map] at hk
    cases hc : b.data.toList[k]? with
    | none => rw [hc] at hk; cases hk
    | some c =>
      rw [hc] at hk
      cases hk
      have hlt : k < b.size := by have := lt_of_get hc; rwa [Array.length_toList] at this
      rw [Nat.zero_add, Lib.bytesWorld_cell W e b k hlt, List.getD_eq_getElem?_getD, hc]
      rfl
  have hbs : b.size = b.data.toList.length := by rw [Array.length_toList]; rfl
  have hgc : Lib.bytesCells W e b = Lib.bytesCells W e b := rfl
  have S : Step g H W (immNew g W.heap.size b.size) H (Lib.bytesWorld W e b) [] := by
    refine Step.grow h rfl rfl rfl (by rw [Lib.bytesWorld_size]; omega) (fun B hB => Lib.bytesWorld_at_old W e b B hB) rfl rfl rfl (fun _ _ h => .inl h) (fun B o ho => ?_)
    rcases ho with ho | ⟨rfl, ho⟩
    · exact .inl ho
    · refine .inr ⟨Nat.le_refl _, ?_⟩
      have hk : o < (b.data.toList.map fun c => Value.int .u8 c.toNat).length := by rw [List.length_map]; omega
      have := hcell o _ (List.getElem?_eq_getElem hk)
      rw [Nat.zero_add] at this
      exact ⟨_, this⟩
  have hfl : Flat (Lib.bytesWorld W e b) (immNew g W.heap.size b.size).imm 1 (byteRow b) (b.data.toList.map fun c => Value.int .u8 c.toNat) := by
    refine ⟨by simp [byteRow], fun c hc => ?_, fun i c hi j p hj => ?_⟩
    · obtain ⟨x, _, rfl⟩ := List.mem_map.1 hc; rfl
    · simp only [byteRow, List.getElem?_map, Option.map_eq_some_iff] at hi
      obtain ⟨x, hx, rfl⟩ := hi
      rcases j with _ | j
      · simp at hj
        subst hj
        exact ⟨_, by rw [Nat.mul_one, Nat.add_zero, List.getElem?_map, hx]; rfl, .s _ rfl⟩
      · simp at hj
  have hlen : (byteRow b).length = b.size := by rw [hbs]; simp [byteRow]
  have hcap : b.size ≤ grownCap W b.size 0 e ∧ grownCap W b.size 0 e ≤ maxLen := by
    have : W.tape W.drawn (.appendCap b.size 0 e) % (2 ^ 63 - b.size) < 2 ^ 63 - b.size := Nat.mod_lt _ (by omega)
    have e9 : maxLen = 2 ^ 63 - 1 := rfl
    have e8 : grownCap W b.size 0 e = b.size + W.tape W.drawn (.appendCap b.size 0 e) % (2 ^ 63 - b.size) := rfl
    omega
  have hp := hfl.row (b := W.heap.size) (o := 0) (cap := grownCap W b.size 0 e) (by rw [hlen]; exact hcap.1) hcap.2 (fun k u hk => ⟨.inr ⟨rfl, by have := lt_of_get hk; rw [List.length_map] at this; omega⟩, hcell k u hk⟩)
  rw [hlen] at hp
  exact ⟨_, _, _, Lib.run_convert_string_bytes W src dst e b hs hd he', S, hp⟩
theorem SVR.of_ofVal (g : Gh) (W : World) (n : Nat) {r : Value} (h : okVal r = true) : SVR g W n (.v (ofVal r)) r := by
  unfold okVal at h
  unfold ofVal
  split
  · rename_i cs
    exact ⟨cs, rfl, zeros_R g W n (by simpa using h)⟩
  · rename_i h1
    refine ⟨?_, rfl⟩
    cases r <;> first | rfl | exact absurd rfl (h1 _) | cases h

theorem outV_R {g : Gh} {W : World} {n : Nat} {r : Value} {y : SV} (h : outV r = some y) : SVR g W n y r := by
  unfold outV at h
  split at h
  · rename_i hk; cases h; exact SVR.of_ofVal g W n hk
  · cases h
theorem do_convert {P : Program} {g : Gh} {H : Heap} {W : World} (h : HR g H W) {src dst : TypeId} {x y : SV} {u : Value} (hx : SVR g W H.length x u) (he : evConvert P src dst x = some y) :
    ∃ v W' g', (convert src dst u).run P W = .ok v W' ∧ Step g H W g' H W' [] ∧ SVR g' W' H.length y v := by
  unfold evConvert at he
  split at he
  · rename_i e a hs hd
    split at he
    · rename_i hu8
      cases hl : a.els with
      | none => rw [hl] at he; cases he
      | some l =>
        rw [hl] at he
        simp only [Option.bind_some] at he
        cases hb : rowBytes l with
        | none => rw [hb] at he; cases he
        | some b =>
          rw [hb] at he
          cases he
          have hr := els_row hx hl
          exact ⟨_, _, _, (r_convertRow hs hu8 hd hr.slice).trans (r_rowBytes hr hb), Step.refl h, rfl, rfl⟩
    · cases he
  · rename_i e b hs hd
    split at he
    · rename_i hu8
      cases he
      obtain ⟨_, rfl⟩ := hx
      obtain ⟨v, W', g', h1, h2, h3⟩ := do_bytes h (b := b) hs hd hu8.1 hu8.2
      exact ⟨v, W', g', h1, h2, h3⟩
    · cases he
  · rename_i x a1 a2 a3 a4 a5
    cases hv : x.exact with
    | none => rw [hv] at he; cases he
    | some v =>
      rw [hv] at he
      simp only [Option.bind_some] at he
      have e := sv_exact hx hv
      subst e
      cases hp : pureRun P (convert src dst u) with
      | none => rw [hp] at he; cases he
      | some r =>
        rw [hp] at he
        exact ⟨r, _, _, pureRun_run hp W, Step.refl h, outV_R he⟩
theorem nil_spec {g : Gh} {W : World} {n : Nat} {a : AC} {u : Value} {p : Bool × Bool} (h : AR g W n a u) (e : a.nil? = some p) : (u = .slice none 0 0 ∧ p = (true, true)) ∨ (u = .pointer none ∧ p = (false, true)) ∨ (∃ x l c, u = .slice (some x) l c ∧ p = (true, false)) ∨ (∃ x, u = .pointer (some x) ∧ p = (false, false)) := by
  have hrow : ∀ (c : List PC) (l : List (List PC)), PR W g.imm (.row (c :: l)) u → ∃ x n c, u = .slice (some x) n c := by
    intro c l h
    cases h with | row l sz b o cap w => exact ⟨_, _, _, rfl⟩
  unfold AC.nil? at e
  split at e
  · cases e; exact .inl ⟨h.2, rfl⟩
  · cases e; exact .inr (.inl ⟨h.2, rfl⟩)
  · cases e; obtain ⟨x, n, c, rfl⟩ := hrow _ _ h; exact .inr (.inr (.inl ⟨x, n, c, rfl, rfl⟩))
  · cases e; obtain ⟨x, n, c, rfl⟩ := hrow _ _ h.1; exact .inr (.inr (.inl ⟨x, n, c, rfl, rfl⟩))
  · cases e; obtain ⟨x, n, c, rfl⟩ := hrow _ _ h.2.2.1; exact .inr (.inr (.inl ⟨x, n, c, rfl, rfl⟩))
  · cases e; obtain ⟨_, rfl⟩ := h; exact .inr (.inr (.inr ⟨_, rfl, rfl⟩))
  · cases e; obtain ⟨b, o, rfl, _⟩ := h; exact .inr (.inr (.inr ⟨_, rfl, rfl⟩))
  · cases e
theorem eqn_s1 {P : Program} {t e : TypeId} (h : P.underlying t = some (.slice e)) (d : Nat) (b : Option Addr) (m k l c : Nat) (W : World) : (Op.equalIn (d + 1) t (.slice none l c) (.slice b m k)).run P W = .ok b.isNone W := by
  simp only [Op.equalIn, Sem.run_bind, run_underlying h, Result.andThen_ok]; rfl
theorem eqn_s2 {P : Program} {t e : TypeId} (h : P.underlying t = some (.slice e)) (d : Nat) (b : Addr) (m k l c : Nat) (W : World) : (Op.equalIn (d + 1) t (.slice (some b) l c) (.slice none m k)).run P W = .ok false W := by
  simp only [Op.equalIn, Sem.run_bind, run_underlying h, Result.andThen_ok]; rfl
theorem eqn_p1 {P : Program} {t e : TypeId} (h : P.underlying t = some (.pointer e)) (d : Nat) (b : Option Addr) (W : World) : (Op.equalIn (d + 1) t (.pointer none) (.pointer b)).run P W = .ok b.isNone W := by
  simp only [Op.equalIn, Sem.run_bind, run_underlying h, Result.andThen_ok]; rfl
theorem eqn_p2 {P : Program} {t e : TypeId} (h : P.underlying t = some (.pointer e)) (d : Nat) (b : Addr) (W : World) : (Op.equalIn (d + 1) t (.pointer (some b)) (.pointer none)).run P W = .ok false W := by
  simp only [Op.equalIn, Sem.run_bind, run_underlying h, Result.andThen_ok]; rfl
theorem binEq {P : Program} {t : TypeId} {ox oy : Operand} {u w : Value} {W : World} {r : Bool} (h : (Op.equalIn (9999 + 1) t u w).run P W = .ok r W) (hs : (∃ a l c b m k, u = .slice a l c ∧ w = .slice b m k) ∨ ∃ a b, u = .pointer a ∧ w = .pointer b) :
    (do eqGuard .eql t ox oy u w; binOp .eql t u w : Sem Value).run P W = .ok (.bool r) W ∧ (do eqGuard .neq t ox oy u w; binOp .neq t u w : Sem Value).run P W = .ok (.bool (!r)) W := by
  have e : Op.equal t u w = Op.equalIn (9999 + 1) t u w := rfl
  rcases hs with ⟨a, l, c, b, m, k, rfl, rfl⟩ | ⟨a, b, rfl, rfl⟩
  · constructor
    · show ((eqGuard .eql t ox oy _ _ >>= fun _ => (Op.equal t (.slice a l c) (.slice b m k) >>= fun r => Pure.pure (Value.bool r))).run P W) = _
      rw [Sem.run_bind]
      have g : (eqGuard .eql t ox oy (.slice a l c) (.slice b m k)).run P W = .ok () W := rfl
      rw [g, Result.andThen_ok, Sem.run_bind, e, h]; rfl
    · show ((eqGuard .neq t ox oy _ _ >>= fun _ => (Op.equal t (.slice a l c) (.slice b m k) >>= fun r => Pure.pure (Value.bool (!r)))).run P W) = _
      rw [Sem.run_bind]
      have g : (eqGuard .neq t ox oy (.slice a l c) (.slice b m k)).run P W = .ok () W := rfl
      rw [g, Result.andThen_ok, Sem.run_bind, e, h]; rfl
  · constructor
    · have h2 : (binOp .eql t (.pointer a) (.pointer b)).run P W = .ok (.bool r) W := by
        show ((Op.equal t (.pointer a) (.pointer b) >>= fun r => Pure.pure (Value.bool r)).run P W) = _
        rw [Sem.run_bind, e, h]; rfl
      rw [Sem.run_bind]
      have g : (eqGuard .eql t ox oy (.pointer a) (.pointer b)).run P W = .ok () W := rfl
      rw [g, Result.andThen_ok, h2]
    · have h2 : (binOp .neq t (.pointer a) (.pointer b)).run P W = .ok (.bool (!r)) W := by
        show ((Op.equal t (.pointer a) (.pointer b) >>= fun r => Pure.pure (Value.bool (!r))).run P W) = _
        rw [Sem.run_bind, e, h]; rfl
      rw [Sem.run_bind]
      have g : (eqGuard .neq t ox oy (.pointer a) (.pointer b)).run P W = .ok () W := rfl
      rw [g, Result.andThen_ok, h2]
theorem do_nil {P : Program} {g : Gh} {W : World} {n : Nat} {op : BinOp} {t : TypeId} {ox oy : Operand} {a b : AC} {u w : Value} {r : Bool} (hu : AR g W n a u) (hw : AR g W n b w) (he : evNil P op t a b = some r) :
    (do eqGuard op t ox oy u w; binOp op t u w : Sem Value).run P W = .ok (.bool r) W := by
  unfold evNil at he
  split at he
  · rename_i k k1 p k2 q hk hp hq
    split at he
    · rename_i hc
      obtain ⟨hk1, hk2, hpq⟩ := hc
      have hd : ∃ d, P.underlying t = some d ∧ ((∃ e, d = .slice e) ∧ k = true ∨ (∃ e, d = .pointer e) ∧ k = false) := by
        unfold refT at hk
        split at hk
        · rename_i e h; cases hk; exact ⟨_, h, .inl ⟨⟨e, rfl⟩, rfl⟩⟩
        · rename_i e h; cases hk; exact ⟨_, h, .inr ⟨⟨e, rfl⟩, rfl⟩⟩
        · cases hk
      clear hk
      obtain ⟨d, hd, hk⟩ := hd
      rcases nil_spec hu hp with ⟨rfl, e1⟩ | ⟨rfl, e1⟩ | ⟨x, l, c, rfl, e1⟩ | ⟨x, rfl, e1⟩ <;> cases e1 <;>
      rcases nil_spec hw hq with ⟨rfl, e2⟩ | ⟨rfl, e2⟩ | ⟨x2, l2, c2, rfl, e2⟩ | ⟨x2, rfl, e2⟩ <;> cases e2 <;>
      rcases hk with ⟨⟨e, rfl⟩, rfl⟩ | ⟨⟨e, rfl⟩, rfl⟩ <;> first | (cases hk1; done) | (cases hk2; done) | skip
      all_goals
        first
        | (exfalso; simp at hpq; done)
        | (split at he
           · cases he
             first
             | exact (binEq (eqn_s1 hd 9999 _ _ _ _ _ W) (.inl ⟨_, _, _, _, _, _, rfl, rfl⟩)).1
             | exact (binEq (eqn_s2 hd 9999 _ _ _ _ _ W) (.inl ⟨_, _, _, _, _, _, rfl, rfl⟩)).1
             | exact (binEq (eqn_p1 hd 9999 _ W) (.inr ⟨_, _, rfl, rfl⟩)).1
             | exact (binEq (eqn_p2 hd 9999 _ W) (.inr ⟨_, _, rfl, rfl⟩)).1
           · cases he
             first
             | exact (binEq (eqn_s1 hd 9999 _ _ _ _ _ W) (.inl ⟨_, _, _, _, _, _, rfl, rfl⟩)).2
             | exact (binEq (eqn_s2 hd 9999 _ _ _ _ _ W) (.inl ⟨_, _, _, _, _, _, rfl, rfl⟩)).2
             | exact (binEq (eqn_p1 hd 9999 _ W) (.inr ⟨_, _, rfl, rfl⟩)).2
             | exact (binEq (eqn_p2 hd 9999 _ W) (.inr ⟨_, _, rfl, rfl⟩)).2
           · cases he)
    · cases he
  · cases he
theorem parts_R {g : Gh} {W : World} {n : Nat} {ρ : Operand → SV} {ρ' : Operand → Value} : ∀ {parts : List (Nat × Operand)} {ps : List (Nat × AV)}, (∀ x ∈ parts.map (·.2), SVR g W n (ρ x) (ρ' x)) → partsA ρ parts = some ps → PartsR g W n ps (parts.map fun x => (x.1, ρ' x.2))
  | [], ps, _, h => by simp only [partsA] at h; cases h; trivial
  | (i, x) :: r, ps, hρ, h => by
    unfold partsA at h
    cases hx : (ρ x).av with
    | none => rw [hx] at h; cases h
    | some v =>
      rw [hx] at h
      cases hr : partsA ρ r with
      | none => rw [hr] at h; cases h
      | some l =>
        rw [hr] at h
        cases h
        refine ⟨rfl, ?_, parts_R (fun y hy => hρ y (List.mem_cons_of_mem _ hy)) hr⟩
        have := hρ x (by simp)
        unfold SV.av at hx
        split at hx
        · rename_i y e; cases hx; rw [e] at this; exact this
        · cases hx
theorem caps_R {g : Gh} {W : World} {n : Nat} {ρ : Operand → SV} {ρ' : Operand → Value} : ∀ {xs : List Operand} {l : List (Nat × Nat)}, (∀ x ∈ xs, SVR g W n (ρ x) (ρ' x)) → capsOf (xs.map ρ) = some l → xs.map ρ' = l.map (fun x => .pointer (some ⟨g.blk x.1, x.2, none⟩)) ∧ ∀ x ∈ l, x.1 < n
  | [], l, _, h => by simp only [List.map_nil, capsOf] at h; cases h; exact ⟨rfl, by simp⟩
  | x :: xs, l, hρ, h => by
    rw [List.map_cons] at h
    unfold capsOf at h
    split at h
    · cases ‹_ :: _ = []›
    · rename_i b o r e
      injection e with e1 e2
      subst e2
      cases hr : capsOf (xs.map ρ) with
      | none => rw [hr] at h; cases h
      | some l' =>
        rw [hr] at h
        cases h
        obtain ⟨h1, h2⟩ := caps_R (fun y hy => hρ y (List.mem_cons_of_mem _ hy)) hr
        have hx := hρ x (by simp)
        rw [e1] at hx
        obtain ⟨hn, hx⟩ := hx
        refine ⟨by rw [List.map_cons, List.map_cons, h1, hx], fun y hy => ?_⟩
        rcases List.mem_cons.1 hy with rfl | hy
        · exact hn
        · exact h2 y hy
    · cases h
theorem slice_R {P : Program} {g : Gh} {H : Heap} {W : World} {t : TypeId} {x : SV} {lo hi mx : Option SV} {u : Value} {lo' hi' mx' : Option Value} {a : AC} (hx : SVR g W H.length x u)
    (hlo : (lo = none ∧ lo' = none) ∨ ∃ s v, lo = some s ∧ lo' = some v ∧ SVR g W H.length s v) (hhi : (hi = none ∧ hi' = none) ∨ ∃ s v, hi = some s ∧ hi' = some v ∧ SVR g W H.length s v)
    (hmx : (mx = none ∧ mx' = none) ∨ ∃ s v, mx = some s ∧ mx' = some v ∧ SVR g W H.length s v) (he : evSlice P t x lo hi mx = some a) :
    ∃ v, (Instr.sliceAt t u lo' hi' mx').run P W = .ok v W ∧ AR g W H.length a v := by
  unfold evSlice at he
  split at he
  · rename_i e a0 hu
    cases hl : a0.els with
    | none => rw [hl] at he; cases he
    | some l =>
      rw [hl] at he
      cases hs : szT P e with
      | none => rw [hs] at he; cases he
      | some sz =>
        rw [hs] at he
        simp only [Option.bind_some] at he
        cases hk : (match hi with | none => some l.length | some i => i.int.bind fun i => if 0 ≤ i ∧ i ≤ (l.length : Int) then some i.toNat else none) with
        | none => rw [hk] at he; cases he
        | some k =>
          rw [hk] at he
          simp only [Option.bind_some] at he
          cases hb : (match lo with | none => some 0 | some i => i.int.bind fun i => if 0 ≤ i ∧ i ≤ (k : Int) then some i.toNat else none) with
          | none => rw [hb] at he; cases he
          | some b =>
            rw [hb] at he
            simp only [Option.bind_some] at he
            split at he
            · rename_i hall
              have hkl : k ≤ l.length := by
                rcases hhi with ⟨rfl, _⟩ | ⟨s, v, rfl, _, _⟩
                · cases hk; exact Nat.le_refl _
                · simp only at hk
                  cases hi' : s.int with
                  | none => rw [hi'] at hk; cases hk
                  | some i =>
                    rw [hi'] at hk
                    simp only [Option.bind_some] at hk
                    split at hk
                    · cases hk; omega
                    · cases hk
              have hbk : b ≤ k := by
                rcases hlo with ⟨rfl, _⟩ | ⟨s, v, rfl, _, _⟩
                · cases hb; exact Nat.zero_le _
                · simp only at hb
                  cases hi' : s.int with
                  | none => rw [hi'] at hb; cases hb
                  | some i =>
                    rw [hi'] at hb
                    simp only [Option.bind_some] at hb
                    split at hb
                    · cases hb; omega
                    · cases hb
              obtain ⟨A, len, cap, rfl, rfl, hle, hmax, hcut⟩ := cut_R (els_row hx hl) (all_len hall) hbk hkl (c := 0)
              have hblo : ∀ c : BoundsCode, (match lo' with | some v => Instr.sliceBound v k c | none => Pure.pure 0 : Sem Nat).run P W = .ok b W := by
                intro c
                rcases hlo with ⟨rfl, rfl⟩ | ⟨s, v, rfl, rfl, hsv⟩
                · cases hb; rfl
                · simp only at hb
                  cases hi' : s.int with
                  | none => rw [hi'] at hb; cases hb
                  | some i =>
                    rw [hi'] at hb
                    exact r_bound hsv hi' hb k (Nat.le_refl _)
              have hbhi : ∀ (y : Nat) (c : BoundsCode), l.length ≤ y → ∀ v, hi' = some v → (Instr.sliceBound v y c).run P W = .ok k W := by
                intro y c hy v hv
                rcases hhi with ⟨rfl, rfl⟩ | ⟨s, v', rfl, rfl, hsv⟩
                · cases hv
                · cases hv
                  simp only at hk
                  cases hi' : s.int with
                  | none => rw [hi'] at hk; cases hk
                  | some i =>
                    rw [hi'] at hk
                    exact r_bound hsv hi' hk y hy
              have hknone : hi' = none → k = l.length := by
                intro hn
                rcases hhi with ⟨rfl, rfl⟩ | ⟨s, v', rfl, rfl, hsv⟩
                · cases hk; rfl
                · cases hn
              have key : ∀ m, k ≤ m → m ≤ cap → (Instr.sliceBounds true l.length cap lo' hi' mx').run P W = .ok (b, k, m) W →
                  (Instr.sliceAt t (.slice A l.length cap) lo' hi' mx').run P W = .ok (.slice (if m = b then A else A.map (·.add (b * sz))) (k - b) (m - b)) W := by
                intro m _ _ hr
                have hus : (underlying t).run P W = .ok (.slice e) W := run_underlying hu W
                have h1 : Instr.sliceAt t (.slice A l.length cap) lo' hi' mx' = (underlying t >>= fun d => match d with
                  | .array n elem => (do
                      let a ← Instr.sureAddr (.slice A l.length cap)
                      let (l_, h, m) ← Instr.sliceBounds false n n lo' hi' mx'
                      let size ← sizeOf elem
                      pure (.slice (some (if m = l_ then a else a.add (l_ * size))) (h - l_) (m - l_)))
                  | _ => Instr.slice t (.slice A l.length cap) lo' hi' mx') := rfl
                rw [h1, Sem.run_bind, hus, Result.andThen_ok]
                show (Instr.slice t (.slice A l.length cap) lo' hi' mx').run P W = _
                simp only [Instr.slice, Sem.run_bind, hus, Result.andThen_ok, hr, r_sizeOf hs, Sem.run_pure]
              rcases hmx with ⟨rfl, rfl⟩ | ⟨sm, vm, rfl, rfl, hsm⟩
              · cases he
                refine ⟨_, key cap (Nat.le_trans hkl hle) (Nat.le_refl _) ?_, hcut cap (Nat.le_trans hkl hle) (Nat.le_refl _)⟩
                cases hh : hi' with
                | none =>
                  have := hknone hh
                  subst this
                  simp only [Instr.sliceBounds, Sem.run_bind, Sem.run_pure, Result.andThen_ok]
                  have h2 := hblo (if (none : Option Value).isSome then .slice3C else .sliceB)
                  simp only [Option.isSome_none, Bool.false_eq_true, if_false] at h2
                  cases lo' <;> simp_all
                | some v =>
                  have h3 := hbhi cap .sliceAcap hle v hh
                  have h2 := hblo .sliceB
                  simp only [Instr.sliceBounds, Sem.run_bind, Sem.run_pure, Result.andThen_ok, if_true, h3]
                  cases lo' <;> simp_all
              · simp only at he
                cases hmi : sm.int with
                | none => rw [hmi] at he; cases he
                | some m =>
                  rw [hmi] at he
                  simp only [Option.bind_some] at he
                  split at he
                  · rename_i hc
                    obtain ⟨hsome, rfl⟩ := hc
                    cases he
                    obtain ⟨kk, rfl⟩ := int_of hsm hmi
                    have hkc : k ≤ cap := Nat.le_trans hkl hle
                    refine ⟨_, key k (Nat.le_refl _) hkc ?_, ?_, ?_⟩
                    · cases hh : hi' with
                      | none =>
                        exfalso
                        rcases hhi with ⟨rfl, _⟩ | ⟨s, v', rfl, rfl, _⟩
                        · cases hsome
                        · cases hh
                      | some v =>
                        have hm1 : (Instr.sliceBound (.int kk (k : Int)) cap .slice3Acap).run P W = .ok k W := by
                          have : 0 ≤ (k : Int) ∧ (k : Int) ≤ (cap : Int) := by omega
                          simp [Instr.sliceBound, asIntOf, this]
                        have hv3 : (Instr.sliceBound v k .slice3B).run P W = .ok k W := by
                          rcases hhi with ⟨rfl, rfl⟩ | ⟨s, v', rfl, rfl, hsv⟩
                          · cases hh
                          · cases hh
                            simp only at hk
                            cases hi2 : s.int with
                            | none => rw [hi2] at hk; cases hk
                            | some i =>
                              rw [hi2] at hk
                              simp only [Option.bind_some] at hk
                              split at hk
                              · rename_i hc2
                                cases hk
                                obtain ⟨k2, rfl⟩ := int_of hsv hi2
                                obtain ⟨q, rfl⟩ := Int.eq_ofNat_of_zero_le hc2.1
                                simp [Instr.sliceBound, asIntOf]
                              · cases hk
                        have h2 := hblo .slice3C
                        simp only [Instr.sliceBounds, Sem.run_bind, Sem.run_pure, Result.andThen_ok, if_true, hm1, hv3]
                        cases lo' <;> simp_all
                    · have := hcut k (Nat.le_refl _) hkc
                      exact this
                    · refine ⟨if k = b then A else A.map (·.add (b * sz)), ?_⟩
                      have : ((l.take k).drop b).length = k - b := by rw [List.length_drop, List.length_take]; omega
                      rw [this]
                  · cases he
            · cases he
  · cases he

theorem sliceS_R {P : Program} {g : Gh} {H : Heap} {W : World} {t : TypeId} {x : SV} {lo hi mx : Option SV} {u : Value} {lo' hi' mx' : Option Value} {a : AC} (hx : SVR g W H.length x u)
    (hlo : (lo = none ∧ lo' = none) ∨ ∃ s v, lo = some s ∧ lo' = some v ∧ SVR g W H.length s v) (hhi : (hi = none ∧ hi' = none) ∨ ∃ s v, hi = some s ∧ hi' = some v ∧ SVR g W H.length s v)
    (hmx : (mx = none ∧ mx' = none) ∨ ∃ s v, mx = some s ∧ mx' = some v ∧ SVR g W H.length s v) (he : evSliceS P t x lo hi mx = some a) :
    ∃ v, (Instr.sliceAt t u lo' hi' mx').run P W = .ok v W ∧ AR g W H.length a v := by
  unfold evSliceS at he
  split at he
  · rename_i s hu
    obtain ⟨_, rfl⟩ := hx
    have hmx' : mx' = none := by
      rcases hmx with ⟨_, h⟩ | ⟨_, _, h, _⟩
      · exact h
      · cases h
    subst hmx'
    cases hk : (match hi with | none => some s.size | some i => i.int.bind fun i => if 0 ≤ i ∧ i ≤ (s.size : Int) then some i.toNat else none) with
    | none => rw [hk] at he; cases he
    | some k =>
      rw [hk] at he
      simp only [Option.bind_some] at he
      cases hb : (match lo with | none => some 0 | some i => i.int.bind fun i => if 0 ≤ i ∧ i ≤ (k : Int) then some i.toNat else none) with
      | none => rw [hb] at he; cases he
      | some b =>
        rw [hb] at he
        cases he
        have hblo : ∀ c : BoundsCode, (match lo' with | some v => Instr.sliceBound v k c | none => Pure.pure 0 : Sem Nat).run P W = .ok b W := by
          intro c
          rcases hlo with ⟨rfl, rfl⟩ | ⟨s, v, rfl, rfl, hsv⟩
          · cases hb; rfl
          · simp only at hb
            cases hi' : s.int with
            | none => rw [hi'] at hb; cases hb
            | some i =>
              rw [hi'] at hb
              exact r_bound hsv hi' hb k (Nat.le_refl _)
        have hbd : (Instr.sliceBounds false s.size s.size lo' hi' none).run P W = .ok (b, k, s.size) W := by
          have h2 := hblo .sliceB
          rcases hhi with ⟨rfl, rfl⟩ | ⟨sh, v, rfl, rfl, hsv⟩
          · cases hk
            simp only [Instr.sliceBounds, Sem.run_bind, Sem.run_pure, Result.andThen_ok]
            cases lo' <;> simp_all
          · simp only at hk
            cases hi' : sh.int with
            | none => rw [hi'] at hk; cases hk
            | some i =>
              rw [hi'] at hk
              have h3 := r_bound (P := P) (c := .sliceAlen) hsv hi' hk s.size (Nat.le_refl _)
              simp only [Instr.sliceBounds, Sem.run_bind, Sem.run_pure, Result.andThen_ok, Bool.false_eq_true, if_false, h3]
              cases lo' <;> simp_all
        refine ⟨.string (s.extract b k), ?_, rfl, rfl⟩
        have hus : (underlying t).run P W = .ok .string W := run_underlying hu W
        have h1 : Instr.sliceAt t (.string s) lo' hi' none = (underlying t >>= fun d => match d with
          | .array n elem => (do
              let a ← Instr.sureAddr (.string s)
              let (l_, h, m) ← Instr.sliceBounds false n n lo' hi' none
              let size ← sizeOf elem
              pure (.slice (some (if m = l_ then a else a.add (l_ * size))) (h - l_) (m - l_)))
          | _ => Instr.slice t (.string s) lo' hi' none) := rfl
        rw [h1, Sem.run_bind, hus, Result.andThen_ok]
        show (Instr.slice t (.string s) lo' hi' none).run P W = _
        simp only [Instr.slice, Sem.run_bind, hus, Result.andThen_ok, Option.isSome_none, Bool.false_eq_true, if_false, hbd, Sem.run_pure]
  · cases he
/-- What a load of a struct's part gives. -/
theorem part_R {P : Program} {g : Gh} {W : World} {n : Nat} {t : TypeId} {cs : List AC} {C : Array Value} {o : Nat} {a : AV} (hc : ARs g W n cs C.toList) (he : partT P t cs o = some a) : ∃ v, (part t C o).run P W = .ok v W ∧ AVR g W n a v := by
  unfold partT at he
  have hl := hc.length
  cases hg : aggT P t with
  | none => rw [hg] at he; cases he
  | some k =>
    rw [hg] at he
    cases k with
    | true =>
      cases hs : szT P t with
      | none => rw [hs] at he; cases he
      | some m =>
        rw [hs] at he
        simp only [Option.bind_some] at he
        split at he
        · rename_i hle
          cases he
          refine ⟨.agg (C.extract o (o + m)), by simp [part, r_isAgg hg, r_sizeOf hs], _, rfl, ?_⟩
          have := (hc.drop o).take m
          rw [Array.toList_extract]
          simpa [List.extract_eq_take_drop] using this
        · cases he
    | false =>
      cases hq : cs[o]? with
      | none => simp only [hq] at he; cases he
      | some x =>
        simp only [hq, Option.map_some] at he
        cases he
        obtain ⟨u, hu, hr⟩ := hc.get hq
        rw [Array.getElem?_toList] at hu
        exact ⟨u, by simp [part, r_isAgg hg, hu], hr⟩

theorem svo_R {g : Gh} {W : World} {n : Nat} {ρ : Operand → SV} {ρ' : Operand → Value} {x : Option Operand} (h : ∀ y ∈ x.toArray, SVR g W n (ρ y) (ρ' y)) : (svo ρ x = none ∧ x.map ρ' = none) ∨ ∃ s v, svo ρ x = some s ∧ x.map ρ' = some v ∧ SVR g W n s v := by
  cases x with
  | none => exact .inl ⟨rfl, rfl⟩
  | some y => exact .inr ⟨ρ y, ρ' y, rfl, rfl, h y (by simp)⟩
theorem do_simple {P : Program} {g : Gh} {H : Heap} {W : World} (h : HR g H W) {o : Oper} {ρ : Operand → SV} {ρ' : Operand → Value} (hρ : ∀ x ∈ o.op.operands, SVR g W H.length (ρ x) (ρ' x)) {sv : SV} {H' : Heap} {D : List Nat} (he : evSimple P o.op ρ H = some (sv, H', D)) :
    Does g H W ((execOp ρ' o).run P W) sv H' D := by
  obtain ⟨dst, op, ty, pos, after, guard⟩ := o
  simp only at hρ he
  unfold evSimple at he
  split at he
  · rename_i x; cases he; exact Does.pure h (by simp [execOp]) (hρ x (by simp [Op.operands]))
  · rename_i x; cases he; exact Does.pure h (by simp [execOp]) (hρ x (by simp [Op.operands]))
  · rename_i c a b
    split at he
    · rename_i t e
      cases he
      have hc := hρ c (by simp [Op.operands])
      rw [e] at hc
      obtain ⟨_, hc⟩ := hc
      cases t with
      | true => exact Does.pure h (v := ρ' a) (by simp [execOp, hc, asBool]) (hρ a (by simp [Op.operands]))
      | false => exact Does.pure h (v := ρ' b) (by simp [execOp, hc, asBool]) (hρ b (by simp [Op.operands]))
    · cases he
  · rename_i t
    cases hz : zeroT P t with
    | none => rw [hz] at he; cases he
    | some z =>
      rw [hz] at he
      simp only [Option.bind_some] at he
      split at he
      · rename_i hall
        cases he
        have hA := zeros_R g W H.length (l := z.cells.toList) (by simpa using hall)
        have S := Step.box h t hA
        refine ⟨.pointer (some ⟨W.heap.size, 0, none⟩), W.alloc (.cells z.cells t), _, .inl ?_, S, by simp, ?_⟩
        · simp only [execOp, Instr.alloc, Sem.run_bind, r_zero hz, Result.andThen_ok, newVar, newRow, run_newObj, Sem.run_pure]
          rfl
        · show _ = Value.pointer (some ⟨if H.length = H.length then W.heap.size else g.blk H.length, 0, none⟩)
          rw [if_pos rfl]
      · cases he
  · rename_i t x
    split at he
    · rename_i v e
      cases he
      have hx := hρ x (by simp [Op.operands])
      rw [e] at hx
      obtain ⟨z, W', g', h1, h2, h3⟩ := do_box h (P := P) (t := t) hx
      exact ⟨_, W', g', .inl (by simp [execOp, Instr.box, h1]), h2, h3⟩
    · cases he
  · rename_i t parts
    cases hp : partsA ρ parts.toList with
    | none => rw [hp] at he; cases he
    | some ps =>
      rw [hp] at he
      simp only [Option.bind_some] at he
      cases hb : evBuild P t ps with
      | none => rw [hb] at he; cases he
      | some a =>
        rw [hb] at he
        cases he
        have hR := parts_R (n := H.length) (ρ' := ρ') (fun x hx => hρ x (by simpa [Op.operands] using hx)) hp
        obtain ⟨v, h1, h2⟩ := do_build (P := P) (W := W) (t := t) (qs := parts.map fun x => (x.1, ρ' x.2)) (by simpa using hR) hb
        exact Does.pure h (v := v) (by simp only [execOp]; simp [h1]) h2
  · rename_i t n parts
    cases hp : partsA ρ parts.toList with
    | none => rw [hp] at he; cases he
    | some ps =>
      rw [hp] at he
      simp only [Option.bind_some] at he
      cases hb : evBuildSlice P t n ps with
      | none => rw [hb] at he; cases he
      | some a =>
        rw [hb] at he
        cases he
        have hR := parts_R (n := H.length) (ρ' := ρ') (fun x hx => hρ x (by simpa [Op.operands] using hx)) hp
        obtain ⟨v, W', g', h1, h2, h3⟩ := do_buildSlice (P := P) h (t := t) (qs := parts.map fun x => (x.1, ρ' x.2)) (by simpa using hR) hb
        exact ⟨v, W', g', .inl (by simp only [execOp]; simp [h1]), h2, h3⟩
  · rename_i t x
    cases hl : evLoad P t (ρ x) H with
    | none => rw [hl] at he; cases he
    | some a =>
      rw [hl] at he
      cases he
      obtain ⟨v, h1, h2⟩ := do_load (P := P) h (hρ x (by simp [Op.operands])) hl
      exact Does.pure h (v := v) (by simp [execOp, h1]) h2
  · rename_i t x y
    cases hl : evStore P t (ρ x) (ρ y) H with
    | none => rw [hl] at he; cases he
    | some r =>
      obtain ⟨H1, D1⟩ := r
      rw [hl] at he
      cases he
      obtain ⟨W', h1, h2⟩ := do_store (P := P) h (hρ x (by simp [Op.operands])) (hρ y (by simp [Op.operands])) hl
      exact ⟨undef, W', g, .inr ⟨by simp [execOp, h1], rfl⟩, h2, trivial⟩
  · rename_i x
    have hx := hρ x (by simp [Op.operands])
    split at he
    · rename_i b o e
      cases he
      rw [e] at hx
      have hx2 := hx
      obtain ⟨_, hx⟩ := hx
      exact Does.pure h (v := ρ' x) (by simp [execOp, hx]) hx2
    · rename_i c e
      cases he
      rw [e] at hx
      have hx2 := hx
      obtain ⟨b, o, hx, _⟩ := hx
      exact Does.pure h (v := ρ' x) (by simp [execOp, hx]) hx2
    · rename_i f c e
      cases he
      rw [e] at hx
      have hx2 := hx
      obtain ⟨C, hx, _⟩ := hx
      exact Does.pure h (v := ρ' x) (by simp [execOp, hx]) hx2
    · cases he
  · rename_i op t x y yt
    cases hb : evBin P op t x y (ρ x) (ρ y) with
    | none => rw [hb] at he; cases he
    | some r =>
      rw [hb] at he
      simp only [Option.bind_some, Option.map_eq_some_iff] at he
      obtain ⟨y', hy', e⟩ := he
      cases e
      have hx := hρ x (by simp [Op.operands])
      have hy := hρ y (by simp [Op.operands])
      have hrun : (do eqGuard op t x y (ρ' x) (ρ' y); binOp op t (ρ' x) (ρ' y) : Sem Value).run P W = .ok r W := by
        unfold evBin at hb
        split at hb
        · rename_i a b ha hb'
          rw [sv_exact hx ha, sv_exact hy hb']
          split at hb
          · rename_i r' hr'
            cases hb
            exact eqAgg_run x y hr'
          · exact pureRun_run hb W
        · split at hb
          · rename_i a b ea eb
            cases hn : evNil P op t a b with
            | none => rw [hn] at hb; cases hb
            | some q =>
              rw [hn] at hb
              cases hb
              rw [ea] at hx
              rw [eb] at hy
              exact do_nil hx hy hn
          · cases hb
      exact Does.pure h (v := r) (by
        have : execOp ρ' ⟨dst, .binOp op t x y yt, ty, pos, after, guard⟩ = ((do eqGuard op t x y (ρ' x) (ρ' y); binOp op t (ρ' x) (ρ' y) : Sem Value) >>= fun v => Pure.pure (Next.value v)) := rfl
        rw [this, Sem.run_bind, hrun]; rfl) (outV_R hy')
  · rename_i op t x
    cases hv : (ρ x).exact with
    | none => rw [hv] at he; cases he
    | some v =>
      rw [hv] at he
      simp only [Option.bind_some] at he
      cases hp : pureRun P (Op.unary op v) with
      | none => rw [hp] at he; cases he
      | some r =>
        rw [hp] at he
        simp only [Option.bind_some, Option.map_eq_some_iff] at he
        obtain ⟨y', hy', e⟩ := he
        cases e
        have e2 := sv_exact (hρ x (by simp [Op.operands])) hv
        have hr := pureRun_run hp W
        exact Does.pure h (v := r) (by simp [execOp, e2, hr]) (outV_R hy')
  · rename_i s d x
    cases hc : evConvert P s d (ρ x) with
    | none => rw [hc] at he; cases he
    | some r =>
      rw [hc] at he
      cases he
      obtain ⟨v, W', g', h1, h2, h3⟩ := do_convert (P := P) h (hρ x (by simp [Op.operands])) hc
      exact ⟨v, W', g', .inl (by simp [execOp, h1]), h2, h3⟩
  · rename_i fn first caps
    split at he
    · rename_i f
      split at he
      · rename_i h0
        have h0' : first = #[] := Array.eq_empty_of_size_eq_zero h0
        subst h0'
        cases hc : capsOf (caps.toList.map ρ) with
        | none => rw [hc] at he; cases he
        | some l =>
          rw [hc] at he
          cases he
          obtain ⟨h1, h2⟩ := caps_R (n := H.length) (g := g) (W := W) (ρ' := ρ') (fun x hx => hρ x (by simp [Op.operands]; simpa using hx)) hc
          exact Does.pure h (v := .func (.func f) #[] (caps.map ρ')) (by simp [execOp, Instr.makeFunc]) ⟨_, rfl, by simpa using h1, h2⟩
      · cases he
    · cases he
  · rename_i t l c
    cases hm : evMakeSlice P t (ρ l) (ρ c) with
    | none => rw [hm] at he; cases he
    | some a =>
      rw [hm] at he
      cases he
      obtain ⟨v, W', g', h1, h2, h3⟩ := do_makeSlice (P := P) h (hρ l (by simp [Op.operands])) (hρ c (by simp [Op.operands])) hm
      exact ⟨v, W', g', .inl (by simp [execOp, h1]), h2, h3⟩
  · rename_i t x lo hi mx
    have hx := hρ x (by simp [Op.operands])
    have hlo := svo_R (x := lo) (ρ := ρ) (ρ' := ρ') (g := g) (W := W) (n := H.length) (fun y hy => hρ y (by simp [Op.operands]; simp at hy; simp [hy]))
    have hhi := svo_R (x := hi) (ρ := ρ) (ρ' := ρ') (g := g) (W := W) (n := H.length) (fun y hy => hρ y (by simp [Op.operands]; simp at hy; simp [hy]))
    have hmx := svo_R (x := mx) (ρ := ρ) (ρ' := ρ') (g := g) (W := W) (n := H.length) (fun y hy => hρ y (by simp [Op.operands]; simp at hy; simp [hy]))
    split at he
    · rename_i a hs
      cases he
      obtain ⟨v, h1, h2⟩ := slice_R (P := P) hx hlo hhi hmx hs
      exact Does.pure h (v := v) (by simp [execOp, h1]) h2
    · cases hs : evSliceS P t (ρ x) (svo ρ lo) (svo ρ hi) (svo ρ mx) with
      | none => rw [hs] at he; cases he
      | some a =>
        rw [hs] at he
        cases he
        obtain ⟨v, h1, h2⟩ := sliceS_R (P := P) hx hlo hhi hmx hs
        exact Does.pure h (v := v) (by simp [execOp, h1]) h2
  · rename_i s x f
    cases ho : fieldOff P s f with
    | none => rw [ho] at he; cases he
    | some o =>
      rw [ho] at he
      simp only [Option.bind_some] at he
      cases ha : evAt (ρ x) o with
      | none => rw [ha] at he; cases he
      | some y =>
        rw [ha] at he
        cases he
        obtain ⟨v, h1, h2⟩ := do_field ho (hρ x (by simp [Op.operands])) ha
        exact Does.pure h (v := v) (by simp [execOp, h1]) h2
  · rename_i t x i
    cases hi : (ρ i).int with
    | none => rw [hi] at he; cases he
    | some k =>
      rw [hi] at he
      simp only [Option.bind_some] at he
      cases ha : evIndexAddr P t (ρ x) k with
      | none => rw [ha] at he; cases he
      | some y =>
        rw [ha] at he
        cases he
        obtain ⟨kk, e⟩ := int_of (hρ i (by simp [Op.operands])) hi
        obtain ⟨v, h1, h2⟩ := do_indexAddr (P := P) (k := kk) (hρ x (by simp [Op.operands])) ha
        exact Does.pure h (v := v) (by simp [execOp, e, h1]) h2
  · rename_i s x f
    split at he
    · rename_i fs cs hu e
      have hx := hρ x (by simp [Op.operands])
      rw [e] at hx
      obtain ⟨C, hC, hR⟩ := hx
      cases hf : fs[f]? with
      | none => rw [hf] at he; cases he
      | some fd =>
        rw [hf] at he
        simp only [Option.bind_some] at he
        cases hp : partT P fd.type cs fd.offset with
        | none => rw [hp] at he; cases he
        | some a =>
          rw [hp] at he
          cases he
          obtain ⟨v, h1, h2⟩ := part_R (P := P) hR hp
          exact Does.pure h (v := v) (by simp [execOp, Instr.field, run_underlying hu, hf, hC, asAgg, h1]) h2
    · cases he
  · rename_i t x i
    cases hv : (ρ x).exact with
    | none => rw [hv] at he; cases he
    | some v =>
      rw [hv] at he
      cases hw : (ρ i).exact with
      | none => rw [hw] at he; cases he
      | some w =>
        rw [hw] at he
        simp only [Option.bind_some] at he
        cases hp : pureRun P (Instr.index t v w) with
        | none => rw [hp] at he; cases he
        | some r =>
          rw [hp] at he
          simp only [Option.bind_some, Option.map_eq_some_iff] at he
          obtain ⟨y', hy', e⟩ := he
          cases e
          have e2 := sv_exact (hρ x (by simp [Op.operands])) hv
          have e3 := sv_exact (hρ i (by simp [Op.operands])) hw
          have hr := pureRun_run hp W
          exact Does.pure h (v := r) (by simp [execOp, e2, e3, hr]) (outV_R hy')
  · rename_i x i
    split at he
    · rename_i l e
      cases hl : l[i]? with
      | none => rw [hl] at he; cases he
      | some a =>
        rw [hl] at he
        cases he
        have hx := hρ x (by simp [Op.operands])
        rw [e] at hx
        obtain ⟨C, hC, hR⟩ := hx
        obtain ⟨u, hu, hr⟩ := hR.get hl
        rw [Array.getElem?_toList] at hu
        exact Does.pure h (v := u) (by simp [execOp, hC, Instr.extract, hu]) hr
    · cases he
  · cases he
end Go.Proofs.Ytalnfojlmkebnaa.AI
