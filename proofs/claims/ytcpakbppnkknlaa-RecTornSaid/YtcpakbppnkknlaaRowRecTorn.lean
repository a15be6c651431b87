/- rec.Torn: encoded records are cut off, or one byte is changed: just the records ahead are read (RecTorn). No condition. -/
import Derived.Test.YtcpakbppnkknlaaRows
import Derived.Test.YtcpakbppnkknlaaPurRecTorn
import Derived.WalkKit
import Derived.ProofKit
import Derived.OpenShut
import Derived.ShutString
import Derived.ChangeOld
import Derived.Below
import Derived.SizedLaws
import Derived.Deep.Slices
import Derived.Deep.Fields
import Derived.Lib.SmallJoins
import Derived.ChangeSame
import Derived.Test.YtcpakbppnkknlaaWSized
namespace Go.Proofs.Ytcpakbppnkknlaa.recTorn
open Go.ChangeShapes Go.WideShapes Go.ChangeAt Go.RowKit
open Go.ChangeMaps (open_string shut_string)
open Go.Joins (open_agg4)
set_option linter.unusedVariables false
theorem own : ownKnob Try.prog.godebug = none := by kernel_rfl
theorem laidOut : laidOutB Try.prog = true := by kernel_rfl
def IsRow (k : IntKind) (w : World) (a : Option Addr) (len cap : Nat) (zs : List Int) : Prop :=
  (a = none ∧ len = 0 ∧ cap = 0 ∧ zs = []) ∨
  ∃ x, a = some x ∧ len ≤ cap ∧ cap ≤ maxLen ∧ zs.length = cap ∧ (∀ i, i < zs.length → w.cell? (x.add i) = some (.int k (zs.getD i 0))) ∧ ∀ n ∈ zs, (Lit.int k n).wf = true
section
open Go.Deep
section
variable {H : Type} {enc : TypeId × Value → H} {P : Program} {w : World} {base : Nat} {spare : Nat → Bool} {held : Bool}
theorem open_slice_fields {t e : TypeId} {fs : Array Field} {fuel : Nat} {cs : List Value} {x : DataW H × List MemPlace} (ht : P.underlying t = some (.slice e)) (he : P.underlying e = some (.struct fs))
    (hone : oneCellFields P fs = true) (hC : P.cellsOf e = fs.size) (h : DataW.trod enc P w base spare held fuel t cs = some x) :
    (cs = [.slice none 0 0] ∧ x = (.nil, [])) ∨
    ∃ (a : Addr) (len cap m : Nat) (D : Nat → DataW H) (Pl : Nat → List MemPlace), cs = [.slice (some a) len cap] ∧ base ≤ a.block ∧ len ≤ cap ∧ cap ≤ maxLen ∧ m = (if spare a.block then cap else len) ∧
      x = (.slice ((List.range len).map D) ((List.range (m - len)).map fun j => D (len + j)), MemPlace.row a (m * fs.size) ++ (List.range m).flatMap Pl) ∧
      ∀ i, i < m → ∃ (ys : List (DataW H × List MemPlace)) (n : Nat), D i = .agg (ys.map (·.1)) ∧ Pl i = ys.flatMap (·.2) ∧ ys.length = fs.size ∧
        ∀ (j : Nat) (f : Field), fs[j]? = some f → ∃ (v : Value) (y : DataW H × List MemPlace), w.cell? (a.add (i * fs.size + j)) = some v ∧ ys[j]? = some y ∧ DataW.trod enc P w base spare held n f.type [v] = some y := by
  rcases open_slice ht h with h0 | ⟨a, len, cap, m, n, D, Pl, hcs, hb, hl, hm, hmm, hx, hi⟩
  · exact .inl h0
  · refine .inr ⟨a, len, cap, m, D, Pl, hcs, hb, hl, hm, hmm, by rw [hC] at hx; exact hx, fun i him => ?_⟩
    obtain ⟨cs', hc, ht'⟩ := hi i him
    rw [hC] at hc
    obtain ⟨ys, n', hn', hy, hlen, hyl, hf⟩ := DataW.trod_struct he ht'
    obtain ⟨_, hcl, hat⟩ := World.cells?_some hc
    simp only [Prod.mk.injEq] at hy
    refine ⟨ys, n', hy.1, hy.2, hyl, fun j f hj => ?_⟩
    obtain ⟨ho, hk⟩ := hone_of hone j f hj
    have hjl : j < fs.size := (Array.getElem?_eq_some_iff.1 hj).1
    have hcell := hat j hjl
    have hv : cs'[j]? = some (cs'[j]'(by omega)) := List.getElem?_eq_getElem (by omega)
    have h1 := hf j f hj
    rw [ho, hk] at h1
    have hone' : (cs'.drop j).take 1 = [cs'[j]'(by omega)] := by
      rw [List.drop_eq_getElem_cons (by omega)]
      rfl
    rw [hone'] at h1
    have hys : ys[j]? = some (ys[j]'(by omega)) := List.getElem?_eq_getElem (by omega)
    refine ⟨_, _, ?_, hys, h1.trans hys⟩
    rw [← Go.Deep.add_add, hcell, hv]
end

open Go.Proofs.YtcpakbppnkknlaaW.PrintWords in
theorem open_recs {H : Type} {enc : TypeId × Value → H} {W : World} {ts : List TypeId} {ds : List (DataW H)} {a : Option Addr} {len cap : Nat} {d : DataW H} {ps : List MemPlace}
    (hsz : (DataW.weightsEach Try.prog ts ds).all (· ≤ reachBytes) = true) (ht : ts[0]? = some 22) (hd : ds[0]? = some d)
    (h : DataW.Trod enc Try.prog W 0 (fun _ => true) true 22 (.slice a len cap) d ps) :
    ∃ l : List (Int × List Nat), len = l.length ∧ l.length ≤ cap ∧ l.length < 4611686018427387904 ∧ (∀ p ∈ l, ∀ b ∈ p.2, b < 256) ∧ Kd.C QRecTorn.k27 W a l.length (PureRecTorn.mkI l) := by
  obtain ⟨fuel, hf⟩ := h
  rcases open_slice_fields Try.underlying22 Try.underlying27 (by kernel_rfl) (by kernel_rfl) hf with ⟨hcs, _⟩ | ⟨x, ln, cp, m, D, Pl, hcs, _, hl, hm, hmm, hx, hi⟩
  · simp [Value.cells] at hcs
    obtain ⟨rfl, rfl, rfl⟩ := hcs
    exact ⟨[], rfl, by simp, by simp, by simp, Kd.C_nil _ _⟩
  · simp [Value.cells] at hcs
    obtain ⟨rfl, rfl, rfl⟩ := hcs
    simp only [if_true] at hmm
    subst hmm
    have hlen : len < 4611686018427387904 := by
      obtain ⟨hx, _⟩ := Prod.mk.inj hx
      subst hx
      have z := sized_slice hsz ht hd Try.underlying22
      rw [show Try.prog.bytesOf 27 = 32 by kernel_rfl] at z
      simp only [List.length_map, List.length_range] at z
      have : reachBytes = 140737488351232 := by rfl
      omega
    have hone : ∀ i, i < m → ∃ p : Int × List Nat, (∀ b ∈ p.2, b < 256) ∧ ∃ A1 c1, W.cell? (x.add (i * 2)) = some (.int .i64 p.1) ∧ W.cell? (x.add (i * 2 + 1)) = some (.slice A1 p.2.length c1) ∧ p.2.length ≤ c1 ∧ Kd.C (Kd.int .u8) W A1 p.2.length (PureRecTorn.ints p.2) := by
      intro i him
      obtain ⟨ys, n, _, _, _, hfld⟩ := hi i him
      obtain ⟨v, y, hcell, _, ht0⟩ := hfld 0 _ rfl
      obtain ⟨v', y', hcell', _, ht1⟩ := hfld 1 _ rfl
      obtain ⟨z, hz, _, _⟩ := DataW.trod_int Try.underlying3 ht0
      obtain rfl : v = .int .i64 z := by simpa using hz
      have hrow : ∃ (A1 : Option Addr) (ln c1 : Nat) (zs : List Int), v' = .slice A1 ln c1 ∧ IsRow .u8 W A1 ln c1 zs := by
        rcases open_ints Try.underlying25 Try.underlying5 (by kernel_rfl) ht1 with ⟨hcs, _⟩ | ⟨x, l, c, zs, hcs, _, hl, hm, hz, _, hcell, hwz⟩
        · exact ⟨none, 0, 0, [], by simpa using hcs, .inl ⟨rfl, rfl, rfl, rfl⟩⟩
        · exact ⟨some x, l, c, zs, by simpa using hcs, .inr ⟨_, rfl, hl, hm, by simpa using hz, hcell, hwz⟩⟩
      obtain ⟨A1, ln1, c1, zs, rfl, w0⟩ := hrow
      obtain ⟨l0, rfl, hr0, hm0, wf0, hc0⟩ := ReadsInt.ofRowC w0
      have hk0 := Kd.C_of_reads (d := (0 : Int)) (h1 := fun _ => rfl) hr0
      have hbd := PureRecTorn.bytes_of wf0
      have hmap : PureRecTorn.ints (l0.map Int.toNat) = l0 := by
        unfold PureRecTorn.ints
        rw [List.map_map]
        conv => rhs; rw [← List.map_id l0]
        exact List.map_congr_left fun q hq => by have := hbd q hq; simp; omega
      refine ⟨(z, l0.map Int.toNat), ?_, A1, c1, ?_, ?_, ?_, ?_⟩
      · intro b hb
        obtain ⟨q, hq, rfl⟩ := List.mem_map.1 hb
        have := hbd q hq
        omega
      · exact hcell
      · simpa using hcell'
      · simpa using hc0
      · show Kd.C (Kd.int .u8) W A1 (l0.map Int.toNat).length (PureRecTorn.ints (l0.map Int.toNat))
        rw [hmap, List.length_map]
        exact hk0
    obtain ⟨g, hg⟩ := Classical.axiomOfChoice (r := fun (i : Nat) (p : Int × List Nat) => i < m → (∀ b ∈ p.2, b < 256) ∧ ∃ A1 c1, W.cell? (x.add (i * 2)) = some (.int .i64 p.1) ∧ W.cell? (x.add (i * 2 + 1)) = some (.slice A1 p.2.length c1) ∧ p.2.length ≤ c1 ∧ Kd.C (Kd.int .u8) W A1 p.2.length (PureRecTorn.ints p.2)) (fun i => by
      by_cases hi : i < m
      · obtain ⟨p, hp⟩ := hone i hi
        exact ⟨p, fun _ => hp⟩
      · exact ⟨(0, []), fun h => absurd h hi⟩)
    refine ⟨(List.range len).map g, by simp, by simpa using hl, by simpa using hlen, ?_, ?_⟩
    · intro p hp
      obtain ⟨i, hi, rfl⟩ := List.mem_map.1 hp
      exact (hg i (by have := List.mem_range.1 hi; omega)).1
    · refine ⟨by simp [PureRecTorn.mkI], by simp; omega, fun _ => ⟨x, rfl, fun j p hj => ?_⟩⟩
      have hjl : j < len := by
        have := (List.getElem?_eq_some_iff.1 hj).1
        simpa [PureRecTorn.mkI] using this
      obtain ⟨_, A1, c1, ha, hb, hc, hd⟩ := hg j (by omega)
      have hp : (⟨(g j).1, PureRecTorn.ints (g j).2⟩ : QRecTorn.S27) = p := by
        simpa [PureRecTorn.mkI, List.getElem?_map, List.getElem?_range hjl] using hj
      subst hp
      have hle : (PureRecTorn.ints (g j).2).length = (g j).2.length := by simp [PureRecTorn.ints]
      refine ⟨[.int .i64 (g j).1, .slice A1 (PureRecTorn.ints (g j).2).length c1], rfl, QRecTorn.k27_mk W ⟨(g j).1, PureRecTorn.ints (g j).2⟩ (by rw [hle]; exact hc) (by rw [hle]; exact hd), fun i u hi => ?_⟩
      rcases i with _ | _ | i
      · simp at hi
        subst hi
        exact ha
      · simp at hi
        subst hi
        rw [hle]
        exact hb
      · simp at hi
end
/-- The call, as the row speaks of it. -/
theorem walk (W : World) (a0 : Option Addr) (cap0 : Nat) (l : List (Int × List Nat)) (cut at_ flip : Int) (hf : 0 ≤ flip ∧ flip < 256) (h1 : l.length ≤ cap0) (h2 : l.length < 4611686018427387904) (h3 : ∀ p ∈ l, ∀ b ∈ p.2, b < 256) (h4 : Go.Proofs.YtcpakbppnkknlaaW.PrintWords.Kd.C QRecTorn.k27 W a0 l.length (PureRecTorn.mkI l)) :
    Calls Try.prog 6 #[.agg #[.slice a0 l.length cap0, .int .i64 cut, .int .i64 at_, .int .u8 flip]] W fun e w' => e = .returned (.bool true) ∧ Below W.heap.size W w' := by
  obtain ⟨k, h⟩ := PureRecTorn.RecTorn_all l h3 h2 cut at_ flip hf
  have e : l.length = (PureRecTorn.mkI l).length := by simp [PureRecTorn.mkI]
  rw [e] at h1 h4 ⊢
  exact QRecTorn.mutoscopelaw04_RecTorn.calls_true k a0 cap0 (PureRecTorn.mkI l) cut at_ flip true W h4 h1 rfl h
set_option maxRecDepth 100000 in
theorem lifted (os : Os) (started : os.Started) (H : Type) (enc : TypeId × Value → H) :
    ReturnsInHanded {} Try.checked os 6 .any (Rows.recTornSpec.pre6 enc Try.prog Try.f6 Rows.recTornRow.domain false) (Rows.recTornSpec.post enc Try.prog Try.f6 false true false false) := by
  refine returnsInHanded_of_change_sized (C := Try.checked) own started (by kernel_rfl) Try.func6
    (ChangeSpec.witness6 (enc := enc) (C := Try.checked) false ⟨#[], #[.agg #[.slice none 0 0, .int .i64 0, .int .i64 0, .int .u8 0]], []⟩ 8 (by kernel_rfl) (by kernel_rfl) (by kernel_rfl) (by kernel_rfl)) ?_
  intro W base args ds gs before hval0 hW hcnd hsz0 _
  have hsz : (DataW.weightsEach Try.prog (Try.f6.params.toList ++ Rows.recTornSpec.plain.varTypes Try.prog) (ds ++ gs)).all (· ≤ reachBytes) = true := hsz0
  have hval : ∀ (j : Nat) t v, Try.f6.params[j]? = some t → args[j]? = some v → Value.okWide Try.prog W .any base t v := hval0
  have hW' := hW
  obtain ⟨p, q, hA0, hV, rfl, hfz, hnd⟩ := hW
  have hA : DataW.TrodAll enc Try.prog W 0 (fun _ => true) true Try.f6.params.toList args.toList ds p := hA0
  rw [Try.params6] at hA hval hsz
  obtain ⟨v0, vs0, d0, ds0, p0, q0, hargs, rfl, rfl, h0, r0⟩ := trodAll_cons hA
  obtain ⟨rfl, rfl, rfl⟩ := trodAll_nil r0
  obtain rfl : args = #[v0] := by cases args; simp_all
  obtain ⟨rfl, rfl⟩ := trodVars_none hV
  have k0 := h0
  have lt0 : ∀ x ∈ p0, x.block < W.heap.size := by obtain ⟨m, hm⟩ := k0; exact DataW.trod_lt m _ _ _ hm
  obtain ⟨u0, u1, u2, u3, y0, y1, y2, y3, n, rfl, rfl, hp, t0, t1, t2, t3⟩ := open_agg4 Try.underlying49 (by kernel_rfl) (by kernel_rfl) (hval 0 49 v0 rfl rfl) h0
  obtain ⟨z1, hz1, _, _⟩ := DataW.trod_int Try.underlying3 t1
  obtain ⟨z2, hz2, _, _⟩ := DataW.trod_int Try.underlying3 t2
  obtain ⟨z3, hz3, _, hw3⟩ := DataW.trod_int Try.underlying5 t3
  obtain rfl : u1 = .int .i64 z1 := by simpa using hz1
  obtain rfl : u2 = .int .i64 z2 := by simpa using hz2
  obtain rfl : u3 = .int .u8 z3 := by simpa using hz3
  have hb3 : 0 ≤ z3 ∧ z3 < 256 := PureRecTorn.bytes_of (l := [z3]) (fun n hn => by rw [List.mem_singleton.1 hn]; exact hw3) z3 (List.mem_singleton.2 rfl)
  have hsl : ∃ a0 len0 cap0, u0 = .slice a0 len0 cap0 := by
    rcases open_slice_fields Try.underlying22 Try.underlying27 (by kernel_rfl) (by kernel_rfl) t0 with ⟨hcs, _⟩ | ⟨x, ln, cp, m, D, Pl, hcs, _⟩
    · exact ⟨none, 0, 0, by simpa using hcs⟩
    · exact ⟨some x, ln, cp, by simpa using hcs⟩
  obtain ⟨a0, len0, cap0, rfl⟩ := hsl
  have hsz1 : (DataW.weightsEach Try.prog [22, 3, 3, 5] [y0.1, y1.1, y2.1, y3.1]).all (· ≤ reachBytes) = true := by
    refine List.all_eq_true.2 fun x hx => List.all_eq_true.1 hsz x (DataW.weights_mem_each (j := 0) (t := 49) rfl rfl x ?_)
    rw [DataW.weights, Try.underlying49]
    exact hx
  obtain ⟨l, rfl, h1, h2, h3, h4⟩ := open_recs hsz1 (by rfl) (by rfl) ⟨n, t0⟩
  clear hA0 hval0 hsz0 hsz hsz1
  refine (walk W a0 cap0 l z1 z2 z3 hb3 h1 h2 h3 h4).mono fun e W' ⟨he, bel⟩ => ?_
  subst he
  exact ⟨_, rfl, _, _, _, [], _, [], hW', trodAll_mk1 (shut_bool Try.underlying4 _), (trodAll_cons_mk (Below.trod laidOut (by kernel_rfl) (of_decide_eq_true (by kernel_rfl)) k0 bel lt0) trodAll_mk0), rfl, bel.frame _, fun h => by cases h⟩
theorem over : Rows.recTornRow.holds Try.pinned (OpenSpec.ofChange Rows.recTornSpec) :=
  OpenClaim.holds_of_wide 6 Try.f6 rfl rfl rfl rfl rfl rfl rfl ⟨rfl, rfl, rfl, rfl, rfl⟩ rfl rfl rfl rfl rfl (by kernel_rfl) Try.func6 (by kernel_rfl)
    (of_decide_eq_true (by kernel_rfl)) (by unfold Func.isWrapper; first | (rw [if_pos (by decide +kernel)]; kernel_rfl) | (rw [if_neg (by decide +kernel)]; exact ⟨rfl, rfl⟩))
    (fun os started H enc _ => lifted os started H enc)
theorem proved : Rows.RecTornSaid := over
#print axioms proved
end Go.Proofs.Ytcpakbppnkknlaa.recTorn
namespace Go.Proofs.Ytcpakbppnkknlaa
/-- The row, under a short name, for the claim. -/
theorem recTorn_holds : Rows.RecTornSaid := recTorn.proved
end Go.Proofs.Ytcpakbppnkknlaa
