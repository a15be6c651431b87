-- Written for this claim by a program of this session (wip/tools/mprint.sh, asm.py), and by hand
import Derived.Test.YtcpakbppnkknlaaQRecBytesc4
namespace Go.Proofs.Ytcpakbppnkknlaa.QRecBytes
open Go.RowKit Go.Proofs.YtcpakbppnkknlaaW.PrintWords Go.Proofs.YtcpakbppnkknlaaW.PrintLast Go.Proofs.YtcpakbppnkknlaaW.PrintMore
attribute [local go_sem] max2_int min2_int max_two min_two max_three min_three max_four min_four   -- for this text's walks alone
set_option linter.unusedVariables false
set_option linter.unusedSimpArgs false



/-! ### mutoscopelaw04_RecBytes: function 3 -/
mutual
def mutoscopelaw04_RecBytes.l0 : Nat → List (S27) → ByteArray → Int → List (S27) → Int → Int → Option (Bool)
  | 0, _, _, _, _, _, _ => none
  | k + 1, x0, x3, x4, x18, x19, x20 => if x20 < x19 then (if 0 ≤ x20 then (if x20 < (x18.length : Int) then (if x4 = 0 then ((mutoscopelaw04_ref.f ((rd_T27 x18 x20).f0) ((rd_T27 x18 x20).f1)).bind fun bt194 => ((mutoscoperef04_Right.f k bt194.1 bt194.2).bind fun t196 => (mutoscopelaw04_RecBytes.j1 k x0 x3 t196 x18 x19 x20 ((rd_T27 x18 x20).f0) ((rd_T27 x18 x20).f1)))) else (mutoscopelaw04_RecBytes.j1 k x0 x3 x4 x18 x19 x20 ((rd_T27 x18 x20).f0) ((rd_T27 x18 x20).f1))) else (none)) else (none)) else ((rec_Bytes.f k x0).bind fun bt200 => (if x4 = 0 then ((rec_All.f k bt200.1).bind fun bt205 => (if bt200.2 = 0 then (if (strOfNums bt200.1).toList = x3.toList then (if bt205.2.1 = (bt200.1.length : Int) then (if bt205.2.2 = 0 then (mutoscopelaw04_RecBytes.j2 k x0 bt200.1 bt205.1 ((bt205.1.length : Int) != (x0.length : Int))) else (mutoscopelaw04_RecBytes.j2 k x0 bt200.1 bt205.1 true)) else (mutoscopelaw04_RecBytes.j2 k x0 bt200.1 bt205.1 true)) else (mutoscopelaw04_RecBytes.j2 k x0 bt200.1 bt205.1 true)) else (mutoscopelaw04_RecBytes.j2 k x0 bt200.1 bt205.1 true))) else (if bt200.2 = x4 then (if (bt200.1.length : Int) = 0 then ((mutoscopelaw04_awake.f k).bind fun t204 => (some t204)) else (some false)) else (some false))))
def mutoscopelaw04_RecBytes.j1 : Nat → List (S27) → ByteArray → Int → List (S27) → Int → Int → Int → List Int → Option (Bool)
  | 0, _, _, _, _, _, _, _, _ => none
  | k + 1, x0, x3, x4, x18, x19, x20, x194000, x194001 => if x4 = 0 then ((mutoscopelaw04_ref.f x194000 x194001).bind fun bt197 => ((mutoscoperef04_Bytes.f k bt197.1 bt197.2).bind fun t199 => (if x3.size + t199.size ≤ 9223372036854775807 then (mutoscopelaw04_RecBytes.l0 k x0 (x3 ++ t199) x4 x18 x19 (wrap64 (x20 + 1))) else (none)))) else (mutoscopelaw04_RecBytes.l0 k x0 x3 x4 x18 x19 (wrap64 (x20 + 1)))
def mutoscopelaw04_RecBytes.j2 : Nat → List (S27) → List Int → List (S27) → Bool → Option (Bool)
  | 0, _, _, _, _ => none
  | k + 1, x0, x7, x9, x85 => if x85 = true then (some false) else (mutoscopelaw04_RecBytes.l1 k x0 x7 x9 0 (x0.length : Int) 0)
def mutoscopelaw04_RecBytes.l1 : Nat → List (S27) → List Int → List (S27) → Int → Int → Int → Option (Bool)
  | 0, _, _, _, _, _, _ => none
  | k + 1, x0, x7, x9, x12, x87, x88 => if x88 < x87 then (if 0 ≤ x88 then (if x88 < (x9.length : Int) then (if x88 < (x0.length : Int) then ((rec_Equal.f ((rd_T27 x9 x88).f0) ((rd_T27 x9 x88).f1) ((rd_T27 x0 x88).f0) ((rd_T27 x0 x88).f1)).bind fun t213 => (if t213 = true then ((rec_Size.f (((rd_T27 x0 x88).f1).length : Int)).bind fun t215 => (mutoscopelaw04_RecBytes.l1 k x0 x7 x9 (wrap64 (x12 + t215)) x87 (wrap64 (x88 + 1)))) else (some false))) else (none)) else (none)) else (none)) else (if x12 = (x7.length : Int) then ((mutoscopelaw04_awake.f k).bind fun t210 => (some t210)) else (some false))
end
def mutoscopelaw04_RecBytes.f (k : Nat) (l0 : List (S27)) : Option (Bool) := (mutoscopelaw04_small.f k l0).bind fun t190 => (if t190 = true then (mutoscopelaw04_RecBytes.l0 k l0 (⟨#[]⟩ : ByteArray) 0 l0 (l0.length : Int) 0) else ((mutoscopelaw04_awake.f k).bind fun t191 => (some t191)))
theorem mutoscopelaw04_RecBytes.mono_l : ∀ k, (∀ y0 y1 y2 y3 y4 y5, LeO (mutoscopelaw04_RecBytes.l0 k y0 y1 y2 y3 y4 y5) (mutoscopelaw04_RecBytes.l0 (k + 1) y0 y1 y2 y3 y4 y5)) ∧ (∀ y0 y1 y2 y3 y4 y5 y6 y7, LeO (mutoscopelaw04_RecBytes.j1 k y0 y1 y2 y3 y4 y5 y6 y7) (mutoscopelaw04_RecBytes.j1 (k + 1) y0 y1 y2 y3 y4 y5 y6 y7)) ∧ (∀ y0 y1 y2 y3, LeO (mutoscopelaw04_RecBytes.j2 k y0 y1 y2 y3) (mutoscopelaw04_RecBytes.j2 (k + 1) y0 y1 y2 y3)) ∧ (∀ y0 y1 y2 y3 y4 y5, LeO (mutoscopelaw04_RecBytes.l1 k y0 y1 y2 y3 y4 y5) (mutoscopelaw04_RecBytes.l1 (k + 1) y0 y1 y2 y3 y4 y5))
  | 0 => ⟨fun _ _ _ _ _ _ r h => by simp [mutoscopelaw04_RecBytes.l0] at h, fun _ _ _ _ _ _ _ _ r h => by simp [mutoscopelaw04_RecBytes.j1] at h, fun _ _ _ _ r h => by simp [mutoscopelaw04_RecBytes.j2] at h, fun _ _ _ _ _ _ r h => by simp [mutoscopelaw04_RecBytes.l1] at h⟩
  | k + 1 => by
    obtain ⟨ih0, ih1, ih2, ih3⟩ := mutoscopelaw04_RecBytes.mono_l k
    refine ⟨?_, ?_, ?_, ?_⟩
    · intro y0 y1 y2 y3 y4 y5
      unfold mutoscopelaw04_RecBytes.l0
      repeat' first
      | (with_reducible exact ih0 _ _ _ _ _ _)
      | (with_reducible exact ih1 _ _ _ _ _ _ _ _)
      | (with_reducible exact ih2 _ _ _ _)
      | (with_reducible exact ih3 _ _ _ _ _ _)
      | (with_reducible exact mutoscopelaw04_awake.mono _)
      | (with_reducible exact mutoscopelaw04_small.mono _ _)
      | (with_reducible exact mutoscoperef04_Bytes.mono _ _ _)
      | (with_reducible exact mutoscoperef04_Right.mono _ _ _)
      | (with_reducible exact rec_All.mono _ _)
      | (with_reducible exact rec_Bytes.mono _ _)
      | (with_reducible exact LeO.refl _)
      | (with_reducible exact LeO.none _)
      | (with_reducible refine LeO.ite ?_ ?_)
      | (with_reducible refine LeO.bind ?_ (fun _ => ?_))
      | exact ih0 _ _ _ _ _ _
      | exact ih1 _ _ _ _ _ _ _ _
      | exact ih2 _ _ _ _
      | exact ih3 _ _ _ _ _ _
      | exact mutoscopelaw04_awake.mono _
      | exact mutoscopelaw04_small.mono _ _
      | exact mutoscoperef04_Bytes.mono _ _ _
      | exact mutoscoperef04_Right.mono _ _ _
      | exact rec_All.mono _ _
      | exact rec_Bytes.mono _ _
      | exact LeO.none _
      | refine LeO.ite ?_ ?_
      | refine LeO.bind ?_ (fun _ => ?_)
    · intro y0 y1 y2 y3 y4 y5 y6 y7
      unfold mutoscopelaw04_RecBytes.j1
      repeat' first
      | (with_reducible exact ih0 _ _ _ _ _ _)
      | (with_reducible exact ih1 _ _ _ _ _ _ _ _)
      | (with_reducible exact ih2 _ _ _ _)
      | (with_reducible exact ih3 _ _ _ _ _ _)
      | (with_reducible exact mutoscopelaw04_awake.mono _)
      | (with_reducible exact mutoscopelaw04_small.mono _ _)
      | (with_reducible exact mutoscoperef04_Bytes.mono _ _ _)
      | (with_reducible exact mutoscoperef04_Right.mono _ _ _)
      | (with_reducible exact rec_All.mono _ _)
      | (with_reducible exact rec_Bytes.mono _ _)
      | (with_reducible exact LeO.refl _)
      | (with_reducible exact LeO.none _)
      | (with_reducible refine LeO.ite ?_ ?_)
      | (with_reducible refine LeO.bind ?_ (fun _ => ?_))
      | exact ih0 _ _ _ _ _ _
      | exact ih1 _ _ _ _ _ _ _ _
      | exact ih2 _ _ _ _
      | exact ih3 _ _ _ _ _ _
      | exact mutoscopelaw04_awake.mono _
      | exact mutoscopelaw04_small.mono _ _
      | exact mutoscoperef04_Bytes.mono _ _ _
      | exact mutoscoperef04_Right.mono _ _ _
      | exact rec_All.mono _ _
      | exact rec_Bytes.mono _ _
      | exact LeO.none _
      | refine LeO.ite ?_ ?_
      | refine LeO.bind ?_ (fun _ => ?_)
    · intro y0 y1 y2 y3
      unfold mutoscopelaw04_RecBytes.j2
      repeat' first
      | (with_reducible exact ih0 _ _ _ _ _ _)
      | (with_reducible exact ih1 _ _ _ _ _ _ _ _)
      | (with_reducible exact ih2 _ _ _ _)
      | (with_reducible exact ih3 _ _ _ _ _ _)
      | (with_reducible exact mutoscopelaw04_awake.mono _)
      | (with_reducible exact mutoscopelaw04_small.mono _ _)
      | (with_reducible exact mutoscoperef04_Bytes.mono _ _ _)
      | (with_reducible exact mutoscoperef04_Right.mono _ _ _)
      | (with_reducible exact rec_All.mono _ _)
      | (with_reducible exact rec_Bytes.mono _ _)
      | (with_reducible exact LeO.refl _)
      | (with_reducible exact LeO.none _)
      | (with_reducible refine LeO.ite ?_ ?_)
      | (with_reducible refine LeO.bind ?_ (fun _ => ?_))
      | exact ih0 _ _ _ _ _ _
      | exact ih1 _ _ _ _ _ _ _ _
      | exact ih2 _ _ _ _
      | exact ih3 _ _ _ _ _ _
      | exact mutoscopelaw04_awake.mono _
      | exact mutoscopelaw04_small.mono _ _
      | exact mutoscoperef04_Bytes.mono _ _ _
      | exact mutoscoperef04_Right.mono _ _ _
      | exact rec_All.mono _ _
      | exact rec_Bytes.mono _ _
      | exact LeO.none _
      | refine LeO.ite ?_ ?_
      | refine LeO.bind ?_ (fun _ => ?_)
    · intro y0 y1 y2 y3 y4 y5
      unfold mutoscopelaw04_RecBytes.l1
      repeat' first
      | (with_reducible exact ih0 _ _ _ _ _ _)
      | (with_reducible exact ih1 _ _ _ _ _ _ _ _)
      | (with_reducible exact ih2 _ _ _ _)
      | (with_reducible exact ih3 _ _ _ _ _ _)
      | (with_reducible exact mutoscopelaw04_awake.mono _)
      | (with_reducible exact mutoscopelaw04_small.mono _ _)
      | (with_reducible exact mutoscoperef04_Bytes.mono _ _ _)
      | (with_reducible exact mutoscoperef04_Right.mono _ _ _)
      | (with_reducible exact rec_All.mono _ _)
      | (with_reducible exact rec_Bytes.mono _ _)
      | (with_reducible exact LeO.refl _)
      | (with_reducible exact LeO.none _)
      | (with_reducible refine LeO.ite ?_ ?_)
      | (with_reducible refine LeO.bind ?_ (fun _ => ?_))
      | exact ih0 _ _ _ _ _ _
      | exact ih1 _ _ _ _ _ _ _ _
      | exact ih2 _ _ _ _
      | exact ih3 _ _ _ _ _ _
      | exact mutoscopelaw04_awake.mono _
      | exact mutoscopelaw04_small.mono _ _
      | exact mutoscoperef04_Bytes.mono _ _ _
      | exact mutoscoperef04_Right.mono _ _ _
      | exact rec_All.mono _ _
      | exact rec_Bytes.mono _ _
      | exact LeO.none _
      | refine LeO.ite ?_ ?_
      | refine LeO.bind ?_ (fun _ => ?_)
theorem mutoscopelaw04_RecBytes.mono : ∀ a0 k, LeO (mutoscopelaw04_RecBytes.f k a0) (mutoscopelaw04_RecBytes.f (k + 1) a0) := by
  intro a0 k
  obtain ⟨ih0, ih1, ih2, ih3⟩ := mutoscopelaw04_RecBytes.mono_l k
  unfold mutoscopelaw04_RecBytes.f
  repeat' first
      | (with_reducible exact ih0 _ _ _ _ _ _)
      | (with_reducible exact ih1 _ _ _ _ _ _ _ _)
      | (with_reducible exact ih2 _ _ _ _)
      | (with_reducible exact ih3 _ _ _ _ _ _)
      | (with_reducible exact mutoscopelaw04_awake.mono _)
      | (with_reducible exact mutoscopelaw04_small.mono _ _)
      | (with_reducible exact mutoscoperef04_Bytes.mono _ _ _)
      | (with_reducible exact mutoscoperef04_Right.mono _ _ _)
      | (with_reducible exact rec_All.mono _ _)
      | (with_reducible exact rec_Bytes.mono _ _)
      | (with_reducible exact LeO.refl _)
      | (with_reducible exact LeO.none _)
      | (with_reducible refine LeO.ite ?_ ?_)
      | (with_reducible refine LeO.bind ?_ (fun _ => ?_))
      | exact ih0 _ _ _ _ _ _
      | exact ih1 _ _ _ _ _ _ _ _
      | exact ih2 _ _ _ _
      | exact ih3 _ _ _ _ _ _
      | exact mutoscopelaw04_awake.mono _
      | exact mutoscopelaw04_small.mono _ _
      | exact mutoscoperef04_Bytes.mono _ _ _
      | exact mutoscoperef04_Right.mono _ _ _
      | exact rec_All.mono _ _
      | exact rec_Bytes.mono _ _
      | exact LeO.none _
      | refine LeO.ite ?_ ?_
      | refine LeO.bind ?_ (fun _ => ?_)
def mutoscopelaw04_RecBytes.T22 : Bool × List (List Nat × List Nat) := (true, [([], []), ([], []), ([0, 1], [0, 1]), ([2], [2]), ([], []), ([], []), ([4, 5], [4, 5]), ([6], [6]), ([3, 7], [3, 7]), ([8], [8])])
def mutoscopelaw04_RecBytes.B22 : List Nat := [0, 0, 3, 7, 0, 0, 48, 112, 255, 511]
theorem mutoscopelaw04_RecBytes.tab22 : rtab .any (opsOf Try.f3 22) = mutoscopelaw04_RecBytes.T22 := by kernel_rfl
theorem mutoscopelaw04_RecBytes.bits22 : waitsOk mutoscopelaw04_RecBytes.T22.2 mutoscopelaw04_RecBytes.B22 = true := by kernel_rfl
set_option maxHeartbeats 8000000 in
set_option maxRecDepth 100000 in
theorem mutoscopelaw04_RecBytes.calls_true (k : Nat) (A0 : Option Addr) (c0 : Nat) (l0 : List (S27)) (r : Bool) (w : World) (hr0 : Kd.C k27 w A0 l0.length l0) (hc0 : l0.length ≤ c0) (hr : r = true) (h : mutoscopelaw04_RecBytes.f k l0 = some r) :
    Calls Try.prog 3 #[.slice A0 l0.length c0] w fun e w' => e = .returned (.bool r) ∧ Below w.heap.size w w' := by
  have HR := Aside0.mk hr
  clear hr
  have hu27 := Try.underlying27
  have HR0 := Aside0.mk hr0
  have HC0 := Aside0.mk hc0
  clear hr0 hc0
  have HB := Aside0.mk (Below.refl w.heap.size w)
  have H : ((mutoscopelaw04_small.f k l0).bind fun t190 => (if t190 = true then (mutoscopelaw04_RecBytes.l0 k l0 (⟨#[]⟩ : ByteArray) 0 l0 (l0.length : Int) 0) else ((mutoscopelaw04_awake.f k).bind fun t191 => (some t191)))) = some r := h
  clear h
  replace H := Option.bind_eq_some_iff.mp H
  obtain ⟨t190, A20, H⟩ := H
  replace H : (if t190 = true then (mutoscopelaw04_RecBytes.l0 k l0 (⟨#[]⟩ : ByteArray) 0 l0 (l0.length : Int) 0) else ((mutoscopelaw04_awake.f k).bind fun t191 => (some t191))) = some r := H
  have A2 := Aside0.mk A20
  clear A20
  by_cases c3 : t190 = true
  · subst c3
    have H1 : (mutoscopelaw04_RecBytes.l0 k l0 (⟨#[]⟩ : ByteArray) 0 l0 (l0.length : Int) 0) = some r := by rw [if_pos rfl] at H; exact H
    clear H
    have H := H1
    clear H1
    have H' := Aside0.mk H
    clear H
    go_enter Try.func3, Try.ntmps3
    go_wp2_with (first | ((with_reducible refine gate_callee (f := 15) rfl ?_); refine goesL_ (some 15) rfl rfl Try.func15 (by kernel_rfl) rfl #[.slice A0 l0.length c0] rfl (by (try simp only [List.map_toArray, List.map_cons, List.map_nil]); first | done | rfl | (simp only [List.length_drop, List.length_take]; rfl)) ?_; (with_reducible refine (mutoscopelaw04_small.calls k _ _ l0 true _ ?side1 ?side2 A2.out).mono ?_); (case side1 => repeat (first | exact HR0.out | (with_reducible refine Kd.C_alloc ?_ _) | (with_reducible refine Kd.C_drewN ?_ _) | (with_reducible refine Kd.C_drew ?_))); (case side2 => exact HC0.out); rintro e w4 ⟨rfl, hb⟩; refine ⟨_, rfl, ?_⟩; have n0_ := Aside0.mk (below_step (by repeat (first | (with_reducible first | exact HB.out | apply below_alloc | apply pw_below_drewN | apply below_drew1) | exact HB.out)) hb); clear HB; have HB := n0_; clear n0_; (try clear hb); (try clear hb2); (try clear hk); (try clear hi)))
    go_loopg [3, 4, 20] k (fun kq v3 v4 v20 w' => ∃ (x3_1 : ByteArray) (x4_1 : Int) (x20_1 : Int), v3 = .string x3_1 ∧ v4 = .int .i64 x4_1 ∧ v20 = .int .i64 x20_1 ∧ Aside0 (mutoscopelaw04_RecBytes.l0 kq l0 x3_1 x4_1 l0 (l0.length : Int) x20_1 = some r) ∧ Aside0 (kq ≤ k) ∧ Aside0 (Below w.heap.size w w'))
    case atStart => exact ⟨((⟨#[]⟩ : ByteArray)), (0), (0), (by first | rfl | (simp; done) | (simp [*]; done)), (by first | rfl | (simp; done) | (simp [*]; done)), (by first | rfl | (simp; done) | (simp [*]; done)), H', ⟨Nat.le_refl _⟩, ⟨by repeat (first | (with_reducible first | exact HB.out | apply below_alloc | apply pw_below_drewN | apply below_drew1) | exact HB.out)⟩⟩
    case round =>
      clear H'
      try clear c1
      try clear p2
      try clear c3
      obtain ⟨x3_1, x4_1, x20_1, rfl, rfl, rfl, HA, HK1, HB⟩ := hrel
      cases gk with
      | zero => exact absurd HA.out (by simp [mutoscopelaw04_RecBytes.l0])
      | succ k1 =>
        have H := HA.out
        clear HA
        simp only [mutoscopelaw04_RecBytes.l0] at H
        by_cases c5 : x20_1 < (l0.length : Int)
        · rw [if_pos c5] at H
          have c5b0 : decide (x20_1 < (l0.length : Int)) = true := decide_eq_true c5
          clear c5
          by_cases c6 : 0 ≤ x20_1
          · rw [if_pos c6] at H
            have c6b0 : decide (0 ≤ x20_1) = true := decide_eq_true c6
            clear c6
            by_cases c7 : x20_1 < (l0.length : Int)
            · rw [if_pos c7] at H
              have c7b0 : decide (x20_1 < (l0.length : Int)) = true := decide_eq_true c7
              clear c7
              have HC8 := Aside0.mk H
              clear H
              have p192 : 0 ≤ (x20_1 : Int) := of_decide_eq_true (by first | (with_reducible assumption) | assumption)
              have q192 : x20_1 < (l0.length : Int) := of_decide_eq_true (by first | (with_reducible assumption) | assumption)
              obtain ⟨ad192, A192_1, c192_1, e192, hx192_0, hx192_1, hl192_1, hi192_1⟩ := at_T27 HR0.out x20_1 p192 q192
              cases e192
              replace hx192_0 := (HB.out.cell (World.block_lt_of_cell? w _ hx192_0)).trans hx192_0
              replace hx192_1 := (HB.out.cell (World.block_lt_of_cell? w _ hx192_1)).trans hx192_1
              have HR192_1 := Aside0.mk hi192_1
              have HC192_1 := Aside0.mk hl192_1
              clear hi192_1 hl192_1
              replace p192 := eq_true p192
              replace q192 := eq_true q192
              go_upto_if 25 with (first | ((with_reducible refine gate_dst (N := 6) rfl ?_); (try (refine gate_guard (by rfl) ?_; dsimp only)); refine box_event ?hg (N := 6) ?hd (cs := #[.int .i64 0, .slice none 0 0]) (t := 27) ?hr ?_; (case hd => rfl); (case hg => rfl); (case hr => first | (go_simp; done) | (go_simp; rfl)); intro gb193 hg w9 hbox hb; have n0_ := Aside0.mk (below_step (by repeat (first | (with_reducible first | exact HB.out | apply below_alloc | apply pw_below_drewN | apply below_drew1) | exact HB.out)) hb); have n1_ := Aside0.mk (hbox); have n2_ := Aside0.mk ((by rw [hg]; exact (below_size (by repeat (first | (with_reducible first | exact HB.out | apply below_alloc | apply pw_below_drewN | apply below_drew1) | exact HB.out))) : w.heap.size ≤ gb193)); have n3_ := Aside0.mk ((by rw [hg]; exact (below_size (by repeat (first | (with_reducible first | exact HB.out | apply below_alloc | apply pw_below_drewN | apply below_drew1) | exact HB.out))) : w.heap.size ≤ gb193)); clear HB; have HB := n0_; have BK193 := n1_; have GW193 := n2_; have GE193 := n3_; clear n0_ n1_ n2_ n3_; clear hb hbox hg; have hcz10_0 : w9.cell? ⟨gb193, 0, none⟩ = some (.int .i64 0) := (blk_cell BK193.out 0).trans rfl; have hcz10_1 : w9.cell? ⟨gb193, 1, none⟩ = some (.slice none 0 0) := (blk_cell BK193.out 1).trans rfl; have hfz10_0 := blk_frozen BK193.out 0; have hfz10_1 := blk_frozen BK193.out 1))
              (try simp only [Act.put, List.setIfInBounds_toArray, List.set_cons_zero, List.set_cons_succ])
              go_cut [4] (fun v4 wc => ∃ (kq : Nat) (x4_7 : Int), v4 = .int .i64 x4_7 ∧ Aside0 (mutoscopelaw04_RecBytes.j1 kq l0 x3_1 x4_7 l0 (l0.length : Int) x20_1 ((rd_T27 l0 x20_1).f0) ((rd_T27 l0 x20_1).f1) = some r) ∧ Aside0 (kq ≤ k1) ∧ Aside0 (wc.heap[gb193]? = some (.cells #[.int .i64 ((rd_T27 l0 x20_1).f0), (.slice A192_1 ((rd_T27 l0 x20_1).f1).length c192_1)] 27 (0, 0))) ∧ Aside0 (Below w.heap.size w wc))
              case first =>
                have H := HC8.out
                clear HC8
                by_cases c11 : x4_1 = 0
                · rw [if_pos c11] at H
                  have c11b0 : (x4_1 == 0) = true := beq_iff_eq.mpr c11
                  have c11b1 : (x4_1 != 0) = false := bne_eq_false_iff_eq.mpr c11
                  clear c11
                  (first | rw [c11b0] | (simp only [i64_w, i32_w]; rw [c11b0]) | skip)
                  replace H := Option.bind_eq_some_iff.mp H
                  obtain ⟨⟨t194, t195⟩, A120, H⟩ := H
                  replace H : ((mutoscoperef04_Right.f k1 t194 t195).bind fun t196 => (mutoscopelaw04_RecBytes.j1 k1 l0 x3_1 t196 l0 (l0.length : Int) x20_1 ((rd_T27 l0 x20_1).f0) ((rd_T27 l0 x20_1).f1))) = some r := H
                  have A12 := Aside0.mk A120
                  clear A120
                  replace H := Option.bind_eq_some_iff.mp H
                  obtain ⟨t196, A130, H⟩ := H
                  replace H : (mutoscopelaw04_RecBytes.j1 k1 l0 x3_1 t196 l0 (l0.length : Int) x20_1 ((rd_T27 l0 x20_1).f0) ((rd_T27 l0 x20_1).f1)) = some r := H
                  have A13 := Aside0.mk A130
                  clear A130
                  have H' := Aside0.mk H
                  clear H
                  have hcz14_0 : w9.cell? ⟨gb193, 0, none⟩ = some (.int .i64 0) := (blk_cell BK193.out 0).trans rfl
                  have hcz14_1 : w9.cell? ⟨gb193, 1, none⟩ = some (.slice none 0 0) := (blk_cell BK193.out 1).trans rfl
                  have hfz14_0 := blk_frozen BK193.out 0
                  have hfz14_1 := blk_frozen BK193.out 1
                  go_wp2_with (first | ((with_reducible refine gate_callee (f := 18) rfl ?_); refine goesL_ (some 27) rfl rfl Try.func18 (by kernel_rfl) rfl #[.agg #[.int .i64 ((rd_T27 l0 x20_1).f0), .slice A192_1 ((rd_T27 l0 x20_1).f1).length c192_1]] rfl (by (try simp only [List.map_toArray, List.map_cons, List.map_nil]); first | done | rfl | (simp only [List.length_drop, List.length_take]; rfl)) ?_; (with_reducible refine (mutoscopelaw04_ref.calls ((rd_T27 l0 x20_1).f0) _ _ ((rd_T27 l0 x20_1).f1) t194 t195 _ ?side1 ?side2 A12.out).mono ?_); (case side1 => exact Kd.C_below HR192_1.out (by repeat (first | (with_reducible first | exact HB.out | apply below_alloc | apply pw_below_drewN | apply below_drew1 | refine below_set ?_ GE193.out) | exact HB.out))); (case side2 => exact HC192_1.out); rintro e w15 ⟨rfl, hb⟩; refine ⟨_, rfl, ?_⟩; have n0_ := Aside0.mk (blk_below (g := gb193) (o := .cells #[.int .i64 ((rd_T27 l0 x20_1).f0), .slice A192_1 ((rd_T27 l0 x20_1).f1).length c192_1] 27 (0, 0)) (by (with_reducible repeat (first | refine blk_drewN ?_ _ | refine blk_drew ?_ | refine blk_alloc ?_ _)); refine blk_put (cs := #[.int .i64 ((rd_T27 l0 x20_1).f0), .slice none 0 0]) ?_ 1 _ rfl; (with_reducible repeat (first | refine blk_drewN ?_ _ | refine blk_drew ?_ | refine blk_alloc ?_ _)); refine blk_put (cs := #[.int .i64 0, .slice none 0 0]) ?_ 0 _ rfl; (with_reducible repeat (first | refine blk_drewN ?_ _ | refine blk_drew ?_ | refine blk_alloc ?_ _)); exact BK193.out) hb); have n1_ := Aside0.mk (below_step (by repeat (first | (with_reducible first | exact HB.out | apply below_alloc | apply pw_below_drewN | apply below_drew1 | refine below_set ?_ GE193.out) | exact HB.out)) hb); clear BK193; clear HB; have BK193 := n0_; have HB := n1_; clear n0_ n1_; (try clear hb); (try clear hb2); (try clear hk); (try clear hi)) | ((with_reducible refine gate_callee (f := 17) rfl ?_); refine goesL_ (some 28) rfl rfl Try.func17 (by kernel_rfl) rfl #[.agg #[.int .i64 t194, .string t195]] rfl (by (try simp only [List.map_toArray, List.map_cons, List.map_nil]); first | done | rfl | (simp only [List.length_drop, List.length_take]; rfl)) ?_; (with_reducible refine (mutoscoperef04_Right.calls k1 t194 t195 t196 _ A13.out).mono ?_); rintro e w16 ⟨rfl, hb⟩; refine ⟨_, rfl, ?_⟩; have n0_ := Aside0.mk (blk_below (g := gb193) (o := .cells #[.int .i64 ((rd_T27 l0 x20_1).f0), .slice A192_1 ((rd_T27 l0 x20_1).f1).length c192_1] 27 (0, 0)) (by (with_reducible repeat (first | refine blk_drewN ?_ _ | refine blk_drew ?_ | refine blk_alloc ?_ _)); exact BK193.out) hb); have n1_ := Aside0.mk (below_step (by repeat (first | (with_reducible first | exact HB.out | apply below_alloc | apply pw_below_drewN | apply below_drew1 | refine below_set ?_ GE193.out) | exact HB.out)) hb); clear BK193; clear HB; have BK193 := n0_; have HB := n1_; clear n0_ n1_; (try clear hb); (try clear hb2); (try clear hk); (try clear hi)))
                  go_meet
                  case rel => exact ⟨_, (t196), (by first | rfl | (simp; done) | (simp [*]; done)), H', ⟨by have := HK1.out; first | omega | exact Nat.le_refl _⟩, ⟨by (with_reducible repeat (first | refine blk_drewN ?_ _ | refine blk_drew ?_ | refine blk_alloc ?_ _)); exact BK193.out⟩, ⟨by repeat (first | (with_reducible first | exact HB.out | apply below_alloc | apply pw_below_drewN | apply below_drew1 | refine below_set ?_ GE193.out) | exact HB.out)⟩⟩
                · rw [if_neg c11] at H
                  have c11b0 : (x4_1 == 0) = false := beq_eq_false_iff_ne.mpr c11
                  have c11b1 : (x4_1 != 0) = true := bne_iff_ne.mpr c11
                  (first | rw [c11b0] | (simp only [i64_w, i32_w]; rw [c11b0]) | skip)
                  have H' := Aside0.mk H
                  clear H
                  go_wp2
                  go_meet
                  case rel => exact ⟨_, (x4_1), (by first | rfl | (simp; done) | (simp [*]; done)), H', ⟨by have := HK1.out; first | omega | exact Nat.le_refl _⟩, ⟨by (with_reducible repeat (first | refine blk_drewN ?_ _ | refine blk_drew ?_ | refine blk_alloc ?_ _)); refine blk_put (cs := #[.int .i64 ((rd_T27 l0 x20_1).f0), .slice none 0 0]) ?_ 1 _ rfl; (with_reducible repeat (first | refine blk_drewN ?_ _ | refine blk_drew ?_ | refine blk_alloc ?_ _)); refine blk_put (cs := #[.int .i64 0, .slice none 0 0]) ?_ 0 _ rfl; (with_reducible repeat (first | refine blk_drewN ?_ _ | refine blk_drew ?_ | refine blk_alloc ?_ _)); exact BK193.out⟩, ⟨by repeat (first | (with_reducible first | exact HB.out | apply below_alloc | apply pw_below_drewN | apply below_drew1 | refine below_set ?_ GE193.out) | exact HB.out)⟩⟩
              case rest =>
                clear HC8
                try clear c1
                try clear p1
                try clear q1
                try clear hx1
                try clear p2
                try clear c3
                try clear c5
                try clear c5b0
                try clear c6
                try clear c6b0
                try clear c7
                try clear c7b0
                try clear c11
                try clear c11b0
                try clear c11b1
                try clear c15
                try clear hcz10_0
                try clear hcz10_1
                try clear hcz14_0
                try clear hcz14_1
                try clear hfz10_0
                try clear hfz10_1
                try clear hfz14_0
                try clear hfz14_1
                try clear hx192_0
                try clear hx192_1
                try clear p192
                try clear p2
                try clear q192
                obtain ⟨kq, x4_7, rfl, HA, HJ7, BK193, HB⟩ := hcut
                cases kq with
                | zero => exact absurd HA.out (by simp [mutoscopelaw04_RecBytes.j1])
                | succ kj7 =>
                  have H := HA.out
                  clear HA
                  simp only [mutoscopelaw04_RecBytes.j1] at H
                  by_cases c17 : x4_7 = 0
                  · rw [if_pos c17] at H
                    have c17b0 : (x4_7 == 0) = true := beq_iff_eq.mpr c17
                    have c17b1 : (x4_7 != 0) = false := bne_eq_false_iff_eq.mpr c17
                    clear c17
                    replace H := Option.bind_eq_some_iff.mp H
                    obtain ⟨⟨t197, t198⟩, A180, H⟩ := H
                    replace H : ((mutoscoperef04_Bytes.f kj7 t197 t198).bind fun t199 => (if x3_1.size + t199.size ≤ 9223372036854775807 then (mutoscopelaw04_RecBytes.l0 kj7 l0 (x3_1 ++ t199) x4_7 l0 (l0.length : Int) (wrap64 (x20_1 + 1))) else (none))) = some r := H
                    have A18 := Aside0.mk A180
                    clear A180
                    replace H := Option.bind_eq_some_iff.mp H
                    obtain ⟨t199, A190, H⟩ := H
                    replace H : (if x3_1.size + t199.size ≤ 9223372036854775807 then (mutoscopelaw04_RecBytes.l0 kj7 l0 (x3_1 ++ t199) x4_7 l0 (l0.length : Int) (wrap64 (x20_1 + 1))) else (none)) = some r := H
                    have A19 := Aside0.mk A190
                    clear A190
                    by_cases c20 : x3_1.size + t199.size ≤ 9223372036854775807
                    · rw [if_pos c20] at H
                      have c20b0 := eq_true c20
                      have c20b1 : decide (x3_1.size + t199.size ≤ 9223372036854775807) = true := decide_eq_true c20
                      try have c20b2 : (9223372036854775807 < x3_1.size + t199.size) = False := eq_false (Nat.not_lt.2 c20)
                      have H' := Aside0.mk H
                      clear H
                      have hcz21_0 : wc.cell? ⟨gb193, 0, none⟩ = some (.int .i64 ((rd_T27 l0 x20_1).f0)) := (blk_cell BK193.out 0).trans rfl
                      have hcz21_1 : wc.cell? ⟨gb193, 1, none⟩ = some (.slice A192_1 ((rd_T27 l0 x20_1).f1).length c192_1) := (blk_cell BK193.out 1).trans rfl
                      have hfz21_0 := blk_frozen BK193.out 0
                      have hfz21_1 := blk_frozen BK193.out 1
                      go_wp2_with (first | ((with_reducible refine gate_callee (f := 18) rfl ?_); refine goesL_ (some 33) rfl rfl Try.func18 (by kernel_rfl) rfl #[.agg #[.int .i64 ((rd_T27 l0 x20_1).f0), .slice A192_1 ((rd_T27 l0 x20_1).f1).length c192_1]] rfl (by (try simp only [List.map_toArray, List.map_cons, List.map_nil]); first | done | rfl | (simp only [List.length_drop, List.length_take]; rfl)) ?_; (with_reducible refine (mutoscopelaw04_ref.calls ((rd_T27 l0 x20_1).f0) _ _ ((rd_T27 l0 x20_1).f1) t197 t198 _ ?side1 ?side2 A18.out).mono ?_); (case side1 => repeat (first | exact (Kd.C_below HR192_1.out HB.out) | (with_reducible refine Kd.C_alloc ?_ _) | (with_reducible refine Kd.C_drewN ?_ _) | (with_reducible refine Kd.C_drew ?_))); (case side2 => exact HC192_1.out); rintro e w22 ⟨rfl, hb⟩; refine ⟨_, rfl, ?_⟩; have n0_ := Aside0.mk (blk_below (g := gb193) (o := .cells #[.int .i64 ((rd_T27 l0 x20_1).f0), .slice A192_1 ((rd_T27 l0 x20_1).f1).length c192_1] 27 (0, 0)) (by (with_reducible repeat (first | refine blk_drewN ?_ _ | refine blk_drew ?_ | refine blk_alloc ?_ _)); exact BK193.out) hb); have n1_ := Aside0.mk (below_step (by repeat (first | (with_reducible first | exact HB.out | apply below_alloc | apply pw_below_drewN | apply below_drew1 | refine below_set ?_ GE193.out) | exact HB.out)) hb); clear BK193; clear HB; have BK193 := n0_; have HB := n1_; clear n0_ n1_; (try clear hb); (try clear hb2); (try clear hk); (try clear hi)) | ((with_reducible refine gate_callee (f := 19) rfl ?_); refine goesL_ (some 34) rfl rfl Try.func19 (by kernel_rfl) rfl #[.agg #[.int .i64 t197, .string t198]] rfl (by (try simp only [List.map_toArray, List.map_cons, List.map_nil]); first | done | rfl | (simp only [List.length_drop, List.length_take]; rfl)) ?_; (with_reducible refine (mutoscoperef04_Bytes.calls kj7 t197 t198 t199 _ A19.out).mono ?_); rintro e w23 ⟨rfl, hb⟩; refine ⟨_, rfl, ?_⟩; have n0_ := Aside0.mk (blk_below (g := gb193) (o := .cells #[.int .i64 ((rd_T27 l0 x20_1).f0), .slice A192_1 ((rd_T27 l0 x20_1).f1).length c192_1] 27 (0, 0)) (by (with_reducible repeat (first | refine blk_drewN ?_ _ | refine blk_drew ?_ | refine blk_alloc ?_ _)); exact BK193.out) hb); have n1_ := Aside0.mk (below_step (by repeat (first | (with_reducible first | exact HB.out | apply below_alloc | apply pw_below_drewN | apply below_drew1 | refine below_set ?_ GE193.out) | exact HB.out)) hb); clear BK193; clear HB; have BK193 := n0_; have HB := n1_; clear n0_ n1_; (try clear hb); (try clear hb2); (try clear hk); (try clear hi)))
                      go_roundg kj7
                      case measure => have := HK1.out; have := HJ7.out; omega
                      case rel => exact ⟨(x3_1 ++ t199), (x4_7), (wrap64 (x20_1 + 1)), (by first | rfl | (simp; done) | (simp [*]; done)), (by first | rfl | (simp; done) | (simp [*]; done)), (by first | rfl | (simp; done) | (simp [*]; done)), H', ⟨by have := HK1.out; have := HJ7.out; omega⟩, ⟨by repeat (first | (with_reducible first | exact HB.out | apply below_alloc | apply pw_below_drewN | apply below_drew1 | refine below_set ?_ GE193.out) | exact HB.out)⟩⟩
                    · rw [if_neg c20] at H
                      exact absurd H (by simp)
                  · rw [if_neg c17] at H
                    have c17b0 : (x4_7 == 0) = false := beq_eq_false_iff_ne.mpr c17
                    have c17b1 : (x4_7 != 0) = true := bne_iff_ne.mpr c17
                    have H' := Aside0.mk H
                    clear H
                    go_wp2
                    go_roundg kj7
                    case measure => have := HK1.out; have := HJ7.out; omega
                    case rel => exact ⟨(x3_1), (x4_7), (wrap64 (x20_1 + 1)), (by first | rfl | (simp; done) | (simp [*]; done)), (by first | rfl | (simp; done) | (simp [*]; done)), (by first | rfl | (simp; done) | (simp [*]; done)), H', ⟨by have := HK1.out; have := HJ7.out; omega⟩, ⟨by repeat (first | (with_reducible first | exact HB.out | apply below_alloc | apply pw_below_drewN | apply below_drew1 | refine below_set ?_ GE193.out) | exact HB.out)⟩⟩
            · rw [if_neg c7] at H
              exact absurd H (by simp)
          · rw [if_neg c6] at H
            exact absurd H (by simp)
        · rw [if_neg c5] at H
          have c5b0 : decide (x20_1 < (l0.length : Int)) = false := decide_eq_false c5
          clear c5
          replace H := Option.bind_eq_some_iff.mp H
          obtain ⟨⟨t200, t201⟩, A240, H⟩ := H
          replace H : (if x4_1 = 0 then ((rec_All.f k1 t200).bind fun bt205 => (if t201 = 0 then (if (strOfNums t200).toList = x3_1.toList then (if bt205.2.1 = (t200.length : Int) then (if bt205.2.2 = 0 then (mutoscopelaw04_RecBytes.j2 k1 l0 t200 bt205.1 ((bt205.1.length : Int) != (l0.length : Int))) else (mutoscopelaw04_RecBytes.j2 k1 l0 t200 bt205.1 true)) else (mutoscopelaw04_RecBytes.j2 k1 l0 t200 bt205.1 true)) else (mutoscopelaw04_RecBytes.j2 k1 l0 t200 bt205.1 true)) else (mutoscopelaw04_RecBytes.j2 k1 l0 t200 bt205.1 true))) else (if t201 = x4_1 then (if (t200.length : Int) = 0 then ((mutoscopelaw04_awake.f k1).bind fun t204 => (some t204)) else (some false)) else (some false))) = some r := H
          have A24 := Aside0.mk A240
          clear A240
          by_cases c25 : x4_1 = 0
          · rw [if_pos c25] at H
            have c25b0 : (x4_1 == 0) = true := beq_iff_eq.mpr c25
            have c25b1 : (x4_1 != 0) = false := bne_eq_false_iff_eq.mpr c25
            clear c25
            replace H := Option.bind_eq_some_iff.mp H
            obtain ⟨⟨t205, t206, t207⟩, A260, H⟩ := H
            replace H : (if t201 = 0 then (if (strOfNums t200).toList = x3_1.toList then (if t206 = (t200.length : Int) then (if t207 = 0 then (mutoscopelaw04_RecBytes.j2 k1 l0 t200 t205 ((t205.length : Int) != (l0.length : Int))) else (mutoscopelaw04_RecBytes.j2 k1 l0 t200 t205 true)) else (mutoscopelaw04_RecBytes.j2 k1 l0 t200 t205 true)) else (mutoscopelaw04_RecBytes.j2 k1 l0 t200 t205 true)) else (mutoscopelaw04_RecBytes.j2 k1 l0 t200 t205 true)) = some r := H
            have A26 := Aside0.mk A260
            clear A260
            have HC27 := Aside0.mk H
            clear H
            go_upto_region 16 with (first | ((with_reducible refine gate_callee (f := 20) rfl ?_); refine goesL_ (some 39) rfl rfl Try.func20 (by kernel_rfl) rfl #[.slice A0 l0.length c0] rfl (by (try simp only [List.map_toArray, List.map_cons, List.map_nil]); first | done | rfl | (simp only [List.length_drop, List.length_take]; rfl)) ?_; (with_reducible refine (rec_Bytes.calls k1 _ _ l0 t200 t201 _ ?side1 ?side2 A24.out).mono ?_); (case side1 => repeat (first | exact (Kd.C_below HR0.out HB.out) | (with_reducible refine Kd.C_alloc ?_ _) | (with_reducible refine Kd.C_drewN ?_ _) | (with_reducible refine Kd.C_drew ?_))); (case side2 => exact HC0.out); rintro e w28 ⟨v202, rfl, ho0, hb⟩; refine ⟨_, rfl, ?_⟩; have n0_ := Aside0.mk (Kd.R_lower ho0 (below_size (by repeat (first | (with_reducible first | exact HB.out | apply below_alloc | apply pw_below_drewN | apply below_drew1) | exact HB.out)))); have n1_ := Aside0.mk (below_step (by repeat (first | (with_reducible first | exact HB.out | apply below_alloc | apply pw_below_drewN | apply below_drew1) | exact HB.out)) hb); clear HB; have HO203 := n0_; have HB := n1_; clear n0_ n1_; (try clear hb); (try clear hb2); (try clear hk); (try clear hi); (try clear ho0); obtain ⟨Ao29, co29, eo29⟩ := Kd.R_slice HO203.out; subst eo29) | ((with_reducible refine gate_callee (f := 21) rfl ?_); refine goesL_ (some 57) rfl rfl Try.func21 (by kernel_rfl) rfl #[.slice Ao29 t200.length co29] rfl (by (try simp only [List.map_toArray, List.map_cons, List.map_nil]); first | done | rfl | (simp only [List.length_drop, List.length_take]; rfl)) ?_; (with_reducible refine (rec_All.calls k1 _ _ t200 t205 t206 t207 _ ?side1 ?side2 A26.out).mono ?_); (case side1 => repeat (first | exact (Kd.R_reads' HO203.out).2.2 | (with_reducible refine Kd.C_alloc ?_ _) | (with_reducible refine Kd.C_drewN ?_ _) | (with_reducible refine Kd.C_drew ?_))); (case side2 => exact (Kd.R_reads' HO203.out).2.1); rintro e w30 ⟨v208, rfl, ho0, hb⟩; refine ⟨_, rfl, ?_⟩; have n0_ := Aside0.mk (Kd.R_below (by (with_reducible repeat (first | apply Kd.R_alloc | apply Kd.R_drewN | apply Kd.R_drew)); exact HO203.out) hb); have n1_ := Aside0.mk (Kd.S_lower (Kd.S_new' ho0 (Kd.R_lt (by (with_reducible repeat (first | apply Kd.R_alloc | apply Kd.R_drewN | apply Kd.R_drew)); exact HO203.out))) (below_size (by repeat (first | (with_reducible first | exact HB.out | apply below_alloc | apply pw_below_drewN | apply below_drew1) | exact HB.out)))); have n2_ := Aside0.mk (below_step (by repeat (first | (with_reducible first | exact HB.out | apply below_alloc | apply pw_below_drewN | apply below_drew1) | exact HB.out)) hb); clear HO203; clear HB; have HO203 := n0_; have HO209 := n1_; have HB := n2_; clear n0_ n1_ n2_; (try clear hb); (try clear hb2); (try clear hk); (try clear hi); (try clear ho0)))
            (try simp only [Act.put, List.setIfInBounds_toArray, List.set_cons_zero, List.set_cons_succ])
            go_cut [85] (fun v85 wc => ∃ (kq : Nat) (x85_26 : Bool), v85 = .bool x85_26 ∧ Aside0 (mutoscopelaw04_RecBytes.j2 kq l0 t200 t205 x85_26 = some r) ∧ Aside0 (kq ≤ k1) ∧ Aside0 (Kd.R (Kd.int .u8) 5 wc w.heap.size (fun _ => True) (.slice Ao29 t200.length co29) t200) ∧ Aside0 (Kd.S k27 27 wc w.heap.size (fun k_ => some k_ ≠ ((.slice Ao29 t200.length co29) : Value).ownBlock) v208 t205) ∧ Aside0 (Below w.heap.size w wc))
            case first =>
              have H := HC27.out
              clear HC27
              by_cases c31 : t201 = 0
              · rw [if_pos c31] at H
                have c31b0 : (t201 == 0) = true := beq_iff_eq.mpr c31
                have c31b1 : (t201 != 0) = false := bne_eq_false_iff_eq.mpr c31
                clear c31
                (first | rw [c31b0] | (simp only [i64_w, i32_w]; rw [c31b0]) | skip)
                by_cases c32 : (strOfNums t200).toList = x3_1.toList
                · rw [if_pos c32] at H
                  have c32b0 : ((strOfNums t200).toList == x3_1.toList) = true := beq_iff_eq.mpr c32
                  have c32b1 : ((strOfNums t200).toList != x3_1.toList) = false := bne_eq_false_iff_eq.mpr c32
                  clear c32
                  by_cases c33 : t206 = (t200.length : Int)
                  · rw [if_pos c33] at H
                    have c33b0 : (t206 == (t200.length : Int)) = true := beq_iff_eq.mpr c33
                    have c33b1 : (t206 != (t200.length : Int)) = false := bne_eq_false_iff_eq.mpr c33
                    clear c33
                    by_cases c34 : t207 = 0
                    · rw [if_pos c34] at H
                      have c34b0 : (t207 == 0) = true := beq_iff_eq.mpr c34
                      have c34b1 : (t207 != 0) = false := bne_eq_false_iff_eq.mpr c34
                      clear c34
                      have H' := Aside0.mk H
                      clear H
                      have hcv35 := own_string (P := Try.prog) Try.underlying25 Try.underlying5 Try.underlying9 (Kd.own_of_R HO203.out)
                      obtain ⟨Ao36, co36, eo36⟩ := Kd.S_slice HO209.out
                      subst eo36
                      go_wp2
                      go_meet
                      case rel => exact ⟨_, (((t205.length : Int) != (l0.length : Int))), (by first | rfl | (simp; done) | (simp [*]; done)), H', ⟨by have := HK1.out; first | omega | exact Nat.le_refl _⟩, ⟨by (with_reducible repeat (first | apply Kd.R_alloc | apply Kd.R_drewN | apply Kd.R_drew)); exact HO203.out⟩, ⟨by (with_reducible repeat (first | apply Kd.S_alloc | apply Kd.S_drewN | apply Kd.S_drew)); exact Kd.S_mono HO209.out (fun _ hk => hk.2)⟩, ⟨by repeat (first | (with_reducible first | exact HB.out | apply below_alloc | apply pw_below_drewN | apply below_drew1) | exact HB.out)⟩⟩
                    · rw [if_neg c34] at H
                      have c34b0 : (t207 == 0) = false := beq_eq_false_iff_ne.mpr c34
                      have c34b1 : (t207 != 0) = true := bne_iff_ne.mpr c34
                      have H' := Aside0.mk H
                      clear H
                      have hcv37 := own_string (P := Try.prog) Try.underlying25 Try.underlying5 Try.underlying9 (Kd.own_of_R HO203.out)
                      go_wp2
                      go_meet
                      case rel => exact ⟨_, (true), (by first | rfl | (simp; done) | (simp [*]; done)), H', ⟨by have := HK1.out; first | omega | exact Nat.le_refl _⟩, ⟨by (with_reducible repeat (first | apply Kd.R_alloc | apply Kd.R_drewN | apply Kd.R_drew)); exact HO203.out⟩, ⟨by (with_reducible repeat (first | apply Kd.S_alloc | apply Kd.S_drewN | apply Kd.S_drew)); exact Kd.S_mono HO209.out (fun _ hk => hk.2)⟩, ⟨by repeat (first | (with_reducible first | exact HB.out | apply below_alloc | apply pw_below_drewN | apply below_drew1) | exact HB.out)⟩⟩
                  · rw [if_neg c33] at H
                    have c33b0 : (t206 == (t200.length : Int)) = false := beq_eq_false_iff_ne.mpr c33
                    have c33b1 : (t206 != (t200.length : Int)) = true := bne_iff_ne.mpr c33
                    have H' := Aside0.mk H
                    clear H
                    have hcv38 := own_string (P := Try.prog) Try.underlying25 Try.underlying5 Try.underlying9 (Kd.own_of_R HO203.out)
                    go_wp2
                    go_meet
                    case rel => exact ⟨_, (true), (by first | rfl | (simp; done) | (simp [*]; done)), H', ⟨by have := HK1.out; first | omega | exact Nat.le_refl _⟩, ⟨by (with_reducible repeat (first | apply Kd.R_alloc | apply Kd.R_drewN | apply Kd.R_drew)); exact HO203.out⟩, ⟨by (with_reducible repeat (first | apply Kd.S_alloc | apply Kd.S_drewN | apply Kd.S_drew)); exact Kd.S_mono HO209.out (fun _ hk => hk.2)⟩, ⟨by repeat (first | (with_reducible first | exact HB.out | apply below_alloc | apply pw_below_drewN | apply below_drew1) | exact HB.out)⟩⟩
                · rw [if_neg c32] at H
                  have c32b0 : ((strOfNums t200).toList == x3_1.toList) = false := beq_eq_false_iff_ne.mpr c32
                  have c32b1 : ((strOfNums t200).toList != x3_1.toList) = true := bne_iff_ne.mpr c32
                  have H' := Aside0.mk H
                  clear H
                  have hcv39 := own_string (P := Try.prog) Try.underlying25 Try.underlying5 Try.underlying9 (Kd.own_of_R HO203.out)
                  go_wp2
                  go_meet
                  case rel => exact ⟨_, (true), (by first | rfl | (simp; done) | (simp [*]; done)), H', ⟨by have := HK1.out; first | omega | exact Nat.le_refl _⟩, ⟨by (with_reducible repeat (first | apply Kd.R_alloc | apply Kd.R_drewN | apply Kd.R_drew)); exact HO203.out⟩, ⟨by (with_reducible repeat (first | apply Kd.S_alloc | apply Kd.S_drewN | apply Kd.S_drew)); exact Kd.S_mono HO209.out (fun _ hk => hk.2)⟩, ⟨by repeat (first | (with_reducible first | exact HB.out | apply below_alloc | apply pw_below_drewN | apply below_drew1) | exact HB.out)⟩⟩
              · rw [if_neg c31] at H
                have c31b0 : (t201 == 0) = false := beq_eq_false_iff_ne.mpr c31
                have c31b1 : (t201 != 0) = true := bne_iff_ne.mpr c31
                (first | rw [c31b0] | (simp only [i64_w, i32_w]; rw [c31b0]) | skip)
                have H' := Aside0.mk H
                clear H
                go_wp2
                go_meet
                case rel => exact ⟨_, (true), (by first | rfl | (simp; done) | (simp [*]; done)), H', ⟨by have := HK1.out; first | omega | exact Nat.le_refl _⟩, ⟨by (with_reducible repeat (first | apply Kd.R_alloc | apply Kd.R_drewN | apply Kd.R_drew)); exact HO203.out⟩, ⟨by (with_reducible repeat (first | apply Kd.S_alloc | apply Kd.S_drewN | apply Kd.S_drew)); exact Kd.S_mono HO209.out (fun _ hk => hk.2)⟩, ⟨by repeat (first | (with_reducible first | exact HB.out | apply below_alloc | apply pw_below_drewN | apply below_drew1) | exact HB.out)⟩⟩
            case rest =>
              clear HC27
              try clear c1
              try clear p1
              try clear q1
              try clear hx1
              try clear c2
              try clear p2
              try clear c3
              try clear hcv3
              try clear c5
              try clear c5b0
              try clear c6
              try clear c6b0
              try clear p6
              try clear c7
              try clear c7b0
              try clear c11
              try clear c11b0
              try clear c11b1
              try clear c15
              try clear c17
              try clear c17b0
              try clear c17b1
              try clear c18
              try clear c19
              try clear p19
              try clear q19
              try clear hx19
              try clear c20
              try clear c20b0
              try clear c20b1
              try clear c20b2
              try clear c21
              try clear c25
              try clear c25b0
              try clear c25b1
              try clear c31
              try clear c31b0
              try clear c31b1
              try clear c32
              try clear c32b0
              try clear c32b1
              try clear c33
              try clear c33b0
              try clear c33b1
              try clear c34
              try clear c34b0
              try clear c34b1
              try clear hcv35
              try clear hcv37
              try clear hcv38
              try clear hcv39
              try clear hcz10_0
              try clear hcz10_1
              try clear hcz14_0
              try clear hcz14_1
              try clear hcz21_0
              try clear hcz21_1
              try clear hfz10_0
              try clear hfz10_1
              try clear hfz14_0
              try clear hfz14_1
              try clear hfz21_0
              try clear hfz21_1
              try clear hx192_0
              try clear hx192_1
              try clear p1
              try clear p192
              try clear p2
              try clear q1
              try clear q192
              obtain ⟨kq, x85_26, rfl, HA, HJ26, HO_7, HO_9, HB⟩ := hcut
              cases kq with
              | zero => exact absurd HA.out (by simp [mutoscopelaw04_RecBytes.j2])
              | succ kj26 =>
                have H := HA.out
                clear HA
                simp only [mutoscopelaw04_RecBytes.j2] at H
                by_cases c40 : x85_26 = true
                · subst c40
                  have H1 : (some false) = some r := by rw [if_pos rfl] at H; exact H
                  clear H
                  have H := H1
                  clear H1
                  exact absurd (Option.some.inj H) (by rw [HR.out]; decide)
                · replace c40 := Bool.eq_false_iff.mpr c40
                  subst c40
                  have H1 : (mutoscopelaw04_RecBytes.l1 kj26 l0 t200 t205 0 (l0.length : Int) 0) = some r := by rw [if_neg (show ¬ (false = true) by decide)] at H; exact H
                  clear H
                  have H := H1
                  clear H1
                  have H' := Aside0.mk H
                  clear H
                  go_wp2
                  go_loopg [12, 88] kj26 (fun kq v12 v88 w' => ∃ (x12_3 : Int) (x88_3 : Int), v12 = .int .i64 x12_3 ∧ v88 = .int .i64 x88_3 ∧ Aside0 (mutoscopelaw04_RecBytes.l1 kq l0 t200 t205 x12_3 (l0.length : Int) x88_3 = some r) ∧ Aside0 (kq ≤ kj26) ∧ Aside0 (Kd.R (Kd.int .u8) 5 w' w.heap.size (fun _ => True) (.slice Ao29 t200.length co29) t200) ∧ Aside0 (Kd.S k27 27 w' w.heap.size (fun k_ => some k_ ≠ ((.slice Ao29 t200.length co29) : Value).ownBlock) v208 t205) ∧ Aside0 (Below w.heap.size w w'))
                  case atStart => exact ⟨(0), (0), (by first | rfl | (simp; done) | (simp [*]; done)), (by first | rfl | (simp; done) | (simp [*]; done)), H', ⟨Nat.le_refl _⟩, ⟨by (with_reducible repeat (first | apply Kd.R_alloc | apply Kd.R_drewN | apply Kd.R_drew)); exact HO_7.out⟩, ⟨by (with_reducible repeat (first | apply Kd.S_alloc | apply Kd.S_drewN | apply Kd.S_drew)); exact HO_9.out⟩, ⟨by repeat (first | (with_reducible first | exact HB.out | apply below_alloc | apply pw_below_drewN | apply below_drew1) | exact HB.out)⟩⟩
                  case round =>
                    clear H'
                    try clear c1
                    try clear p1
                    try clear q1
                    try clear hx1
                    try clear c2
                    try clear p2
                    try clear c3
                    try clear hcv3
                    try clear c4
                    try clear c5
                    try clear c5b0
                    try clear c6
                    try clear c6b0
                    try clear p6
                    try clear c7
                    try clear c7b0
                    try clear c11
                    try clear c11b0
                    try clear c11b1
                    try clear c15
                    try clear c17
                    try clear c17b0
                    try clear c17b1
                    try clear c18
                    try clear c19
                    try clear p19
                    try clear q19
                    try clear hx19
                    try clear c20
                    try clear c20b0
                    try clear c20b1
                    try clear c20b2
                    try clear c21
                    try clear c25
                    try clear c25b0
                    try clear c25b1
                    try clear c31
                    try clear c31b0
                    try clear c31b1
                    try clear c32
                    try clear c32b0
                    try clear c32b1
                    try clear c33
                    try clear c33b0
                    try clear c33b1
                    try clear c34
                    try clear c34b0
                    try clear c34b1
                    try clear hcv35
                    try clear hcv37
                    try clear hcv38
                    try clear hcv39
                    try clear c40
                    try clear hcz10_0
                    try clear hcz10_1
                    try clear hcz14_0
                    try clear hcz14_1
                    try clear hcz21_0
                    try clear hcz21_1
                    try clear hfz10_0
                    try clear hfz10_1
                    try clear hfz14_0
                    try clear hfz14_1
                    try clear hfz21_0
                    try clear hfz21_1
                    try clear hx192_0
                    try clear hx192_1
                    try clear p1
                    try clear p19
                    try clear p192
                    try clear p2
                    try clear p6
                    try clear q1
                    try clear q19
                    try clear q192
                    obtain ⟨x12_3, x88_3, rfl, rfl, HA, HK3, HO_7, HO_9, HB⟩ := hrel
                    cases gk with
                    | zero => exact absurd HA.out (by simp [mutoscopelaw04_RecBytes.l1])
                    | succ k3 =>
                      have H := HA.out
                      clear HA
                      simp only [mutoscopelaw04_RecBytes.l1] at H
                      by_cases c41 : x88_3 < (l0.length : Int)
                      · rw [if_pos c41] at H
                        have c41b0 : decide (x88_3 < (l0.length : Int)) = true := decide_eq_true c41
                        clear c41
                        by_cases c42 : 0 ≤ x88_3
                        · rw [if_pos c42] at H
                          have c42b0 : decide (0 ≤ x88_3) = true := decide_eq_true c42
                          clear c42
                          by_cases c43 : x88_3 < (t205.length : Int)
                          · rw [if_pos c43] at H
                            have c43b0 : decide (x88_3 < (t205.length : Int)) = true := decide_eq_true c43
                            clear c43
                            by_cases c44 : x88_3 < (l0.length : Int)
                            · rw [if_pos c44] at H
                              have c44b0 : decide (x88_3 < (l0.length : Int)) = true := decide_eq_true c44
                              clear c44
                              replace H := Option.bind_eq_some_iff.mp H
                              obtain ⟨t213, A450, H⟩ := H
                              replace H : (if t213 = true then ((rec_Size.f (((rd_T27 l0 x88_3).f1).length : Int)).bind fun t215 => (mutoscopelaw04_RecBytes.l1 k3 l0 t200 t205 (wrap64 (x12_3 + t215)) (l0.length : Int) (wrap64 (x88_3 + 1)))) else (some false)) = some r := H
                              have A45 := Aside0.mk A450
                              clear A450
                              by_cases c46 : t213 = true
                              · subst c46
                                have H1 : ((rec_Size.f (((rd_T27 l0 x88_3).f1).length : Int)).bind fun t215 => (mutoscopelaw04_RecBytes.l1 k3 l0 t200 t205 (wrap64 (x12_3 + t215)) (l0.length : Int) (wrap64 (x88_3 + 1)))) = some r := by rw [if_pos rfl] at H; exact H
                                clear H
                                have H := H1
                                clear H1
                                replace H := Option.bind_eq_some_iff.mp H
                                obtain ⟨t215, A470, H⟩ := H
                                replace H : (mutoscopelaw04_RecBytes.l1 k3 l0 t200 t205 (wrap64 (x12_3 + t215)) (l0.length : Int) (wrap64 (x88_3 + 1))) = some r := H
                                have A47 := Aside0.mk A470
                                clear A470
                                have H' := Aside0.mk H
                                clear H
                                try go_wp2
                                have n0_ := Aside0.mk (Kd.R_drew HO_7.out)
                                have n1_ := Aside0.mk (Kd.S_drew HO_9.out)
                                have n2_ := Aside0.mk (below_drew1 HB.out)
                                clear HO_7
                                clear HO_9
                                clear HB
                                have HO_7 := n0_
                                have HO_9 := n1_
                                have HB := n2_
                                clear n0_ n1_ n2_
                                obtain ⟨Ao49, co49, eo49⟩ := Kd.S_slice HO_9.out
                                (first | subst eo49 | (injection eo49 with f1_ f2_ f3_; have f4_ := f1_.symm; have f5_ := f3_.symm; clear f1_ f2_ f3_; subst f4_; subst f5_))
                                have p211 : 0 ≤ (x88_3 : Int) := of_decide_eq_true (by first | (with_reducible assumption) | assumption)
                                have q211 : x88_3 < (t205.length : Int) := of_decide_eq_true (by first | (with_reducible assumption) | assumption)
                                obtain ⟨ad211, A211_1, c211_1, e211, hx211_0, hx211_1, hl211_1, hi211_1⟩ := at_T27 (Kd.S_reads' HO_9.out).2.2 x88_3 p211 q211
                                cases e211
                                obtain ⟨ce211, hce211, hMe211, hcc211⟩ := Kd.S_get HO_9.out z27 x88_3 p211 (by first | exact q211 | exact of_decide_eq_true (by first | (with_reducible assumption) | assumption) | (have e_ := (Kd.S_reads' HO_9.out).1; omega))
                                obtain ⟨ve211_1, rfl, ge211_1⟩ := k27_openM hMe211
                                have hv211_1 := hcc211 1 _ rfl
                                rw [add_field _ _ 1 (by omega)] at hv211_1
                                replace hv211_1 := Option.some.inj (hv211_1.symm.trans hx211_1)
                                rw [hv211_1] at ge211_1
                                have HL211_1 := Aside0.mk (show Kd.R (Kd.int .u8) 5 _ _ _ _ ((rd_T27 t205 x88_3).f1) from ge211_1)
                                clear hv211_1 ge211_1
                                clear hcc211 hce211
                                have HR211_1 := Aside0.mk hi211_1
                                have HC211_1 := Aside0.mk hl211_1
                                clear hi211_1 hl211_1
                                replace p211 := eq_true p211
                                replace q211 := eq_true q211
                                have p212 : 0 ≤ (x88_3 : Int) := of_decide_eq_true (by first | (with_reducible assumption) | assumption)
                                have q212 : x88_3 < (l0.length : Int) := of_decide_eq_true (by first | (with_reducible assumption) | assumption)
                                obtain ⟨ad212, A212_1, c212_1, e212, hx212_0, hx212_1, hl212_1, hi212_1⟩ := at_T27 HR0.out x88_3 p212 q212
                                have hw212_1 := hx212_1
                                have hw212_0 := hx212_0
                                cases e212
                                replace hx212_0 := (HB.out.cell (World.block_lt_of_cell? w _ hx212_0)).trans hx212_0
                                replace hx212_1 := (HB.out.cell (World.block_lt_of_cell? w _ hx212_1)).trans hx212_1
                                have HR212_1 := Aside0.mk hi212_1
                                have HC212_1 := Aside0.mk hl212_1
                                clear hi212_1 hl212_1
                                replace p212 := eq_true p212
                                replace q212 := eq_true q212
                                refine start_ (n := 10) (S := fun w' => w'.cell? (ad211.add ((x88_3).toNat * 2)) = some (.int .i64 ((rd_T27 t205 x88_3).f0)) ∧ w'.cell? ⟨(ad211.add ((x88_3).toNat * 2)).block, (ad211.add ((x88_3).toNat * 2)).off + 1, none⟩ = some (.slice A211_1 ((rd_T27 t205 x88_3).f1).length c211_1) ∧ w'.cell? (ad212.add ((x88_3).toNat * 2)) = some (.int .i64 ((rd_T27 l0 x88_3).f0)) ∧ w'.cell? ⟨(ad212.add ((x88_3).toNat * 2)).block, (ad212.add ((x88_3).toNat * 2)).off + 1, none⟩ = some (.slice A212_1 ((rd_T27 l0 x88_3).f1).length c212_1)) (ds := []) #[false, false, false, false, false, false, false, false, false, false] (by kernel_rfl) rfl rfl ⟨hx211_0, hx211_1, ((HB.out.cell (World.block_lt_of_cell? w _ hw212_0)).trans hw212_0), ((HB.out.cell (World.block_lt_of_cell? w _ hw212_1)).trans hw212_1)⟩ (fun hHeld => ?_); refine with_tabW mutoscopelaw04_RecBytes.tab22 mutoscopelaw04_RecBytes.bits22 (fun HT_ HW_ => ?_)
                                generalize wr.drew = w48 at HO_7 HO_9 HB HL211_1 HR211_1 HR212_1 hx211_0 hx211_1 hx212_0 hx212_1 hHeld ⊢
                                refine pure_ (i := 0) (N := some 91) (v := ?_) (a' := ?_) #[true, false, false, false, false, false, false, false, false, false] rfl rfl (any_of HT_.out (by kernel_rfl)) (fun _ _ _ h => h) (Or.inl ⟨by rfl, ?_⟩) ?_ ?_
                                rotate_left
                                · intro w'
                                  go_simp
                                  with_reducible rfl
                                rotate_left
                                · simp only [Act.put, List.setIfInBounds_toArray, List.set_cons_zero, List.set_cons_succ, i64_w, i32_w]
                                  rfl
                                refine pure_ (i := 1) (N := some 92) (v := ?_) (a' := ?_) #[true, true, false, false, false, false, false, false, false, false] rfl rfl (any_of HT_.out (by kernel_rfl)) (fun _ _ _ h => h) (Or.inl ⟨by rfl, ?_⟩) ?_ ?_
                                rotate_left
                                · intro w'
                                  go_simp
                                  with_reducible rfl
                                rotate_left
                                · simp only [Act.put, List.setIfInBounds_toArray, List.set_cons_zero, List.set_cons_succ, i64_w, i32_w]
                                  rfl
                                refine pure_ (i := 2) (N := some 93) (v := ?_) (a' := ?_) #[true, true, true, false, false, false, false, false, false, false] rfl rfl (any_of HT_.out (by kernel_rfl)) (fun _ _ _ h => h) (Or.inl ⟨by rfl, ?_⟩) ?_ ?_
                                rotate_left
                                · intro w'
                                  go_simp
                                  with_reducible rfl
                                rotate_left
                                · simp only [Act.put, List.setIfInBounds_toArray, List.set_cons_zero, List.set_cons_succ, i64_w, i32_w]
                                  rfl
                                refine pure_ (i := 4) (N := some 95) (v := ?_) (a' := ?_) #[true, true, true, false, true, false, false, false, false, false] rfl rfl (any_of HT_.out (by kernel_rfl)) (fun _ _ _ h => h) (Or.inl ⟨by rfl, ?_⟩) ?_ ?_
                                rotate_left
                                · intro w'
                                  go_simp
                                  with_reducible rfl
                                rotate_left
                                · simp only [Act.put, List.setIfInBounds_toArray, List.set_cons_zero, List.set_cons_succ, i64_w, i32_w]
                                  rfl
                                refine pure_ (i := 5) (N := some 96) (v := ?_) (a' := ?_) #[true, true, true, false, true, true, false, false, false, false] rfl rfl (any_of HT_.out (by kernel_rfl)) (fun _ _ _ h => h) (Or.inl ⟨by rfl, ?_⟩) ?_ ?_
                                rotate_left
                                · intro w'
                                  go_simp
                                  with_reducible rfl
                                rotate_left
                                · simp only [Act.put, List.setIfInBounds_toArray, List.set_cons_zero, List.set_cons_succ, i64_w, i32_w]
                                  rfl
                                refine pure_ (i := 6) (N := some 97) (v := ?_) (a' := ?_) #[true, true, true, false, true, true, true, false, false, false] rfl rfl (any_of HT_.out (by kernel_rfl)) (fun _ _ _ h => h) (Or.inl ⟨by rfl, ?_⟩) ?_ ?_
                                rotate_left
                                · intro w'
                                  go_simp
                                  with_reducible rfl
                                rotate_left
                                · simp only [Act.put, List.setIfInBounds_toArray, List.set_cons_zero, List.set_cons_succ, i64_w, i32_w]
                                  rfl
                                refine take_ (i := 3) (N := some 94) (v := ?_) (a' := ?_) #[true, true, true, true, true, true, true, false, false, false] rfl rfl (take_ofW HT_.out HW_.out (by kernel_rfl)) (fun _ _ _ h => h) (Or.inl ⟨by rfl, ?_⟩) hHeld ?_ ?_
                                rotate_left
                                · rintro w' ⟨s0, s1, s2, s3⟩
                                  go_simp
                                  with_reducible rfl
                                rotate_left
                                · simp only [Act.put, List.setIfInBounds_toArray, List.set_cons_zero, List.set_cons_succ, i64_w, i32_w]
                                  rfl
                                refine take_ (i := 7) (N := some 98) (v := ?_) (a' := ?_) #[true, true, true, true, true, true, true, true, false, false] rfl rfl (take_ofW HT_.out HW_.out (by kernel_rfl)) (fun _ _ _ h => h) (Or.inl ⟨by rfl, ?_⟩) hHeld ?_ ?_
                                rotate_left
                                · rintro w' ⟨s0, s1, s2, s3⟩
                                  go_simp
                                  with_reducible rfl
                                rotate_left
                                · simp only [Act.put, List.setIfInBounds_toArray, List.set_cons_zero, List.set_cons_succ, i64_w, i32_w]
                                  rfl
                                refine one_ (i := 8) (N := some 99) #[true, true, true, true, true, true, true, true, true, false] rfl rfl (one_of HT_.out (by kernel_rfl)) (by decide) (fun K hK => ?_)
                                refine goes_ Try.func22 (by kernel_rfl) rfl #[.agg #[.int .i64 ((rd_T27 t205 x88_3).f0), .slice A211_1 ((rd_T27 t205 x88_3).f1).length c211_1], .agg #[.int .i64 ((rd_T27 l0 x88_3).f0), .slice A212_1 ((rd_T27 l0 x88_3).f1).length c212_1]] (by rfl) rfl rfl (by (try simp only [List.map_toArray, List.map_cons, List.map_nil]); first | done | rfl | (simp only [List.length_drop, List.length_take]; rfl)) ?_
                                with_reducible refine (rec_Equal.calls ((rd_T27 t205 x88_3).f0) _ _ ((rd_T27 t205 x88_3).f1) ((rd_T27 l0 x88_3).f0) _ _ ((rd_T27 l0 x88_3).f1) true _ ?side1 ?side2 ?side3 ?side4 A45.out).mono ?_
                                (case side1 => repeat (first | exact (by repeat (first | (with_reducible exact HR211_1.out) | (with_reducible refine Kd.C_alloc ?_ _) | (with_reducible refine Kd.C_drewN ?_ _) | (with_reducible refine Kd.C_drew ?_) | exact HR211_1.out)) | (with_reducible refine Kd.C_alloc ?_ _) | (with_reducible refine Kd.C_drewN ?_ _) | (with_reducible refine Kd.C_drew ?_)))
                                (case side2 => exact HC211_1.out)
                                (case side3 => repeat (first | exact (Kd.C_below HR212_1.out HB.out) | (with_reducible refine Kd.C_alloc ?_ _) | (with_reducible refine Kd.C_drewN ?_ _) | (with_reducible refine Kd.C_drew ?_)))
                                (case side4 => exact HC212_1.out)
                                rintro e w50 ⟨rfl, hb⟩
                                have HS0_ := (hb.cell (World.block_lt_of_cell? _ _ (hHeld.1))).trans (hHeld.1)
                                have HS1_ := (hb.cell (World.block_lt_of_cell? _ _ (hHeld.2.1))).trans (hHeld.2.1)
                                refine ⟨_, rfl, ?_⟩
                                have n0_ := Aside0.mk (Kd.R_below (by (with_reducible repeat (first | apply Kd.R_alloc | apply Kd.R_drewN | apply Kd.R_drew)); exact HO_7.out) hb)
                                have n1_ := Aside0.mk (Kd.S_below (by (with_reducible repeat (first | apply Kd.S_alloc | apply Kd.S_drewN | apply Kd.S_drew)); exact HO_9.out) hb)
                                have n2_ := Aside0.mk (Kd.R_below (by (with_reducible repeat (first | apply Kd.R_alloc | apply Kd.R_drewN | apply Kd.R_drew)); exact HL211_1.out) hb)
                                have n3_ := Aside0.mk (Kd.C_below (by repeat (first | (with_reducible exact HR211_1.out) | (with_reducible refine Kd.C_alloc ?_ _) | (with_reducible refine Kd.C_drewN ?_ _) | (with_reducible refine Kd.C_drew ?_) | exact HR211_1.out)) hb)
                                have n4_ := Aside0.mk (below_step (by repeat (first | (with_reducible first | exact HB.out | apply below_alloc | apply pw_below_drewN | apply below_drew1) | exact HB.out)) hb)
                                clear HO_7
                                clear HO_9
                                clear HL211_1
                                clear HR211_1
                                clear HB
                                have HO_7 := n0_
                                have HO_9 := n1_
                                have HL211_1 := n2_
                                have HR211_1 := n3_
                                have HB := n4_
                                clear n0_ n1_ n2_ n3_ n4_
                                (try clear hb)
                                (try clear hb2)
                                (try clear hk)
                                (try clear hi)
                                refine hK.out _ _ ⟨HS0_, HS1_, ((HB.out.cell (World.block_lt_of_cell? w _ hw212_0)).trans hw212_0), ((HB.out.cell (World.block_lt_of_cell? w _ hw212_1)).trans hw212_1)⟩ (fun hHeld => ?_)
                                clear hK K
                                refine norm_ (a' := ?_) ?_ ?_
                                rotate_left
                                · show Act.put _ (some 99) _ = _
                                  simp only [Act.put, List.setIfInBounds_toArray, List.set_cons_zero, List.set_cons_succ, i64_w, i32_w]
                                  rfl
                                refine pure_ (i := 9) (N := some 100) (v := ?_) (a' := ?_) #[true, true, true, true, true, true, true, true, true, true] rfl rfl (any_of HT_.out (by kernel_rfl)) (fun _ _ _ h => h) (Or.inl ⟨by rfl, ?_⟩) ?_ ?_
                                rotate_left
                                · intro w'
                                  go_simp
                                  with_reducible rfl
                                rotate_left
                                · simp only [Act.put, List.setIfInBounds_toArray, List.set_cons_zero, List.set_cons_succ, i64_w, i32_w]
                                  rfl
                                refine done_ (done_of HT_.out (by kernel_rfl)) ?_
                                have p214 : 0 ≤ (x88_3 : Int) := of_decide_eq_true (by first | (with_reducible assumption) | assumption)
                                have q214 : x88_3 < (l0.length : Int) := of_decide_eq_true (by first | (with_reducible assumption) | assumption)
                                obtain ⟨ad214, A214_1, c214_1, e214, hx214_0, hx214_1, hl214_1, hi214_1⟩ := at_T27 HR0.out x88_3 p214 q214
                                obtain rfl : ad212 = ad214 := (by injection e214)
                                replace hx214_0 := (HB.out.cell (World.block_lt_of_cell? w _ hx214_0)).trans hx214_0
                                replace hx214_1 := (HB.out.cell (World.block_lt_of_cell? w _ hx214_1)).trans hx214_1
                                have HR214_1 := Aside0.mk hi214_1
                                have HC214_1 := Aside0.mk hl214_1
                                clear hi214_1 hl214_1
                                replace p214 := eq_true p214
                                replace q214 := eq_true q214
                                try go_wp2_with (first | ((with_reducible refine gate_callee (f := 23) rfl ?_); refine goesL_ (some 108) rfl rfl Try.func23 (by kernel_rfl) rfl #[.int .i64 (((rd_T27 l0 x88_3).f1).length : Int)] rfl (by (try simp only [List.map_toArray, List.map_cons, List.map_nil]); first | done | rfl | (simp only [List.length_drop, List.length_take]; rfl)) ?_; (with_reducible refine (rec_Size.calls (((rd_T27 l0 x88_3).f1).length : Int) t215 _ A47.out).mono ?_); rintro e w' ⟨rfl, ⟨nd, rfl⟩⟩; refine ⟨_, rfl, ?_⟩))
                                go_roundg k3
                                case measure => have := HK1.out; have := HJ26.out; have := HK3.out; omega
                                case rel => exact ⟨(wrap64 (x12_3 + t215)), (wrap64 (x88_3 + 1)), (by first | rfl | (simp; done) | (simp [*]; done)), (by first | rfl | (simp; done) | (simp [*]; done)), H', ⟨by have := HK1.out; have := HJ26.out; have := HK3.out; omega⟩, ⟨by (with_reducible repeat (first | apply Kd.R_alloc | apply Kd.R_drewN | apply Kd.R_drew)); exact HO_7.out⟩, ⟨by (with_reducible repeat (first | apply Kd.S_alloc | apply Kd.S_drewN | apply Kd.S_drew)); exact HO_9.out⟩, ⟨by repeat (first | (with_reducible first | exact HB.out | apply below_alloc | apply pw_below_drewN | apply below_drew1) | exact HB.out)⟩⟩
                              · replace c46 := Bool.eq_false_iff.mpr c46
                                subst c46
                                have H1 : (some false) = some r := by rw [if_neg (show ¬ (false = true) by decide)] at H; exact H
                                clear H
                                have H := H1
                                clear H1
                                exact absurd (Option.some.inj H) (by rw [HR.out]; decide)
                            · rw [if_neg c44] at H
                              exact absurd H (by simp)
                          · rw [if_neg c43] at H
                            exact absurd H (by simp)
                        · rw [if_neg c42] at H
                          exact absurd H (by simp)
                      · rw [if_neg c41] at H
                        have c41b0 : decide (x88_3 < (l0.length : Int)) = false := decide_eq_false c41
                        clear c41
                        by_cases c54 : x12_3 = (t200.length : Int)
                        · rw [if_pos c54] at H
                          have c54b0 : (x12_3 == (t200.length : Int)) = true := beq_iff_eq.mpr c54
                          have c54b1 : (x12_3 != (t200.length : Int)) = false := bne_eq_false_iff_eq.mpr c54
                          clear c54
                          replace H := Option.bind_eq_some_iff.mp H
                          obtain ⟨t210, A550, H⟩ := H
                          replace H : (some t210) = some r := H
                          have A55 := Aside0.mk A550
                          clear A550
                          obtain rfl := Option.some.inj H
                          go_wp2_with (first | (go_at_call 16; (with_reducible refine (mutoscopelaw04_awake.calls k3  t210 _ A55.out).mono ?_); rintro e w56 ⟨rfl, hb⟩; have n0_ := Aside0.mk (Kd.R_below (by (with_reducible repeat (first | apply Kd.R_alloc | apply Kd.R_drewN | apply Kd.R_drew)); exact HO_7.out) hb); have n1_ := Aside0.mk (Kd.S_below (by (with_reducible repeat (first | apply Kd.S_alloc | apply Kd.S_drewN | apply Kd.S_drew)); exact HO_9.out) hb); have n2_ := Aside0.mk (below_step (by repeat (first | (with_reducible first | exact HB.out | apply below_alloc | apply pw_below_drewN | apply below_drew1) | exact HB.out)) hb); clear HO_7; clear HO_9; clear HB; have HO_7 := n0_; have HO_9 := n1_; have HB := n2_; clear n0_ n1_ n2_; (try clear hb); (try clear hb2); (try clear hk); (try clear hi)))
                          go_ret
                          exact ⟨by first | rfl | (simp [errW_none, errW_some] <;> rfl) | (simp [*, errW_none, errW_some] <;> rfl), by repeat (first | (with_reducible first | exact HB.out | apply below_alloc | apply pw_below_drewN | apply below_drew1) | exact HB.out)⟩
                        · rw [if_neg c54] at H
                          have c54b0 : (x12_3 == (t200.length : Int)) = false := beq_eq_false_iff_ne.mpr c54
                          have c54b1 : (x12_3 != (t200.length : Int)) = true := bne_iff_ne.mpr c54
                          exact absurd (Option.some.inj H) (by rw [HR.out]; decide)
          · rw [if_neg c25] at H
            have c25b0 : (x4_1 == 0) = false := beq_eq_false_iff_ne.mpr c25
            have c25b1 : (x4_1 != 0) = true := bne_iff_ne.mpr c25
            by_cases c57 : t201 = x4_1
            · rw [if_pos c57] at H
              have c57b0 : (t201 == x4_1) = true := beq_iff_eq.mpr c57
              have c57b1 : (t201 != x4_1) = false := bne_eq_false_iff_eq.mpr c57
              clear c57
              by_cases c58 : (t200.length : Int) = 0
              · rw [if_pos c58] at H
                have c58b0 : ((t200.length : Int) == 0) = true := beq_iff_eq.mpr c58
                have c58b1 : ((t200.length : Int) != 0) = false := bne_eq_false_iff_eq.mpr c58
                clear c58
                replace H := Option.bind_eq_some_iff.mp H
                obtain ⟨t204, A590, H⟩ := H
                replace H : (some t204) = some r := H
                have A59 := Aside0.mk A590
                clear A590
                obtain rfl := Option.some.inj H
                go_wp2_with (first | ((with_reducible refine gate_callee (f := 20) rfl ?_); refine goesL_ (some 39) rfl rfl Try.func20 (by kernel_rfl) rfl #[.slice A0 l0.length c0] rfl (by (try simp only [List.map_toArray, List.map_cons, List.map_nil]); first | done | rfl | (simp only [List.length_drop, List.length_take]; rfl)) ?_; (with_reducible refine (rec_Bytes.calls k1 _ _ l0 t200 t201 _ ?side1 ?side2 A24.out).mono ?_); (case side1 => repeat (first | exact (Kd.C_below HR0.out HB.out) | (with_reducible refine Kd.C_alloc ?_ _) | (with_reducible refine Kd.C_drewN ?_ _) | (with_reducible refine Kd.C_drew ?_))); (case side2 => exact HC0.out); rintro e w60 ⟨v202, rfl, ho0, hb⟩; refine ⟨_, rfl, ?_⟩; have n0_ := Aside0.mk (Kd.R_lower ho0 (below_size (by repeat (first | (with_reducible first | exact HB.out | apply below_alloc | apply pw_below_drewN | apply below_drew1) | exact HB.out)))); have n1_ := Aside0.mk (below_step (by repeat (first | (with_reducible first | exact HB.out | apply below_alloc | apply pw_below_drewN | apply below_drew1) | exact HB.out)) hb); clear HB; have HO203 := n0_; have HB := n1_; clear n0_ n1_; (try clear hb); (try clear hb2); (try clear hk); (try clear hi); (try clear ho0); obtain ⟨Ao61, co61, eo61⟩ := Kd.R_slice HO203.out; subst eo61) | (go_at_call 16; (with_reducible refine (mutoscopelaw04_awake.calls k1  t204 _ A59.out).mono ?_); rintro e w62 ⟨rfl, hb⟩; have n0_ := Aside0.mk (Kd.R_below (by (with_reducible repeat (first | apply Kd.R_alloc | apply Kd.R_drewN | apply Kd.R_drew)); exact HO203.out) hb); have n1_ := Aside0.mk (below_step (by repeat (first | (with_reducible first | exact HB.out | apply below_alloc | apply pw_below_drewN | apply below_drew1) | exact HB.out)) hb); clear HO203; clear HB; have HO203 := n0_; have HB := n1_; clear n0_ n1_; (try clear hb); (try clear hb2); (try clear hk); (try clear hi)))
                go_ret
                exact ⟨by first | rfl | (simp [errW_none, errW_some] <;> rfl) | (simp [*, errW_none, errW_some] <;> rfl), by repeat (first | (with_reducible first | exact HB.out | apply below_alloc | apply pw_below_drewN | apply below_drew1) | exact HB.out)⟩
              · rw [if_neg c58] at H
                have c58b0 : ((t200.length : Int) == 0) = false := beq_eq_false_iff_ne.mpr c58
                have c58b1 : ((t200.length : Int) != 0) = true := bne_iff_ne.mpr c58
                have c58b2 : ¬ (t200 = []) := fun h_ => c58 (by rw [h_]; rfl)
                exact absurd (Option.some.inj H) (by rw [HR.out]; decide)
            · rw [if_neg c57] at H
              have c57b0 : (t201 == x4_1) = false := beq_eq_false_iff_ne.mpr c57
              have c57b1 : (t201 != x4_1) = true := bne_iff_ne.mpr c57
              exact absurd (Option.some.inj H) (by rw [HR.out]; decide)
  · replace c3 := Bool.eq_false_iff.mpr c3
    subst c3
    have H1 : ((mutoscopelaw04_awake.f k).bind fun t191 => (some t191)) = some r := by rw [if_neg (show ¬ (false = true) by decide)] at H; exact H
    clear H
    have H := H1
    clear H1
    replace H := Option.bind_eq_some_iff.mp H
    obtain ⟨t191, A660, H⟩ := H
    replace H : (some t191) = some r := H
    have A66 := Aside0.mk A660
    clear A660
    obtain rfl := Option.some.inj H
    go_enter Try.func3, Try.ntmps3
    go_wp2_with (first | ((with_reducible refine gate_callee (f := 15) rfl ?_); refine goesL_ (some 15) rfl rfl Try.func15 (by kernel_rfl) rfl #[.slice A0 l0.length c0] rfl (by (try simp only [List.map_toArray, List.map_cons, List.map_nil]); first | done | rfl | (simp only [List.length_drop, List.length_take]; rfl)) ?_; (with_reducible refine (mutoscopelaw04_small.calls k _ _ l0 false _ ?side1 ?side2 A2.out).mono ?_); (case side1 => repeat (first | exact HR0.out | (with_reducible refine Kd.C_alloc ?_ _) | (with_reducible refine Kd.C_drewN ?_ _) | (with_reducible refine Kd.C_drew ?_))); (case side2 => exact HC0.out); rintro e w67 ⟨rfl, hb⟩; refine ⟨_, rfl, ?_⟩; have n0_ := Aside0.mk (below_step (by repeat (first | (with_reducible first | exact HB.out | apply below_alloc | apply pw_below_drewN | apply below_drew1) | exact HB.out)) hb); clear HB; have HB := n0_; clear n0_; (try clear hb); (try clear hb2); (try clear hk); (try clear hi)) | ((with_reducible refine gate_callee (f := 16) rfl ?_); refine goesL_ (some 17) rfl rfl Try.func16 (by kernel_rfl) rfl #[] rfl (by (try simp only [List.map_toArray, List.map_cons, List.map_nil]); first | done | rfl | (simp only [List.length_drop, List.length_take]; rfl)) ?_; (with_reducible refine (mutoscopelaw04_awake.calls k  t191 _ A66.out).mono ?_); rintro e w68 ⟨rfl, hb⟩; refine ⟨_, rfl, ?_⟩; have n0_ := Aside0.mk (below_step (by repeat (first | (with_reducible first | exact HB.out | apply below_alloc | apply pw_below_drewN | apply below_drew1) | exact HB.out)) hb); clear HB; have HB := n0_; clear n0_; (try clear hb); (try clear hb2); (try clear hk); (try clear hi)))
    go_ret
    exact ⟨by first | rfl | (simp [errW_none, errW_some] <;> rfl) | (simp [*, errW_none, errW_some] <;> rfl), by repeat (first | (with_reducible first | exact HB.out | apply below_alloc | apply pw_below_drewN | apply below_drew1) | exact HB.out)⟩


end Go.Proofs.Ytcpakbppnkknlaa.QRecBytes
