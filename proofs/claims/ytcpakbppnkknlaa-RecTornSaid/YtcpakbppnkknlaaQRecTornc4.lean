-- Written for this claim by a program of this session (wip/tools/mprint.sh, asm.py), and by hand
import Derived.Test.YtcpakbppnkknlaaQRecTornc3
import Derived.Lib.SlBytesConst
namespace Go.Proofs.Ytcpakbppnkknlaa.QRecTorn
open Go.RowKit Go.Proofs.YtcpakbppnkknlaaW.PrintWords Go.Proofs.YtcpakbppnkknlaaW.PrintLast Go.Proofs.YtcpakbppnkknlaaW.PrintMore
attribute [local go_sem] max2_int min2_int max_two min_two max_three min_three max_four min_four   -- for this text's walks alone
set_option linter.unusedVariables false
set_option linter.unusedSimpArgs false



/-! ### rec_All: function 21 -/
def rec_All.l0 : Nat → List Int → List (S27) → Int → Option ((List (S27)) × Int × Int)
  | 0, _, _, _ => none
  | k + 1, x0, x2, x3 => if x3 < (x0.length : Int) then (if 0 ≤ x3 then (if x3 ≤ (x0.length : Int) then ((rec_Next.f k (x0.drop (x3 : Int).toNat)).bind fun bt165 => (if bt165.2.2.2 = 0 then (if x2.length < 4398046511104 then (rec_All.l0 k x0 (x2 ++ [(⟨bt165.1, bt165.2.1⟩ : S27)]) (wrap64 (x3 + bt165.2.2.1))) else (none)) else (some (x2, x3, bt165.2.2.2)))) else (none)) else (none)) else (some (x2, x3, 0))
def rec_All.f (k : Nat) (l0 : List Int) : Option ((List (S27)) × Int × Int) := rec_All.l0 k l0 ([] : List (S27)) 0
theorem rec_All.mono_l : ∀ k, (∀ y0 y1 y2, LeO (rec_All.l0 k y0 y1 y2) (rec_All.l0 (k + 1) y0 y1 y2))
  | 0 => fun _ _ _ r h => by simp [rec_All.l0] at h
  | k + 1 => by
    have ih0 := rec_All.mono_l k
    · intro y0 y1 y2
      unfold rec_All.l0
      repeat' first
      | (with_reducible exact ih0 _ _ _)
      | (with_reducible exact rec_Next.mono _ _)
      | (with_reducible exact LeO.refl _)
      | (with_reducible exact LeO.none _)
      | (with_reducible refine LeO.ite ?_ ?_)
      | (with_reducible refine LeO.bind ?_ (fun _ => ?_))
      | exact ih0 _ _ _
      | exact rec_Next.mono _ _
      | exact LeO.none _
      | refine LeO.ite ?_ ?_
      | refine LeO.bind ?_ (fun _ => ?_)
theorem rec_All.mono : ∀ a0 k, LeO (rec_All.f k a0) (rec_All.f (k + 1) a0) := by
  intro a0 k
  have ih0 := rec_All.mono_l k
  unfold rec_All.f
  repeat' first
      | (with_reducible exact ih0 _ _ _)
      | (with_reducible exact rec_Next.mono _ _)
      | (with_reducible exact LeO.refl _)
      | (with_reducible exact LeO.none _)
      | (with_reducible refine LeO.ite ?_ ?_)
      | (with_reducible refine LeO.bind ?_ (fun _ => ?_))
      | exact ih0 _ _ _
      | exact rec_Next.mono _ _
      | exact LeO.none _
      | refine LeO.ite ?_ ?_
      | refine LeO.bind ?_ (fun _ => ?_)
set_option maxHeartbeats 8000000 in
set_option maxRecDepth 100000 in
theorem rec_All.calls (k : Nat) (A0 : Option Addr) (c0 : Nat) (l0 : List Int) (r1 : List (S27)) (r2 : Int) (r3 : Int) (w : World) (hr0 : Kd.C (Kd.int .u8) w A0 l0.length l0) (hc0 : l0.length ≤ c0) (h : rec_All.f k l0 = some (r1, r2, r3)) :
    Calls Try.prog 21 #[.slice A0 l0.length c0] w fun e w' => ∃ v0_ : Value, e = .returned (.tuple #[v0_, .int .i64 r2, .int .i64 r3]) ∧ Kd.S k27 27 w' w.heap.size (fun _ => True) v0_ r1 ∧ Below w.heap.size w w' := by
  have hu27 := Try.underlying27
  have HR0 := Aside0.mk hr0
  have HC0 := Aside0.mk hc0
  clear hr0 hc0
  have HB := Aside0.mk (Below.refl w.heap.size w)
  have H : (rec_All.l0 k l0 ([] : List (S27)) 0) = some (r1, r2, r3) := h
  clear h
  have H' := Aside0.mk H
  clear H
  go_enter Try.func21, Try.ntmps21
  go_wp2
  go_loopg [2, 3] k (fun kq v2 v3 w' => ∃ (x2_1 : List (S27)) (x3_1 : Int), v3 = .int .i64 x3_1 ∧ Aside0 (rec_All.l0 kq l0 x2_1 x3_1 = some (r1, r2, r3)) ∧ Aside0 (kq ≤ k) ∧ Aside0 (Kd.S k27 27 w' w.heap.size (fun _ => True) v2 x2_1) ∧ Aside0 (Below w.heap.size w w'))
  case atStart => exact ⟨(([] : List (S27))), (0), (by first | rfl | (simp; done) | (simp [*]; done)), H', ⟨Nat.le_refl _⟩, ⟨by first | exact Kd.S_nil _ _ _ _ _ | exact Kd.N_nil _ _ _ _ _ | exact Kd.V_nil _ _ _ _ _ | exact Kd.Q_nil _ _ _ _ _ | exact Kd.R_nil _ _ _ _ _⟩, ⟨by repeat (first | (with_reducible first | exact HB.out | apply below_alloc | apply pw_below_drewN | apply below_drew1) | exact HB.out)⟩⟩
  case round =>
    clear H'
    obtain ⟨x2_1, x3_1, rfl, HA, HK1, HO_2, HB⟩ := hrel
    cases gk with
    | zero => exact absurd HA.out (by simp [rec_All.l0])
    | succ k1 =>
      have H := HA.out
      clear HA
      simp only [rec_All.l0] at H
      by_cases c2 : x3_1 < (l0.length : Int)
      · rw [if_pos c2] at H
        have c2b0 : decide (x3_1 < (l0.length : Int)) = true := decide_eq_true c2
        clear c2
        by_cases c3 : 0 ≤ x3_1
        · rw [if_pos c3] at H
          have c3b0 := eq_true c3
          have c3b1 : decide (0 ≤ x3_1) = true := decide_eq_true c3
          clear c3
          by_cases c4 : x3_1 ≤ (l0.length : Int)
          · rw [if_pos c4] at H
            have c4b0 := eq_true c4
            have c4b1 : decide (x3_1 ≤ (l0.length : Int)) = true := decide_eq_true c4
            clear c4
            replace H := Option.bind_eq_some_iff.mp H
            obtain ⟨⟨t165, t166, t169, t170⟩, A50, H⟩ := H
            replace H : (if t170 = 0 then (if x2_1.length < 4398046511104 then (rec_All.l0 k1 l0 (x2_1 ++ [(⟨t165, t166⟩ : S27)]) (wrap64 (x3_1 + t169))) else (none)) else (some (x2_1, x3_1, t170))) = some (r1, r2, r3) := H
            have A5 := Aside0.mk A50
            clear A50
            by_cases c6 : t170 = 0
            · rw [if_pos c6] at H
              have c6b0 : (t170 == 0) = true := beq_iff_eq.mpr c6
              have c6b1 : (t170 != 0) = false := bne_eq_false_iff_eq.mpr c6
              clear c6
              by_cases c7 : x2_1.length < 4398046511104
              · rw [if_pos c7] at H
                have LMc7 := Aside0.mk c7
                clear c7
                obtain ⟨y172, hy172⟩ : ∃ y_ : List (S27), y_ = (x2_1 ++ [(⟨t165, t166⟩ : S27)]) := ⟨_, rfl⟩
                replace H : (rec_All.l0 k1 l0 y172 (wrap64 (x3_1 + t169))) = some (r1, r2, r3) := by first | (rw [hy172]; with_reducible exact H) | (have H2_ := (Option.bind_some _ _).symm.trans H; rw [hy172]; with_reducible exact H2_) | (have H2_ := (Option.bind_some _ _).symm.trans H; with_reducible exact H2_) | with_reducible exact H | (rw [hy172]; exact H) | exact H
                have Ny172 := Aside0.mk hy172
                clear hy172
                have H' := Aside0.mk H
                clear H
                obtain ⟨i08, hi08, _, hsz8, _⟩ := info_parts info5
                obtain ⟨A8, hcut8, hA8, hC8⟩ := print_drop_of (P := Try.prog) (Value.int .u8) 0 25 5 .i64 Try.underlying25 hi08 hsz8 A0 c0 l0 x3_1 (of_decide_eq_true (by first | (with_reducible assumption) | assumption)) (of_decide_eq_true (by first | (with_reducible assumption) | assumption)) HC0.out
                have HR164 := Aside0.mk (Kd.C_of_reads (h1 := fun _ => rfl) (hA8 _ (Kd.reads_of_C HR0.out)))
                have HC164 := Aside0.mk hC8
                clear hA8 hC8 hi08 hsz8
                go_wp2_with (first | ((with_reducible refine gate_callee (f := 24) rfl ?_); refine goesL_ (some 16) rfl rfl Try.func24 (by kernel_rfl) rfl #[.slice A8 (l0.drop (x3_1 : Int).toNat).length (c0 - x3_1.toNat)] rfl (by (try simp only [List.map_toArray, List.map_cons, List.map_nil]); first | done | (rw [show (l0.drop (x3_1 : Int).toNat).length = (l0.length - x3_1.toNat) from List.length_drop] <;> rfl) | rfl | (simp only [List.length_drop, List.length_take]; rfl)) ?_; (with_reducible refine (rec_Next.calls k1 _ _ (l0.drop (x3_1 : Int).toNat) t165 t166 t169 t170 _ ?side1 ?side2 A5.out).mono ?_); (case side1 => repeat (first | exact (Kd.C_below HR164.out HB.out) | (with_reducible refine Kd.C_alloc ?_ _) | (with_reducible refine Kd.C_drewN ?_ _) | (with_reducible refine Kd.C_drew ?_))); (case side2 => exact HC164.out); rintro e w9 ⟨v167, rfl, ho0, hb⟩; refine ⟨_, rfl, ?_⟩; have n0_ := Aside0.mk (Kd.S_elder' (by (with_reducible repeat (first | apply Kd.S_alloc | apply Kd.S_drewN | apply Kd.S_drew)); exact HO_2.out) (Kd.R_base ho0) hb); have n1_ := Aside0.mk (Kd.R_lower ho0 (below_size (by repeat (first | (with_reducible first | exact HB.out | apply below_alloc | apply pw_below_drewN | apply below_drew1) | exact HB.out)))); have n2_ := Aside0.mk (below_step (by repeat (first | (with_reducible first | exact HB.out | apply below_alloc | apply pw_below_drewN | apply below_drew1) | exact HB.out)) hb); clear HO_2; clear HB; have HO_2 := n0_; have HO168 := n1_; have HB := n2_; clear n0_ n1_ n2_; (try clear hb); (try clear hb2); (try clear hk); (try clear hi); (try clear ho0)) | ((with_reducible refine gate_dst (N := 5) rfl ?_); refine box_event ?hg (N := 5) ?hd (cs := #[.int .i64 0, .slice none 0 0]) (t := 27) ?hr ?_; (case hd => rfl); (case hg => rfl); (case hr => first | (go_simp; done) | (go_simp; rfl)); intro gb171 hg w10 hbox hb; have n0_ := Aside0.mk (Kd.S_below (Kd.S_elderB (by (with_reducible repeat (first | apply Kd.S_alloc | apply Kd.S_drewN | apply Kd.S_drew)); exact HO_2.out) gb171 (Nat.le_of_eq hg.symm)) hb); have n1_ := Aside0.mk (Kd.R_below (by (with_reducible repeat (first | apply Kd.R_alloc | apply Kd.R_drewN | apply Kd.R_drew)); exact HO168.out) hb); have n2_ := Aside0.mk (below_step (by repeat (first | (with_reducible first | exact HB.out | apply below_alloc | apply pw_below_drewN | apply below_drew1) | exact HB.out)) hb); have n3_ := Aside0.mk (hbox); have n4_ := Aside0.mk ((by rw [hg]; exact (below_size (by repeat (first | (with_reducible first | exact HB.out | apply below_alloc | apply pw_below_drewN | apply below_drew1) | exact HB.out))) : w.heap.size ≤ gb171)); have n5_ := Aside0.mk ((by rw [hg]; exact (below_size (by repeat (first | (with_reducible first | exact HB.out | apply below_alloc | apply pw_below_drewN | apply below_drew1) | exact HB.out))) : w.heap.size ≤ gb171)); clear HO_2; clear HO168; clear HB; have HO_2 := n0_; have HO168 := n1_; have HB := n2_; have BK171 := n3_; have GW171 := n4_; have GE171 := n5_; clear n0_ n1_ n2_ n3_ n4_ n5_; clear hb hbox hg; have hcz11_0 : w10.cell? ⟨gb171, 0, none⟩ = some (.int .i64 0) := (blk_cell BK171.out 0).trans rfl; have hcz11_1 : w10.cell? ⟨gb171, 1, none⟩ = some (.slice none 0 0) := (blk_cell BK171.out 1).trans rfl; have hfz11_0 := blk_frozen BK171.out 0; have hfz11_1 := blk_frozen BK171.out 1; obtain ⟨Ao12, co12, eo12⟩ := Kd.R_slice HO168.out; subst eo12) | ((with_reducible refine gate_store (t := 27) (p := 5) rfl ?_); refine store_event (t := 27) (p := 5) (v := ?vo_w13) (w1 := ((w10.setCell ⟨gb171, 0, none⟩ (.int .i64 t165)).setCell ⟨gb171, 1, none⟩ (.slice Ao12 t166.length co12))) ?hg ?ho ?hn ?hr ?_; (case ho => rfl); (case hg => rfl); (case hn => rfl); (case hr => first | (go_simp; done) | (go_simp; rfl)); intro w13 hw; have n0_ : Aside0 (Kd.S k27 27 w13 w.heap.size (fun k_ => some k_ ≠ (.slice Ao12 t166.length co12 : Value).ownBlock ∧ k_ ≠ gb171) u2 x2_1) := ⟨(by rw [hw]; exact (by (with_reducible repeat (first | apply Kd.S_alloc | apply Kd.S_drewN | apply Kd.S_drew)); exact Kd.S_mono (Kd.S_far (p := ⟨gb171, 1, none⟩) (Kd.S_far (p := ⟨gb171, 0, none⟩) (Kd.S_mono HO_2.out (fun k_ hk => (⟨hk, hk.2⟩ : _ ∧ k_ ≠ gb171))) (fun _ hk => hk.2) (.int .i64 t165)) (fun _ hk => hk.2) (.slice Ao12 t166.length co12)) (fun _ hk => ⟨hk.1.1.2, hk.1.2⟩)))⟩; have n1_ : Aside0 (Kd.R (Kd.int .u8) 5 w13 w.heap.size (fun _ => True) (.slice Ao12 t166.length co12) t166) := ⟨(by rw [hw]; exact (by (with_reducible repeat (first | apply Kd.R_alloc | apply Kd.R_drewN | apply Kd.R_drew)); exact Kd.R_mono (Kd.R_far (p := ⟨gb171, 1, none⟩) (Kd.R_far (p := ⟨gb171, 0, none⟩) (Kd.R_types HO168.out BK171.out (by decide)) (fun _ hk => hk.2) (.int .i64 t165)) (fun _ hk => hk.2) (.slice Ao12 t166.length co12)) (fun _ hk => trivial)))⟩; have n2_ : Aside0 (w13.heap[gb171]? = some (.cells #[.int .i64 t165, .slice Ao12 t166.length co12] 27 (0, 0))) := ⟨(by rw [hw]; exact (by (with_reducible repeat (first | refine blk_drewN ?_ _ | refine blk_drew ?_ | refine blk_alloc ?_ _)); refine blk_put (cs := #[.int .i64 t165, .slice none 0 0]) ?_ 1 _ rfl; (with_reducible repeat (first | refine blk_drewN ?_ _ | refine blk_drew ?_ | refine blk_alloc ?_ _)); refine blk_put (cs := #[.int .i64 0, .slice none 0 0]) ?_ 0 _ rfl; (with_reducible repeat (first | refine blk_drewN ?_ _ | refine blk_drew ?_ | refine blk_alloc ?_ _)); exact BK171.out))⟩; have n3_ : Aside0 (Below w.heap.size w w13) := ⟨(by rw [hw]; exact (by repeat (first | (with_reducible first | exact HB.out | apply below_alloc | apply pw_below_drewN | apply below_drew1 | refine below_set ?_ GE171.out) | exact HB.out)))⟩; clear hw; clear HO_2; clear HO168; clear BK171; clear HB; have HO_2 := n0_; have HO168 := n1_; have BK171 := n2_; have HB := n3_; clear n0_ n1_ n2_ n3_; have hcz14_0 : w13.cell? ⟨gb171, 0, none⟩ = some (.int .i64 t165) := (blk_cell BK171.out 0).trans rfl; have hcz14_1 : w13.cell? ⟨gb171, 1, none⟩ = some (.slice Ao12 t166.length co12) := (blk_cell BK171.out 1).trans rfl; have hfz14_0 := blk_frozen BK171.out 0; have hfz14_1 := blk_frozen BK171.out 1) | ((with_reducible refine gate_builtin (b := .append) (xs := #[.tmp 25, .tmp 27]) rfl ?_); at_builtin; refine Kd.S_append k27 (w0 := w) w.heap.size rfl (.tmp 25) (.tmp 27) 22 27 (.agg #[(.int .i64 0), (.slice none 0 0)]) 32 rfl Try.underlying22 info27 rfl (by decide) (by omega) u2 x2_1 (⟨t165, t166⟩ : S27) [.int .i64 t165, .slice Ao12 t166.length co12] (fun k_ => k_ ≠ gb171) (fun k_ => some k_ = (.slice Ao12 t166.length co12 : Value).ownBlock) rfl rfl ?aP (fun k_ hk_ => ((Kd.R_mono (ok' := fun k_ => ((fun k_ => k_ ≠ gb171)) k_ ∧ some k_ ≠ (u2 : Value).ownBlock) (Kd.R_types (Kd.R_apart' (HO168.out) (Kd.S_typed HO_2.out) (by decide)) BK171.out (by decide)) (fun k_ hk => ⟨hk.2, hk.1.2⟩))).1 k_ hk_.symm) ?aF ?aO ?aB ?aS ?aL ?_; (case aP => exact k27_mkM _ _ _ (⟨t165, t166⟩ : S27) (Kd.R_mono (Kd.R_tight rfl (Kd.R_mono (ok' := fun k_ => ((fun k_ => k_ ≠ gb171)) k_ ∧ some k_ ≠ (u2 : Value).ownBlock) (Kd.R_types (Kd.R_apart' (HO168.out) (Kd.S_typed HO_2.out) (by decide)) BK171.out (by decide)) (fun k_ hk => ⟨hk.2, hk.1.2⟩))) (fun _ h_ => h_))); (case aB => exact (by repeat (first | (with_reducible first | exact HB.out | apply below_alloc | apply pw_below_drewN | apply below_drew1 | refine below_set ?_ GE171.out) | exact HB.out))); (case aF => exact (fun k_ hk => Kd.freshB (g := gb171) (o := .cells #[.int .i64 t165, .slice Ao12 t166.length co12] 27 (0, 0)) (by (with_reducible repeat (first | refine blk_drewN ?_ _ | refine blk_drew ?_ | refine blk_alloc ?_ _)); exact BK171.out) k_ hk)); (case aO => exact (by (with_reducible repeat (first | apply Kd.S_alloc | apply Kd.S_drewN | apply Kd.S_drew)); exact Kd.S_mono HO_2.out (fun k_ hk => ⟨hk.2, fun e_ => hk.1 e_⟩))); (case aS => exact (below_size (by repeat (first | (with_reducible first | exact HB.out | apply below_alloc | apply pw_below_drewN | apply below_drew1 | refine below_set ?_ GE171.out) | exact HB.out)))); (case aL => have := LMc7.out; omega); intro v173 w15 ho hb hg hat; rw [← Ny172.out] at ho; have n0_ := Aside0.mk (blk_grown (g := gb171) (o := .cells #[.int .i64 t165, .slice Ao12 t166.length co12] 27 (0, 0)) (by (with_reducible repeat (first | refine blk_drewN ?_ _ | refine blk_drew ?_ | refine blk_alloc ?_ _)); exact BK171.out) hg (Kd.S_away HO_2.out (fun _ hk => hk.2))); have n1_ := Aside0.mk (hb); have n2_ := Aside0.mk (ho); clear BK171; clear HB; clear HO_2; clear HO168; have BK171 := n0_; have HB := n1_; have HO174 := n2_; clear n0_ n1_ n2_; clear ho hb hg hat))
                go_roundg k1
                case measure => have := HK1.out; omega
                case rel => exact ⟨(y172), (wrap64 (x3_1 + t169)), (by first | rfl | (simp; done) | (simp [*]; done)), H', ⟨by have := HK1.out; omega⟩, ⟨by (with_reducible repeat (first | apply Kd.S_alloc | apply Kd.S_drewN | apply Kd.S_drew)); exact Kd.S_mono HO174.out (fun _ hk => trivial)⟩, ⟨by repeat (first | (with_reducible first | exact HB.out | apply below_alloc | apply pw_below_drewN | apply below_drew1 | refine below_set ?_ GE171.out) | exact HB.out)⟩⟩
              · rw [if_neg c7] at H
                exact absurd H (by simp)
            · rw [if_neg c6] at H
              have c6b0 : (t170 == 0) = false := beq_eq_false_iff_ne.mpr c6
              have c6b1 : (t170 != 0) = true := bne_iff_ne.mpr c6
              simp only [Option.some.injEq, Prod.mk.injEq] at H
              obtain ⟨rfl, rfl, rfl⟩ := H
              obtain ⟨i016, hi016, _, hsz16, _⟩ := info_parts info5
              obtain ⟨A16, hcut16, hA16, hC16⟩ := print_drop_of (P := Try.prog) (Value.int .u8) 0 25 5 .i64 Try.underlying25 hi016 hsz16 A0 c0 l0 x3_1 (of_decide_eq_true (by first | (with_reducible assumption) | assumption)) (of_decide_eq_true (by first | (with_reducible assumption) | assumption)) HC0.out
              have HR164 := Aside0.mk (Kd.C_of_reads (h1 := fun _ => rfl) (hA16 _ (Kd.reads_of_C HR0.out)))
              have HC164 := Aside0.mk hC16
              clear hA16 hC16 hi016 hsz16
              go_wp2_with (first | ((with_reducible refine gate_callee (f := 24) rfl ?_); refine goesL_ (some 16) rfl rfl Try.func24 (by kernel_rfl) rfl #[.slice A16 (l0.drop (x3_1 : Int).toNat).length (c0 - x3_1.toNat)] rfl (by (try simp only [List.map_toArray, List.map_cons, List.map_nil]); first | done | (rw [show (l0.drop (x3_1 : Int).toNat).length = (l0.length - x3_1.toNat) from List.length_drop] <;> rfl) | rfl | (simp only [List.length_drop, List.length_take]; rfl)) ?_; (with_reducible refine (rec_Next.calls k1 _ _ (l0.drop (x3_1 : Int).toNat) t165 t166 t169 t170 _ ?side1 ?side2 A5.out).mono ?_); (case side1 => repeat (first | exact (Kd.C_below HR164.out HB.out) | (with_reducible refine Kd.C_alloc ?_ _) | (with_reducible refine Kd.C_drewN ?_ _) | (with_reducible refine Kd.C_drew ?_))); (case side2 => exact HC164.out); rintro e w17 ⟨v167, rfl, ho0, hb⟩; refine ⟨_, rfl, ?_⟩; have n0_ := Aside0.mk (Kd.S_elder' (by (with_reducible repeat (first | apply Kd.S_alloc | apply Kd.S_drewN | apply Kd.S_drew)); exact HO_2.out) (Kd.R_base ho0) hb); have n1_ := Aside0.mk (Kd.R_lower ho0 (below_size (by repeat (first | (with_reducible first | exact HB.out | apply below_alloc | apply pw_below_drewN | apply below_drew1) | exact HB.out)))); have n2_ := Aside0.mk (below_step (by repeat (first | (with_reducible first | exact HB.out | apply below_alloc | apply pw_below_drewN | apply below_drew1) | exact HB.out)) hb); clear HO_2; clear HB; have HO_2 := n0_; have HO168 := n1_; have HB := n2_; clear n0_ n1_ n2_; (try clear hb); (try clear hb2); (try clear hk); (try clear hi); (try clear ho0)) | ((with_reducible refine gate_dst (N := 5) rfl ?_); refine box_event ?hg (N := 5) ?hd (cs := #[.int .i64 0, .slice none 0 0]) (t := 27) ?hr ?_; (case hd => rfl); (case hg => rfl); (case hr => first | (go_simp; done) | (go_simp; rfl)); intro gb171 hg w18 hbox hb; have n0_ := Aside0.mk (Kd.S_below (Kd.S_elderB (by (with_reducible repeat (first | apply Kd.S_alloc | apply Kd.S_drewN | apply Kd.S_drew)); exact HO_2.out) gb171 (Nat.le_of_eq hg.symm)) hb); have n1_ := Aside0.mk (Kd.R_below (by (with_reducible repeat (first | apply Kd.R_alloc | apply Kd.R_drewN | apply Kd.R_drew)); exact HO168.out) hb); have n2_ := Aside0.mk (below_step (by repeat (first | (with_reducible first | exact HB.out | apply below_alloc | apply pw_below_drewN | apply below_drew1) | exact HB.out)) hb); have n3_ := Aside0.mk (hbox); have n4_ := Aside0.mk ((by rw [hg]; exact (below_size (by repeat (first | (with_reducible first | exact HB.out | apply below_alloc | apply pw_below_drewN | apply below_drew1) | exact HB.out))) : w.heap.size ≤ gb171)); have n5_ := Aside0.mk ((by rw [hg]; exact (below_size (by repeat (first | (with_reducible first | exact HB.out | apply below_alloc | apply pw_below_drewN | apply below_drew1) | exact HB.out))) : w.heap.size ≤ gb171)); clear HO_2; clear HO168; clear HB; have HO_2 := n0_; have HO168 := n1_; have HB := n2_; have BK171 := n3_; have GW171 := n4_; have GE171 := n5_; clear n0_ n1_ n2_ n3_ n4_ n5_; clear hb hbox hg; have hcz19_0 : w18.cell? ⟨gb171, 0, none⟩ = some (.int .i64 0) := (blk_cell BK171.out 0).trans rfl; have hcz19_1 : w18.cell? ⟨gb171, 1, none⟩ = some (.slice none 0 0) := (blk_cell BK171.out 1).trans rfl; have hfz19_0 := blk_frozen BK171.out 0; have hfz19_1 := blk_frozen BK171.out 1; obtain ⟨Ao20, co20, eo20⟩ := Kd.R_slice HO168.out; subst eo20))
              go_ret3
              exact ⟨_, by first | rfl | (simp [errW_none, errW_some] <;> rfl) | (simp [*, errW_none, errW_some] <;> rfl), by (with_reducible repeat (first | apply Kd.S_alloc | apply Kd.S_drewN | apply Kd.S_drew)); exact Kd.S_mono (Kd.S_far (p := ⟨gb171, 1, none⟩) (Kd.S_far (p := ⟨gb171, 0, none⟩) (Kd.S_mono HO_2.out (fun k_ hk => (⟨hk, hk.2⟩ : _ ∧ k_ ≠ gb171))) (fun _ hk => hk.2) (.int .i64 t165)) (fun _ hk => hk.2) (.slice Ao20 t166.length co20)) (fun _ hk => trivial), by repeat (first | (with_reducible first | exact HB.out | apply below_alloc | apply pw_below_drewN | apply below_drew1 | refine below_set ?_ GE171.out) | exact HB.out)⟩
          · rw [if_neg c4] at H
            exact absurd H (by simp)
        · rw [if_neg c3] at H
          exact absurd H (by simp)
      · rw [if_neg c2] at H
        have c2b0 : decide (x3_1 < (l0.length : Int)) = false := decide_eq_false c2
        clear c2
        simp only [Option.some.injEq, Prod.mk.injEq] at H
        obtain ⟨rfl, rfl, rfl⟩ := H
        go_wp2
        go_ret3
        exact ⟨_, by first | rfl | (simp [errW_none, errW_some] <;> rfl) | (simp [*, errW_none, errW_some] <;> rfl), by (with_reducible repeat (first | apply Kd.S_alloc | apply Kd.S_drewN | apply Kd.S_drew)); exact HO_2.out, by repeat (first | (with_reducible first | exact HB.out | apply below_alloc | apply pw_below_drewN | apply below_drew1) | exact HB.out)⟩

/-! ### rec_Equal: function 22 -/
def rec_Equal.f (a0_0 : Int) (l0_1 : List Int) (a1_0 : Int) (l1_1 : List Int) : Option (Bool) := if a0_0 = a1_0 then ((bytes_Equal.f l0_1 l1_1).bind fun t177 => (some t177)) else (some false)
set_option maxHeartbeats 8000000 in
set_option maxRecDepth 100000 in
theorem rec_Equal.calls (a0_0 : Int) (A0_1 : Option Addr) (c0_1 : Nat) (l0_1 : List Int) (a1_0 : Int) (A1_1 : Option Addr) (c1_1 : Nat) (l1_1 : List Int) (r : Bool) (w : World) (hr0_1 : Kd.C (Kd.int .u8) w A0_1 l0_1.length l0_1) (hc0_1 : l0_1.length ≤ c0_1) (hr1_1 : Kd.C (Kd.int .u8) w A1_1 l1_1.length l1_1) (hc1_1 : l1_1.length ≤ c1_1) (h : rec_Equal.f a0_0 l0_1 a1_0 l1_1 = some r) :
    Calls Try.prog 22 #[.agg #[.int .i64 a0_0, .slice A0_1 l0_1.length c0_1], .agg #[.int .i64 a1_0, .slice A1_1 l1_1.length c1_1]] w fun e w' => e = .returned (.bool r) ∧ Below w.heap.size w w' := by
  have hu27 := Try.underlying27
  have HR0_1 := Aside0.mk hr0_1
  have HC0_1 := Aside0.mk hc0_1
  clear hr0_1 hc0_1
  have HR1_1 := Aside0.mk hr1_1
  have HC1_1 := Aside0.mk hc1_1
  clear hr1_1 hc1_1
  have HB := Aside0.mk (Below.refl w.heap.size w)
  have H : (if a0_0 = a1_0 then ((bytes_Equal.f l0_1 l1_1).bind fun t177 => (some t177)) else (some false)) = some r := h
  clear h
  by_cases c3 : a0_0 = a1_0
  · rw [if_pos c3] at H
    have c3b0 : (a0_0 == a1_0) = true := beq_iff_eq.mpr c3
    have c3b1 : (a0_0 != a1_0) = false := bne_eq_false_iff_eq.mpr c3
    clear c3
    replace H := Option.bind_eq_some_iff.mp H
    obtain ⟨t177, A40, H⟩ := H
    replace H : (some t177) = some r := H
    have A4 := Aside0.mk A40
    clear A40
    obtain rfl := Option.some.inj H
    go_enter Try.func22, Try.ntmps22
    go_wp2_with (first | ((with_reducible refine gate_dst (N := 2) rfl ?_); refine box_event ?hg (N := 2) ?hd (cs := #[.int .i64 a0_0, .slice A0_1 l0_1.length c0_1]) (t := 27) ?hr ?_; (case hd => rfl); (case hg => rfl); (case hr => first | (go_simp; done) | (go_simp; rfl)); intro gb175 hg w5 hbox hb; have n0_ := Aside0.mk (below_step (by repeat (first | (with_reducible first | exact HB.out | apply below_alloc | apply pw_below_drewN | apply below_drew1) | exact HB.out)) hb); have n1_ := Aside0.mk (hbox); have n2_ := Aside0.mk ((by rw [hg]; exact (below_size (by repeat (first | (with_reducible first | exact HB.out | apply below_alloc | apply pw_below_drewN | apply below_drew1) | exact HB.out))) : w.heap.size ≤ gb175)); have n3_ := Aside0.mk ((by rw [hg]; exact (below_size (by repeat (first | (with_reducible first | exact HB.out | apply below_alloc | apply pw_below_drewN | apply below_drew1) | exact HB.out))) : w.heap.size ≤ gb175)); clear HB; have HB := n0_; have BK175 := n1_; have GW175 := n2_; have GE175 := n3_; clear n0_ n1_ n2_ n3_; clear hb hbox hg) | ((with_reducible refine gate_dst (N := 3) rfl ?_); refine box_event ?hg (N := 3) ?hd (cs := #[.int .i64 a1_0, .slice A1_1 l1_1.length c1_1]) (t := 27) ?hr ?_; (case hd => rfl); (case hg => rfl); (case hr => first | (go_simp; done) | (go_simp; rfl)); intro gb176 hg w6 hbox hb; have n0_ := Aside0.mk (blk_below (g := gb175) (o := .cells #[.int .i64 a0_0, .slice A0_1 l0_1.length c0_1] 27 (0, 0)) (by (with_reducible repeat (first | refine blk_drewN ?_ _ | refine blk_drew ?_ | refine blk_alloc ?_ _)); exact BK175.out) hb); have n1_ := Aside0.mk (below_step (by repeat (first | (with_reducible first | exact HB.out | apply below_alloc | apply pw_below_drewN | apply below_drew1 | refine below_set ?_ GE175.out) | exact HB.out)) hb); have n2_ := Aside0.mk (hbox); have n3_ := Aside0.mk ((by rw [hg]; exact (below_size (by repeat (first | (with_reducible first | exact HB.out | apply below_alloc | apply pw_below_drewN | apply below_drew1 | refine below_set ?_ GE175.out) | exact HB.out))) : w.heap.size ≤ gb176)); have n4_ := Aside0.mk ((by rw [hg]; exact (below_size (by repeat (first | (with_reducible first | exact HB.out | apply below_alloc | apply pw_below_drewN | apply below_drew1 | refine below_set ?_ GE175.out) | exact HB.out))) : w.heap.size ≤ gb176)); have n5_ := Aside0.mk ((by rw [hg]; exact Nat.ne_of_lt (blk_lt (g := gb175) (o := .cells #[.int .i64 a0_0, .slice A0_1 l0_1.length c0_1] 27 (0, 0)) (by (with_reducible repeat (first | refine blk_drewN ?_ _ | refine blk_drew ?_ | refine blk_alloc ?_ _)); exact BK175.out)) : gb175 ≠ gb176)); have n6_ := Aside0.mk ((by rw [hg]; exact Nat.ne_of_gt (blk_lt (g := gb175) (o := .cells #[.int .i64 a0_0, .slice A0_1 l0_1.length c0_1] 27 (0, 0)) (by (with_reducible repeat (first | refine blk_drewN ?_ _ | refine blk_drew ?_ | refine blk_alloc ?_ _)); exact BK175.out)) : gb176 ≠ gb175)); clear BK175; clear HB; have BK175 := n0_; have HB := n1_; have BK176 := n2_; have GW176 := n3_; have GE176 := n4_; have NB175_176 := n5_; have NB176_175 := n6_; clear n0_ n1_ n2_ n3_ n4_ n5_ n6_; clear hb hbox hg; have hnb7 := NB175_176.out; have hnc7 := NB176_175.out; have hcz8_0 : w6.cell? ⟨gb175, 0, none⟩ = some (.int .i64 a0_0) := (blk_cell BK175.out 0).trans rfl; have hcz8_1 : w6.cell? ⟨gb175, 1, none⟩ = some (.slice A0_1 l0_1.length c0_1) := (blk_cell BK175.out 1).trans rfl; have hfz8_0 := blk_frozen BK175.out 0; have hfz8_1 := blk_frozen BK175.out 1; have hcz9_0 : w6.cell? ⟨gb176, 0, none⟩ = some (.int .i64 a1_0) := (blk_cell BK176.out 0).trans rfl; have hcz9_1 : w6.cell? ⟨gb176, 1, none⟩ = some (.slice A1_1 l1_1.length c1_1) := (blk_cell BK176.out 1).trans rfl; have hfz9_0 := blk_frozen BK176.out 0; have hfz9_1 := blk_frozen BK176.out 1) | (go_at_call 64; (with_reducible refine (bytes_Equal.calls _ _ l0_1 _ _ l1_1 t177 _ ?side1 ?side2 ?side3 ?side4 A4.out).mono ?_); (case side1 => repeat (first | exact (Kd.C_below HR0_1.out HB.out) | (with_reducible refine Kd.C_alloc ?_ _) | (with_reducible refine Kd.C_drewN ?_ _) | (with_reducible refine Kd.C_drew ?_))); (case side2 => exact HC0_1.out); (case side3 => repeat (first | exact (Kd.C_below HR1_1.out HB.out) | (with_reducible refine Kd.C_alloc ?_ _) | (with_reducible refine Kd.C_drewN ?_ _) | (with_reducible refine Kd.C_drew ?_))); (case side4 => exact HC1_1.out); rintro e w' ⟨rfl, ⟨nd, rfl⟩⟩))
    go_ret
    exact ⟨by first | rfl | (simp [errW_none, errW_some] <;> rfl) | (simp [*, errW_none, errW_some] <;> rfl), by repeat (first | (with_reducible first | exact HB.out | apply below_alloc | apply pw_below_drewN | apply below_drew1 | refine below_set ?_ GE175.out | refine below_set ?_ GE176.out) | exact HB.out)⟩
  · rw [if_neg c3] at H
    have c3b0 : (a0_0 == a1_0) = false := beq_eq_false_iff_ne.mpr c3
    have c3b1 : (a0_0 != a1_0) = true := bne_iff_ne.mpr c3
    obtain rfl := Option.some.inj H
    go_enter Try.func22, Try.ntmps22
    go_wp2_with (first | ((with_reducible refine gate_dst (N := 2) rfl ?_); refine box_event ?hg (N := 2) ?hd (cs := #[.int .i64 a0_0, .slice A0_1 l0_1.length c0_1]) (t := 27) ?hr ?_; (case hd => rfl); (case hg => rfl); (case hr => first | (go_simp; done) | (go_simp; rfl)); intro gb175 hg w10 hbox hb; have n0_ := Aside0.mk (below_step (by repeat (first | (with_reducible first | exact HB.out | apply below_alloc | apply pw_below_drewN | apply below_drew1) | exact HB.out)) hb); have n1_ := Aside0.mk (hbox); have n2_ := Aside0.mk ((by rw [hg]; exact (below_size (by repeat (first | (with_reducible first | exact HB.out | apply below_alloc | apply pw_below_drewN | apply below_drew1) | exact HB.out))) : w.heap.size ≤ gb175)); have n3_ := Aside0.mk ((by rw [hg]; exact (below_size (by repeat (first | (with_reducible first | exact HB.out | apply below_alloc | apply pw_below_drewN | apply below_drew1) | exact HB.out))) : w.heap.size ≤ gb175)); clear HB; have HB := n0_; have BK175 := n1_; have GW175 := n2_; have GE175 := n3_; clear n0_ n1_ n2_ n3_; clear hb hbox hg) | ((with_reducible refine gate_dst (N := 3) rfl ?_); refine box_event ?hg (N := 3) ?hd (cs := #[.int .i64 a1_0, .slice A1_1 l1_1.length c1_1]) (t := 27) ?hr ?_; (case hd => rfl); (case hg => rfl); (case hr => first | (go_simp; done) | (go_simp; rfl)); intro gb176 hg w11 hbox hb; have n0_ := Aside0.mk (blk_below (g := gb175) (o := .cells #[.int .i64 a0_0, .slice A0_1 l0_1.length c0_1] 27 (0, 0)) (by (with_reducible repeat (first | refine blk_drewN ?_ _ | refine blk_drew ?_ | refine blk_alloc ?_ _)); exact BK175.out) hb); have n1_ := Aside0.mk (below_step (by repeat (first | (with_reducible first | exact HB.out | apply below_alloc | apply pw_below_drewN | apply below_drew1 | refine below_set ?_ GE175.out) | exact HB.out)) hb); have n2_ := Aside0.mk (hbox); have n3_ := Aside0.mk ((by rw [hg]; exact (below_size (by repeat (first | (with_reducible first | exact HB.out | apply below_alloc | apply pw_below_drewN | apply below_drew1 | refine below_set ?_ GE175.out) | exact HB.out))) : w.heap.size ≤ gb176)); have n4_ := Aside0.mk ((by rw [hg]; exact (below_size (by repeat (first | (with_reducible first | exact HB.out | apply below_alloc | apply pw_below_drewN | apply below_drew1 | refine below_set ?_ GE175.out) | exact HB.out))) : w.heap.size ≤ gb176)); have n5_ := Aside0.mk ((by rw [hg]; exact Nat.ne_of_lt (blk_lt (g := gb175) (o := .cells #[.int .i64 a0_0, .slice A0_1 l0_1.length c0_1] 27 (0, 0)) (by (with_reducible repeat (first | refine blk_drewN ?_ _ | refine blk_drew ?_ | refine blk_alloc ?_ _)); exact BK175.out)) : gb175 ≠ gb176)); have n6_ := Aside0.mk ((by rw [hg]; exact Nat.ne_of_gt (blk_lt (g := gb175) (o := .cells #[.int .i64 a0_0, .slice A0_1 l0_1.length c0_1] 27 (0, 0)) (by (with_reducible repeat (first | refine blk_drewN ?_ _ | refine blk_drew ?_ | refine blk_alloc ?_ _)); exact BK175.out)) : gb176 ≠ gb175)); clear BK175; clear HB; have BK175 := n0_; have HB := n1_; have BK176 := n2_; have GW176 := n3_; have GE176 := n4_; have NB175_176 := n5_; have NB176_175 := n6_; clear n0_ n1_ n2_ n3_ n4_ n5_ n6_; clear hb hbox hg; have hnb12 := NB175_176.out; have hnc12 := NB176_175.out; have hcz13_0 : w11.cell? ⟨gb175, 0, none⟩ = some (.int .i64 a0_0) := (blk_cell BK175.out 0).trans rfl; have hcz13_1 : w11.cell? ⟨gb175, 1, none⟩ = some (.slice A0_1 l0_1.length c0_1) := (blk_cell BK175.out 1).trans rfl; have hfz13_0 := blk_frozen BK175.out 0; have hfz13_1 := blk_frozen BK175.out 1; have hcz14_0 : w11.cell? ⟨gb176, 0, none⟩ = some (.int .i64 a1_0) := (blk_cell BK176.out 0).trans rfl; have hcz14_1 : w11.cell? ⟨gb176, 1, none⟩ = some (.slice A1_1 l1_1.length c1_1) := (blk_cell BK176.out 1).trans rfl; have hfz14_0 := blk_frozen BK176.out 0; have hfz14_1 := blk_frozen BK176.out 1))
    go_ret
    exact ⟨by first | rfl | (simp [errW_none, errW_some] <;> rfl) | (simp [*, errW_none, errW_some] <;> rfl), by repeat (first | (with_reducible first | exact HB.out | apply below_alloc | apply pw_below_drewN | apply below_drew1 | refine below_set ?_ GE175.out | refine below_set ?_ GE176.out) | exact HB.out)⟩

/-! ### mutoscopelaw04_awake: function 16, by hand -/
def mutoscopelaw04_awake.f (k : Nat) : Option Bool := some true
theorem mutoscopelaw04_awake.mono : ∀ k, LeO (mutoscopelaw04_awake.f k) (mutoscopelaw04_awake.f (k + 1)) := fun _ => LeO.refl _
/-! Rows that are read off a known block. -/
theorem heap_new (W : World) (o : Obj) : (W.alloc o).heap[W.heap.size]? = some o := by
  show (W.heap.push o)[W.heap.size]? = _
  simp
theorem heap_at {W : World} {b : Nat} (o : Obj) (h : b = W.heap.size) : (W.alloc o).heap[b]? = some o := h ▸ heap_new W o
theorem heap_old {W : World} {i : Nat} {x : Obj} (h : W.heap[i]? = some x) (o : Obj) : (W.alloc o).heap[i]? = some x := by
  have hlt : i < W.heap.size := (Array.getElem?_eq_some_iff.1 h).1
  show (W.heap.push o)[i]? = _
  rw [Array.getElem?_push, if_neg (by omega)]
  exact h
theorem heap_drewN {W : World} {i : Nat} {x : Obj} (h : W.heap[i]? = some x) (n : Nat) : (W.drewN n).heap[i]? = some x := h
theorem heap_below {W W1 : World} {i : Nat} {x : Obj} (h : W.heap[i]? = some x) (hb : Below W.heap.size W W1) : W1.heap[i]? = some x := by
  have hlt : i < W.heap.size := (Array.getElem?_eq_some_iff.1 h).1
  rw [hb.block i hlt]
  exact h
theorem cell_block {W : World} {b j : Nat} {C : Array Value} {e : TypeId} {fr : Nat × Nat} {v : Value} (h : W.heap[b]? = some (.cells C e fr)) (hv : C[j]? = some v) : W.cell? ⟨b, j, none⟩ = some v := by
  unfold World.cell?
  simp only [h, hv]
  rfl
/-- A row of elements in a known block. -/
theorem C_cells {α : Type} (d : Kd α) {W : World} {b : Nat} {C : Array Value} {e : TypeId} {fr : Nat × Nat} {xs : List α} (h : W.heap[b]? = some (.cells C e fr)) (hl : xs.length ≤ 9223372036854775807)
    (hC : ∀ (j : Nat) (x : α), xs[j]? = some x → ∃ c : List Value, c.length = d.sz ∧ d.K W x c ∧ ∀ i u, c[i]? = some u → C[j * d.sz + i]? = some u) : d.C W (some ⟨b, 0, none⟩) xs.length xs := by
  refine ⟨rfl, hl, fun _ => ⟨_, rfl, fun j p hj => ?_⟩⟩
  obtain ⟨c, hc, hk, hu⟩ := hC j p hj
  refine ⟨c, hc, hk, fun i u hi => ?_⟩
  have e1 : (⟨b, 0, none⟩ : Addr).add (j * d.sz + i) = ⟨b, j * d.sz + i, none⟩ := by simp [Addr.add]; omega
  rw [e1]
  exact cell_block h (hu i u hi)
theorem C_ints {W : World} {b : Nat} {C : Array Value} {e : TypeId} {fr : Nat × Nat} {k : IntKind} {xs : List Int} (h : W.heap[b]? = some (.cells C e fr)) (hC : C.toList = xs.map (Value.int k)) (hl : xs.length ≤ 9223372036854775807) :
    Kd.C (Kd.int k) W (some ⟨b, 0, none⟩) xs.length xs := by
  refine C_cells (Kd.int k) h hl (fun j x hj => ⟨[.int k x], rfl, rfl, fun i u hi => ?_⟩)
  rcases i with _ | i
  · have : C[j]? = some (.int k x) := by
      rw [← Array.getElem?_toList, hC, List.getElem?_map, hj]; rfl
    have e2 : j * (Kd.int k).sz + 0 = j := Nat.mul_one j
    rw [e2, this]
    simpa using hi
  · simp at hi
/-- One element. -/
theorem C_one {α : Type} (d : Kd α) {W : World} {b : Nat} {C : Array Value} {e : TypeId} {fr : Nat × Nat} {x : α} (h : W.heap[b]? = some (.cells C e fr)) (hl : C.toList.length = d.sz) (hk : d.K W x C.toList) : d.C W (some ⟨b, 0, none⟩) 1 [x] := by
  refine C_cells d (xs := [x]) h (by simp) (fun j y hj => ?_)
  rcases j with _ | j
  · simp at hj
    subst hj
    refine ⟨C.toList, hl, hk, fun i u hi => ?_⟩
    rw [Nat.zero_mul, Nat.zero_add, ← Array.getElem?_toList]
    exact hi
  · simp at hj
theorem C_take {α : Type} {d : Kd α} {W : World} {A : Option Addr} {n : Nat} {xs : List α} (h : d.C W A n xs) (m : Nat) (hm : m ≤ xs.length) : d.C W A m (xs.take m) := by
  refine ⟨by rw [List.length_take]; omega, by have := h.1; have := h.2.1; omega, fun hp => ?_⟩
  obtain ⟨ad, e, hc⟩ := h.2.2 (by have := h.1; omega)
  refine ⟨ad, e, fun j p hj => hc j p ?_⟩
  rw [List.getElem?_take] at hj
  split at hj
  · exact hj
  · cases hj
set_option maxHeartbeats 8000000 in
set_option maxRecDepth 100000 in
theorem awake_calls (w : World) :
    Calls Try.prog 16 #[] w fun e w' => e = .returned (.bool true) ∧ Below w.heap.size w w' := by
  have H1 : Aside0 (rec_Bytes.f 60 [⟨1, [97]⟩] = some ([1, 0, 0, 254, 255, 255, 1, 97, 88, 99, 191, 29], 0)) := ⟨by decide +kernel⟩
  have H2 : Aside0 (rec_Bytes.f 60 [⟨256, []⟩] = some ([], 11)) := ⟨by decide +kernel⟩
  have H3 : Aside0 (rec_Next.f 60 [1, 0, 0, 254, 255, 255, 1, 97, 88, 99, 191, 29] = some (1, [97], 12, 0)) := ⟨by decide +kernel⟩
  have H4 : Aside0 (rec_Next.f 60 [0] = some (0, [], 0, 16)) := ⟨by decide +kernel⟩
  have H5 : Aside0 (rec_All.f 60 [1, 0, 0, 254, 255, 255, 1, 97, 88, 99, 191, 29, 5] = some ([⟨1, [97]⟩], 12, 16)) := ⟨by kernel_rfl⟩
  have H6 : Aside0 (rec_Equal.f 1 [97] 1 [97] = some true) := ⟨by decide +kernel⟩
  have H7 : Aside0 (rec_Equal.f 1 [97] 0 [] = some false) := ⟨by decide +kernel⟩
  have H8 : Aside0 (rec_Size.f 1 = some 12) := ⟨by decide +kernel⟩
  have kc := fun (w : World) (C : Array Value) (n c : Nat) => Lib.run_convert_bytes_const (P := Try.prog) w 25 5 C n c Try.underlying25 Try.underlying5
  go_enter Try.func16, Try.ntmps16
  go_wp2_with (fail)
  refine (rec_Bytes.calls 60 _ _ [⟨1, [97]⟩] _ _ _ ?a1 ?a2 H1.out).mono ?_
  case a1 => exact C_one k27 (heap_at _ (by simp)) rfl (k27_mk _ ⟨1, [97]⟩ (Nat.le_refl _) (C_ints (xs := [97]) (heap_old (heap_at _ rfl) _) rfl (by simp)))
  case a2 => exact Nat.le_refl _
  rintro e w1 ⟨v1, rfl, ho1, hb1⟩
  obtain ⟨A1, c1, rfl⟩ := Kd.R_slice ho1
  have z1 : w.heap.size < w1.heap.size := by have := hb1.size; simp at this; omega
  have HB1 : Aside0 (Below w.heap.size w w1) := ⟨((below_alloc (below_alloc (Below.refl _ _) _) _).trans (hb1.mono (by simp; omega)))⟩
  have C1 := Aside0.mk (Kd.R_reads' ho1).2
  clear ho1 hb1
  go_wp2_with (fail)
  refine (rec_Bytes.calls 60 _ _ [⟨256, []⟩] _ _ _ ?b1 ?b2 H2.out).mono ?_
  case b1 => exact C_one k27 (heap_at _ rfl) rfl (k27_mk _ ⟨256, []⟩ (Nat.le_refl _) (Kd.C_nil _ _))
  case b2 => exact Nat.le_refl _
  rintro e w2 ⟨v2, rfl, ho2, hb2⟩
  have z2 : w.heap.size < w2.heap.size := by have := hb2.size; simp at this; omega
  have HB2 : Aside0 (Below w.heap.size w w2) := ⟨(below_alloc HB1.out _).trans (hb2.mono (by simp; omega))⟩
  have C2 := Aside0.mk (And.intro C1.out.1 (Kd.C_below (Kd.C_alloc C1.out.2 _) hb2))
  obtain ⟨A2, c2, rfl⟩ := Kd.R_slice ho2
  clear ho2 hb2 C1 HB1
  go_wp2_with (fail)
  refine (rec_Next.calls 60 _ _ [1, 0, 0, 254, 255, 255, 1, 97, 88, 99, 191, 29] _ _ _ _ _ ?d1 ?d2 H3.out).mono ?_
  case d1 => exact C2.out.2
  case d2 => exact C2.out.1
  rintro e w3 ⟨v3, rfl, ho3, hb3⟩
  have z3 : w.heap.size < w3.heap.size := by have := hb3.size; omega
  have HB3 : Aside0 (Below w.heap.size w w3) := ⟨HB2.out.trans (hb3.mono (by omega))⟩
  have C3 := Aside0.mk (And.intro C2.out.1 (Kd.C_below C2.out.2 hb3))
  obtain ⟨A3, c3, rfl⟩ := Kd.R_slice ho3
  have D3 := Aside0.mk (Kd.R_reads' ho3).2
  clear ho3 hb3 C2 HB2
  go_wp2_with (fail)
  refine (rec_Next.calls 60 _ _ [0] _ _ _ _ _ ?e1 ?e2 H4.out).mono ?_
  case e1 => exact C_ints (heap_at _ (by simp)) rfl (by simp)
  case e2 => exact Nat.le_refl _
  rintro e w4 ⟨v4, rfl, ho4, hb4⟩
  have z4 : w3.heap.size + 1 < w4.heap.size := by have := hb4.size; simp at this; omega
  have BK : Aside0 (w4.heap[w3.heap.size]? = some (.cells #[.int .i64 1, .slice A3 1 c3] 27 (0, 0))) := ⟨heap_below (heap_old (heap_new _ _) _) hb4⟩
  have HB4 : Aside0 (Below w.heap.size w w4) := ⟨(below_alloc (below_alloc HB3.out _) _).trans (hb4.mono (by simp; omega))⟩
  have C4 := Aside0.mk (And.intro C3.out.1 (Kd.C_below (Kd.C_alloc (Kd.C_alloc C3.out.2 _) _) hb4))
  have D4 := Aside0.mk (And.intro D3.out.1 (Kd.C_below (Kd.C_alloc (Kd.C_alloc D3.out.2 _) _) hb4))
  obtain ⟨A4, c4, rfl⟩ := Kd.R_slice ho4
  clear ho4 hb4 C3 D3 HB3
  have KEEP : ∀ W' : World, Below (w4.heap.size + 1) (w4.alloc (.cells #[.int .i64 0, .slice A4 0 c4] 27)) W' → Below w4.heap.size w4 W' := fun W' h => (below_alloc (Below.refl _ _) _).trans (h.mono (by omega))
  have KP := Aside0.mk KEEP
  clear KEEP
  go_wp2_with (first | ((with_reducible refine gate_dst (N := 41) rfl ?_); (try (refine gate_guard (by rfl) ?_; dsimp only)); refine Kd.R_lit (Kd.int .u8) _ 5 ?hg (N := 41) ?hd (xs := ([] : List Int)) (inner := []) (ok := fun _ => True) (okp := fun _ => True) ?hr ?hp (fun _ hk => hk) trivial (Below.refl _ _) (Nat.le_refl _) (by simp) ?_; (case hd => rfl); (case hg => rfl); (case hr => first | (go_simp; done) | (go_simp; rfl)); (case hp => exact (Reps.none _ _)); intro v5 w5 ho5 hb5 hg_ hnew_; have HO5 := Aside0.mk ho5; have HB5 := Aside0.mk hb5; clear ho5 hb5 hg_ hnew_) | ((with_reducible refine gate_builtin (b := .append) (xs := #[.tmp 41, .tmp 42]) rfl ?_); (try (refine gate_guard (by rfl) ?_; dsimp only)); at_builtin; refine Kd.R_append_rows (Kd.int .u8) _ rfl (.tmp 41) (.tmp 42) 25 5 (.int .u8 0) 1 rfl Try.underlying25 info5 rfl (by decide) (by omega) v5 [] [1, 0, 0, 254, 255, 255, 1, 97, 88, 99, 191, 29] A1 12 c1 (fun _ => True) (fun _ => False) rfl rfl HO5.out ?aR (fun _ _ h => h) (fun _ h => h.elim) (fun _ _ => trivial) HB5.out (below_size HB5.out) (by simp) ?_; (case aR => exact Kd.C_below (Kd.C_alloc C4.out.2 _) HB5.out); intro v6 w6 ho6 hb6 hg_ hat; have HO6 := Aside0.mk ho6; have HB6 := Aside0.mk hb6; clear ho6 hb6 hg_ hat HO5 HB5) | ((with_reducible refine gate_dst (N := 44) rfl ?_); (try (refine gate_guard (by rfl) ?_; dsimp only)); refine Kd.R_lit (Kd.int .u8) _ 5 ?hg (N := 44) ?hd (xs := ([5] : List Int)) (inner := [.int .u8 5]) (ok := fun _ => True) (okp := fun _ => True) ?hr ?hp (fun _ hk => hk) trivial (Below.refl _ _) (Nat.le_refl _) (by simp) ?_; (case hd => rfl); (case hg => rfl); (case hr => first | (go_simp; done) | (go_simp; rfl)); (case hp => exact (Reps.one (show Kd.M (Kd.int .u8) _ _ _ 5 [.int .u8 5] from rfl) (Reps.none _ _))); intro v7 w7 ho7 hb7 hg_ hnew_; have C7 := Aside0.mk (Kd.R_reads ho7); have HO7 := Aside0.mk (Kd.R_below HO6.out hb7); have HB7 := Aside0.mk (below_step HB6.out hb7); clear ho7 hb7 hg_ hnew_ HO6 HB6; obtain ⟨A7, c7, e7, C7b⟩ := C7.out; subst e7; have C8 := Aside0.mk C7b; clear C7 C7b) | ((with_reducible refine gate_builtin (b := .append) (xs := #[.tmp 43, .tmp 44]) rfl ?_); (try (refine gate_guard (by rfl) ?_; dsimp only)); at_builtin; refine Kd.R_append_rows (Kd.int .u8) _ rfl (.tmp 43) (.tmp 44) 25 5 (.int .u8 0) 1 rfl Try.underlying25 info5 rfl (by decide) (by omega) v6 [1, 0, 0, 254, 255, 255, 1, 97, 88, 99, 191, 29] [5] A7 1 c7 (fun _ => True) (fun _ => False) rfl rfl HO7.out ?aR (fun _ _ h => h) (fun _ h => h.elim) (fun _ _ => trivial) HB7.out (below_size HB7.out) (by simp) ?_; (case aR => exact C8.out.2); intro v8 w8 ho8 hb8 hg_ hat; have HO8 := Aside0.mk ho8; have HB8 := Aside0.mk hb8; clear ho8 hb8 hg_ hat HO7 HB7; obtain ⟨A8, c8, e8⟩ := Kd.R_slice HO8.out; subst e8))
  refine (rec_All.calls 60 _ _ [1, 0, 0, 254, 255, 255, 1, 97, 88, 99, 191, 29, 5] _ _ _ _ ?f1 ?f2 H5.out).mono ?_
  case f1 => exact (Kd.R_reads' HO8.out).2.2
  case f2 => exact (Kd.R_reads' HO8.out).2.1
  rintro e w9 ⟨v9, rfl, ho9, hb9⟩
  have K9 : Aside0 (Below w4.heap.size w4 w9) := ⟨((below_alloc (Below.refl _ _) _).trans (HB8.out.mono (by simp))).trans (hb9.mono (by have := HB8.out.size; simp at this; omega))⟩
  have z9 : w.heap.size < w9.heap.size := by have := K9.out.size; omega
  have HB9 : Aside0 (Below w.heap.size w w9) := ⟨HB4.out.trans (K9.out.mono (by omega))⟩
  have C9 := Aside0.mk (And.intro C4.out.1 (Kd.C_below C4.out.2 K9.out))
  have D9 := Aside0.mk (And.intro D4.out.1 (Kd.C_below D4.out.2 K9.out))
  have BK9 := Aside0.mk (heap_below BK.out K9.out)
  obtain ⟨A9, c9, rfl⟩ := Kd.R_slice (Kd.S_R ho9)
  clear ho9 hb9 C4 D4 BK HO8 HB8 KP HB4 C8
  have hz0 : w9.cell? ⟨w3.heap.size, 0, none⟩ = some (.int .i64 1) := cell_block BK9.out rfl
  have hz1 : w9.cell? ⟨w3.heap.size, 1, none⟩ = some (.slice A3 1 c3) := cell_block BK9.out rfl
  have hcv : (convert 25 9 (.slice A1 8 c1)).run Try.prog w9 = .ok (.string (strOfNums [1, 0, 0, 254, 255, 255, 1, 97])) w9 := Kd.C_string Try.underlying25 Try.underlying5 Try.underlying9 (C_take C9.out.2 8 (by simp))
  have hst : (strOfNums [1, 0, 0, 254, 255, 255, 1, 97]).toList = [1, 0, 0, 254, 255, 255, 1, 97] := by decide +kernel
  have hc1 : (8 : Int) ≤ c1 := by have := C9.out.1; simp at this; omega
  go_wp2_with (fail)
  refine (rec_Equal.calls 1 _ _ [97] 1 _ _ [97] _ _ ?g1 ?g2 ?g3 ?g4 H6.out).mono ?_
  case g1 => exact Kd.C_alloc D9.out.2 _
  case g2 => exact D9.out.1
  case g3 => exact C_ints (xs := [97]) (heap_at _ rfl) rfl (by simp)
  case g4 => exact Nat.le_refl _
  rintro e w10 ⟨rfl, hb10⟩
  have K10 : Aside0 (Below w9.heap.size w9 w10) := ⟨(below_alloc (Below.refl _ _) _).trans (hb10.mono (by simp))⟩
  have HB10 : Aside0 (Below w.heap.size w w10) := ⟨HB9.out.trans (K10.out.mono (by omega))⟩
  have D10 := Aside0.mk (And.intro D9.out.1 (Kd.C_below D9.out.2 K10.out))
  have BK10 := Aside0.mk (heap_below BK9.out K10.out)
  clear hb10 C9 D9 BK9 HB9 hcv hz0 hz1
  have hz0 : w10.cell? ⟨w3.heap.size, 0, none⟩ = some (.int .i64 1) := cell_block BK10.out rfl
  have hz1 : w10.cell? ⟨w3.heap.size, 1, none⟩ = some (.slice A3 1 c3) := cell_block BK10.out rfl
  go_wp2_with (fail)
  refine (rec_Size.calls 1 _ _ H8.out).mono ?_
  rintro e w11 ⟨rfl, ⟨nd, rfl⟩⟩
  go_wp2_with (fail)
  refine (rec_Equal.calls 1 _ _ [97] 0 _ _ [] _ _ ?i1 ?i2 ?i3 ?i4 H7.out).mono ?_
  case i1 => exact Kd.C_drewN D10.out.2 _
  case i2 => exact D10.out.1
  case i3 => exact Kd.C_nil _ _
  case i4 => exact Nat.le_refl _
  rintro e w12 ⟨rfl, hb12⟩
  have HB12 : Aside0 (Below w.heap.size w w12) := ⟨(pw_below_drewN HB10.out nd).trans (hb12.mono (by have := HB10.out.size; exact this))⟩
  go_wp2_with (fail)
  go_ret
  exact ⟨rfl, HB12.out⟩
theorem mutoscopelaw04_awake.calls (k : Nat) (r : Bool) (w : World) (h : mutoscopelaw04_awake.f k = some r) :
    Calls Try.prog 16 #[] w fun e w' => e = .returned (.bool r) ∧ Below w.heap.size w w' := by
  obtain rfl := Option.some.inj h
  exact awake_calls w


end Go.Proofs.Ytcpakbppnkknlaa.QRecTorn
