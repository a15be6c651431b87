-- Written for this claim by a program of this session (wip/tools/mprint.sh, asm.py), and by hand
import Derived.Test.YtcpakbppnkknlaaQRecAllc5
namespace Go.Proofs.Ytcpakbppnkknlaa.QRecAll
open Go.RowKit Go.Proofs.YtcpakbppnkknlaaW.PrintWords Go.Proofs.YtcpakbppnkknlaaW.PrintLast Go.Proofs.YtcpakbppnkknlaaW.PrintMore
attribute [local go_sem] max2_int min2_int max_two min_two max_three min_three max_four min_four   -- for this text's walks alone
set_option linter.unusedVariables false
set_option linter.unusedSimpArgs false



attribute [local go_sem high] eqA30
/-! ### mutoscopelaw04_RecAll: function 5 -/
mutual
def mutoscopelaw04_RecAll.j0 : Nat → List (S27) → List (S30) → Bool → Option (Bool)
  | 0, _, _, _ => none
  | k + 1, x3, x6, x41 => if x41 = true then (some false) else (mutoscopelaw04_RecAll.l0 k x3 x6 (x3.length : Int) 0)
def mutoscopelaw04_RecAll.l0 : Nat → List (S27) → List (S30) → Int → Int → Option (Bool)
  | 0, _, _, _, _ => none
  | k + 1, x3, x6, x43, x44 => if x44 < x43 then (if 0 ≤ x44 then (if x44 < (x3.length : Int) then ((mutoscopelaw04_ref.f ((rd_T27 x3 x44).f0) ((rd_T27 x3 x44).f1)).bind fun bt204 => (if x44 < (x6.length : Int) then (if (!(bt204.1 == ((rd_T30 x6 x44).f0)) || (!(bt204.2.toList == (((rd_T30 x6 x44).f1).toList)))) = true then (some false) else (mutoscopelaw04_RecAll.l0 k x3 x6 x43 (wrap64 (x44 + 1)))) else (none))) else (none)) else (none)) else ((mutoscopelaw04_awake.f k).bind fun t207 => (some t207))
end
def mutoscopelaw04_RecAll.f (k : Nat) (l0 : List Int) : Option (Bool) := if (l0.length : Int) > 5000 then ((mutoscopelaw04_awake.f k).bind fun t192 => (some t192)) else ((rec_All.f k l0).bind fun bt193 => ((mutoscoperef04_All.f k (strOfNums l0)).bind fun bt198 => (if bt193.2.2 = bt198.2.2 then (if bt193.2.1 = bt198.2.1 then (mutoscopelaw04_RecAll.j0 k bt193.1 bt198.1 ((bt193.1.length : Int) != (bt198.1.length : Int))) else (mutoscopelaw04_RecAll.j0 k bt193.1 bt198.1 true)) else (mutoscopelaw04_RecAll.j0 k bt193.1 bt198.1 true))))
theorem mutoscopelaw04_RecAll.mono_l : ∀ k, (∀ y0 y1 y2, LeO (mutoscopelaw04_RecAll.j0 k y0 y1 y2) (mutoscopelaw04_RecAll.j0 (k + 1) y0 y1 y2)) ∧ (∀ y0 y1 y2 y3, LeO (mutoscopelaw04_RecAll.l0 k y0 y1 y2 y3) (mutoscopelaw04_RecAll.l0 (k + 1) y0 y1 y2 y3))
  | 0 => ⟨fun _ _ _ r h => by simp [mutoscopelaw04_RecAll.j0] at h, fun _ _ _ _ r h => by simp [mutoscopelaw04_RecAll.l0] at h⟩
  | k + 1 => by
    obtain ⟨ih0, ih1⟩ := mutoscopelaw04_RecAll.mono_l k
    refine ⟨?_, ?_⟩
    · intro y0 y1 y2
      unfold mutoscopelaw04_RecAll.j0
      repeat' first
      | (with_reducible exact ih0 _ _ _)
      | (with_reducible exact ih1 _ _ _ _)
      | (with_reducible exact mutoscopelaw04_awake.mono _)
      | (with_reducible exact mutoscoperef04_All.mono _ _)
      | (with_reducible exact rec_All.mono _ _)
      | (with_reducible exact LeO.refl _)
      | (with_reducible exact LeO.none _)
      | (with_reducible refine LeO.ite ?_ ?_)
      | (with_reducible refine LeO.bind ?_ (fun _ => ?_))
      | exact ih0 _ _ _
      | exact ih1 _ _ _ _
      | exact mutoscopelaw04_awake.mono _
      | exact mutoscoperef04_All.mono _ _
      | exact rec_All.mono _ _
      | exact LeO.none _
      | refine LeO.ite ?_ ?_
      | refine LeO.bind ?_ (fun _ => ?_)
    · intro y0 y1 y2 y3
      unfold mutoscopelaw04_RecAll.l0
      repeat' first
      | (with_reducible exact ih0 _ _ _)
      | (with_reducible exact ih1 _ _ _ _)
      | (with_reducible exact mutoscopelaw04_awake.mono _)
      | (with_reducible exact mutoscoperef04_All.mono _ _)
      | (with_reducible exact rec_All.mono _ _)
      | (with_reducible exact LeO.refl _)
      | (with_reducible exact LeO.none _)
      | (with_reducible refine LeO.ite ?_ ?_)
      | (with_reducible refine LeO.bind ?_ (fun _ => ?_))
      | exact ih0 _ _ _
      | exact ih1 _ _ _ _
      | exact mutoscopelaw04_awake.mono _
      | exact mutoscoperef04_All.mono _ _
      | exact rec_All.mono _ _
      | exact LeO.none _
      | refine LeO.ite ?_ ?_
      | refine LeO.bind ?_ (fun _ => ?_)
theorem mutoscopelaw04_RecAll.mono : ∀ a0 k, LeO (mutoscopelaw04_RecAll.f k a0) (mutoscopelaw04_RecAll.f (k + 1) a0) := by
  intro a0 k
  obtain ⟨ih0, ih1⟩ := mutoscopelaw04_RecAll.mono_l k
  unfold mutoscopelaw04_RecAll.f
  repeat' first
      | (with_reducible exact ih0 _ _ _)
      | (with_reducible exact ih1 _ _ _ _)
      | (with_reducible exact mutoscopelaw04_awake.mono _)
      | (with_reducible exact mutoscoperef04_All.mono _ _)
      | (with_reducible exact rec_All.mono _ _)
      | (with_reducible exact LeO.refl _)
      | (with_reducible exact LeO.none _)
      | (with_reducible refine LeO.ite ?_ ?_)
      | (with_reducible refine LeO.bind ?_ (fun _ => ?_))
      | exact ih0 _ _ _
      | exact ih1 _ _ _ _
      | exact mutoscopelaw04_awake.mono _
      | exact mutoscoperef04_All.mono _ _
      | exact rec_All.mono _ _
      | exact LeO.none _
      | refine LeO.ite ?_ ?_
      | refine LeO.bind ?_ (fun _ => ?_)
def mutoscopelaw04_RecAll.T10 : Bool × List (List Nat × List Nat) := (true, [([], []), ([], []), ([0, 1], [0, 1]), ([2], [2]), ([3], [3]), ([], []), ([], []), ([5, 6], [5, 6]), ([7], [7]), ([4, 8], [4, 8])])
def mutoscopelaw04_RecAll.B10 : List Nat := [0, 0, 3, 7, 15, 0, 0, 96, 224, 511]
theorem mutoscopelaw04_RecAll.tab10 : rtab .any (opsOf Try.f5 10) = mutoscopelaw04_RecAll.T10 := by kernel_rfl
theorem mutoscopelaw04_RecAll.bits10 : waitsOk mutoscopelaw04_RecAll.T10.2 mutoscopelaw04_RecAll.B10 = true := by kernel_rfl
set_option maxHeartbeats 8000000 in
set_option maxRecDepth 100000 in
theorem mutoscopelaw04_RecAll.calls_true (k : Nat) (A0 : Option Addr) (c0 : Nat) (l0 : List Int) (r : Bool) (w : World) (hr0 : Kd.C (Kd.int .u8) w A0 l0.length l0) (hc0 : l0.length ≤ c0) (hr : r = true) (h : mutoscopelaw04_RecAll.f k l0 = some r) :
    Calls Try.prog 5 #[.slice A0 l0.length c0] w fun e w' => e = .returned (.bool r) ∧ Below w.heap.size w w' := by
  have HR := Aside0.mk hr
  clear hr
  have hu27 := Try.underlying27
  have hu30 := Try.underlying30
  have HR0 := Aside0.mk hr0
  have HC0 := Aside0.mk hc0
  clear hr0 hc0
  have HB := Aside0.mk (Below.refl w.heap.size w)
  have H : (if (l0.length : Int) > 5000 then ((mutoscopelaw04_awake.f k).bind fun t192 => (some t192)) else ((rec_All.f k l0).bind fun bt193 => ((mutoscoperef04_All.f k (strOfNums l0)).bind fun bt198 => (if bt193.2.2 = bt198.2.2 then (if bt193.2.1 = bt198.2.1 then (mutoscopelaw04_RecAll.j0 k bt193.1 bt198.1 ((bt193.1.length : Int) != (bt198.1.length : Int))) else (mutoscopelaw04_RecAll.j0 k bt193.1 bt198.1 true)) else (mutoscopelaw04_RecAll.j0 k bt193.1 bt198.1 true))))) = some r := h
  clear h
  by_cases c2 : (l0.length : Int) > 5000
  · rw [if_pos c2] at H
    have c2b0 : decide (5000 < (l0.length : Int)) = true := decide_eq_true c2
    have c2b1 : decide (5000 < l0.length) = true := decide_eq_true (by omega)
    clear c2
    replace H := Option.bind_eq_some_iff.mp H
    obtain ⟨t192, A30, H⟩ := H
    replace H : (some t192) = some r := H
    have A3 := Aside0.mk A30
    clear A30
    obtain rfl := Option.some.inj H
    go_enter Try.func5, Try.ntmps5
    go_wp2_with (first | ((with_reducible refine gate_callee (f := 16) rfl ?_); refine goesL_ (some 13) rfl rfl Try.func16 (by kernel_rfl) rfl #[] rfl (by (try simp only [List.map_toArray, List.map_cons, List.map_nil]); first | done | rfl | (simp only [List.length_drop, List.length_take]; rfl)) ?_; (with_reducible refine (mutoscopelaw04_awake.calls k  t192 _ A3.out).mono ?_); rintro e w4 ⟨rfl, hb⟩; refine ⟨_, rfl, ?_⟩; have n0_ := Aside0.mk (below_step (by repeat (first | (with_reducible first | exact HB.out | apply below_alloc | apply pw_below_drewN | apply below_drew1) | exact HB.out)) hb); clear HB; have HB := n0_; clear n0_; (try clear hb); (try clear hb2); (try clear hk); (try clear hi)))
    go_ret
    exact ⟨by first | rfl | (simp [errW_none, errW_some] <;> rfl) | (simp [*, errW_none, errW_some] <;> rfl), by repeat (first | (with_reducible first | exact HB.out | apply below_alloc | apply pw_below_drewN | apply below_drew1) | exact HB.out)⟩
  · rw [if_neg c2] at H
    have c2b0 : decide (5000 < (l0.length : Int)) = false := decide_eq_false c2
    have c2b1 : decide (5000 < l0.length) = false := decide_eq_false (by omega)
    clear c2
    replace H := Option.bind_eq_some_iff.mp H
    obtain ⟨⟨t193, t194, t195⟩, A50, H⟩ := H
    replace H : ((mutoscoperef04_All.f k (strOfNums l0)).bind fun bt198 => (if t195 = bt198.2.2 then (if t194 = bt198.2.1 then (mutoscopelaw04_RecAll.j0 k t193 bt198.1 ((t193.length : Int) != (bt198.1.length : Int))) else (mutoscopelaw04_RecAll.j0 k t193 bt198.1 true)) else (mutoscopelaw04_RecAll.j0 k t193 bt198.1 true))) = some r := H
    have A5 := Aside0.mk A50
    clear A50
    replace H := Option.bind_eq_some_iff.mp H
    obtain ⟨⟨t198, t199, t200⟩, A60, H⟩ := H
    replace H : (if t195 = t200 then (if t194 = t199 then (mutoscopelaw04_RecAll.j0 k t193 t198 ((t193.length : Int) != (t198.length : Int))) else (mutoscopelaw04_RecAll.j0 k t193 t198 true)) else (mutoscopelaw04_RecAll.j0 k t193 t198 true)) = some r := H
    have A6 := Aside0.mk A60
    clear A60
    have HC7 := Aside0.mk H
    clear H
    go_enter Try.func5, Try.ntmps5
    go_upto_region 5 with (first | ((with_reducible refine gate_callee (f := 21) rfl ?_); refine goesL_ (some 16) rfl rfl Try.func21 (by kernel_rfl) rfl #[.slice A0 l0.length c0] rfl (by (try simp only [List.map_toArray, List.map_cons, List.map_nil]); first | done | rfl | (simp only [List.length_drop, List.length_take]; rfl)) ?_; (with_reducible refine (rec_All.calls k _ _ l0 t193 t194 t195 _ ?side1 ?side2 A5.out).mono ?_); (case side1 => repeat (first | exact HR0.out | (with_reducible refine Kd.C_alloc ?_ _) | (with_reducible refine Kd.C_drewN ?_ _) | (with_reducible refine Kd.C_drew ?_))); (case side2 => exact HC0.out); rintro e w8 ⟨v196, rfl, ho0, hb⟩; refine ⟨_, rfl, ?_⟩; have n0_ := Aside0.mk (Kd.S_lower ho0 (below_size (by repeat (first | (with_reducible first | exact HB.out | apply below_alloc | apply pw_below_drewN | apply below_drew1) | exact HB.out)))); have n1_ := Aside0.mk (below_step (by repeat (first | (with_reducible first | exact HB.out | apply below_alloc | apply pw_below_drewN | apply below_drew1) | exact HB.out)) hb); clear HB; have HO197 := n0_; have HB := n1_; clear n0_ n1_; (try clear hb); (try clear hb2); (try clear hk); (try clear hi); (try clear ho0); have hcv9 := Kd.C_string (P := Try.prog) (A := A0) (c := c0) Try.underlying25 Try.underlying5 Try.underlying9 (Kd.C_below HR0.out HB.out)) | ((with_reducible refine gate_callee (f := 26) rfl ?_); refine goesL_ (some 23) rfl rfl Try.func26 (by kernel_rfl) rfl #[.string (strOfNums l0)] rfl (by (try simp only [List.map_toArray, List.map_cons, List.map_nil]); first | done | rfl | (simp only [List.length_drop, List.length_take]; rfl)) ?_; (with_reducible refine (mutoscoperef04_All.calls k (strOfNums l0) t198 t199 t200 _ A6.out).mono ?_); rintro e w10 ⟨v201, rfl, ho0, hb⟩; refine ⟨_, rfl, ?_⟩; have n0_ := Aside0.mk (Kd.S_below (by (with_reducible repeat (first | apply Kd.S_alloc | apply Kd.S_drewN | apply Kd.S_drew)); exact HO197.out) hb); have n1_ := Aside0.mk (Kd.R_lower ho0 (below_size (by repeat (first | (with_reducible first | exact HB.out | apply below_alloc | apply pw_below_drewN | apply below_drew1) | exact HB.out)))); have n2_ := Aside0.mk (below_step (by repeat (first | (with_reducible first | exact HB.out | apply below_alloc | apply pw_below_drewN | apply below_drew1) | exact HB.out)) hb); clear HO197; clear HB; have HO197 := n0_; have HO202 := n1_; have HB := n2_; clear n0_ n1_ n2_; (try clear hb); (try clear hb2); (try clear hk); (try clear hi); (try clear ho0)))
    (try simp only [Act.put, List.setIfInBounds_toArray, List.set_cons_zero, List.set_cons_succ])
    go_cut [41] (fun v41 wc => ∃ (kq : Nat) (x41_6 : Bool), v41 = .bool x41_6 ∧ Aside0 (mutoscopelaw04_RecAll.j0 kq t193 t198 x41_6 = some r) ∧ Aside0 (kq ≤ k) ∧ Aside0 (Kd.S k27 27 wc w.heap.size (fun _ => True) v196 t193) ∧ Aside0 (Kd.R k30 30 wc w.heap.size (fun _ => True) v201 t198) ∧ Aside0 (Below w.heap.size w wc))
    case first =>
      have H := HC7.out
      clear HC7
      by_cases c11 : t195 = t200
      · rw [if_pos c11] at H
        have c11b0 : (t195 == t200) = true := beq_iff_eq.mpr c11
        have c11b1 : (t195 != t200) = false := bne_eq_false_iff_eq.mpr c11
        clear c11
        (first | rw [c11b0] | (simp only [i64_w, i32_w]; rw [c11b0]) | skip)
        by_cases c12 : t194 = t199
        · rw [if_pos c12] at H
          have c12b0 : (t194 == t199) = true := beq_iff_eq.mpr c12
          have c12b1 : (t194 != t199) = false := bne_eq_false_iff_eq.mpr c12
          clear c12
          have H' := Aside0.mk H
          clear H
          obtain ⟨Ao13, co13, eo13⟩ := Kd.S_slice HO197.out
          subst eo13
          obtain ⟨Ao14, co14, eo14⟩ := Kd.R_slice HO202.out
          subst eo14
          go_wp2
          go_meet
          case rel => exact ⟨_, (((t193.length : Int) != (t198.length : Int))), (by first | rfl | (simp; done) | (simp [*]; done)), H', ⟨by first | omega | exact Nat.le_refl _⟩, ⟨by (with_reducible repeat (first | apply Kd.S_alloc | apply Kd.S_drewN | apply Kd.S_drew)); exact HO197.out⟩, ⟨by (with_reducible repeat (first | apply Kd.R_alloc | apply Kd.R_drewN | apply Kd.R_drew)); exact HO202.out⟩, ⟨by repeat (first | (with_reducible first | exact HB.out | apply below_alloc | apply pw_below_drewN | apply below_drew1) | exact HB.out)⟩⟩
        · rw [if_neg c12] at H
          have c12b0 : (t194 == t199) = false := beq_eq_false_iff_ne.mpr c12
          have c12b1 : (t194 != t199) = true := bne_iff_ne.mpr c12
          have H' := Aside0.mk H
          clear H
          go_wp2
          go_meet
          case rel => exact ⟨_, (true), (by first | rfl | (simp; done) | (simp [*]; done)), H', ⟨by first | omega | exact Nat.le_refl _⟩, ⟨by (with_reducible repeat (first | apply Kd.S_alloc | apply Kd.S_drewN | apply Kd.S_drew)); exact HO197.out⟩, ⟨by (with_reducible repeat (first | apply Kd.R_alloc | apply Kd.R_drewN | apply Kd.R_drew)); exact HO202.out⟩, ⟨by repeat (first | (with_reducible first | exact HB.out | apply below_alloc | apply pw_below_drewN | apply below_drew1) | exact HB.out)⟩⟩
      · rw [if_neg c11] at H
        have c11b0 : (t195 == t200) = false := beq_eq_false_iff_ne.mpr c11
        have c11b1 : (t195 != t200) = true := bne_iff_ne.mpr c11
        (first | rw [c11b0] | (simp only [i64_w, i32_w]; rw [c11b0]) | skip)
        have H' := Aside0.mk H
        clear H
        go_wp2
        go_meet
        case rel => exact ⟨_, (true), (by first | rfl | (simp; done) | (simp [*]; done)), H', ⟨by first | omega | exact Nat.le_refl _⟩, ⟨by (with_reducible repeat (first | apply Kd.S_alloc | apply Kd.S_drewN | apply Kd.S_drew)); exact HO197.out⟩, ⟨by (with_reducible repeat (first | apply Kd.R_alloc | apply Kd.R_drewN | apply Kd.R_drew)); exact HO202.out⟩, ⟨by repeat (first | (with_reducible first | exact HB.out | apply below_alloc | apply pw_below_drewN | apply below_drew1) | exact HB.out)⟩⟩
    case rest =>
      clear HC7
      try clear c1
      try clear c2
      try clear c2b0
      try clear c2b1
      try clear p2
      try clear c5
      try clear hcv9
      try clear c11
      try clear c11b0
      try clear c11b1
      try clear c12
      try clear c12b0
      try clear c12b1
      obtain ⟨kq, x41_6, rfl, HA, HJ6, HO_3, HO_6, HB⟩ := hcut
      cases kq with
      | zero => exact absurd HA.out (by simp [mutoscopelaw04_RecAll.j0])
      | succ kj6 =>
        have H := HA.out
        clear HA
        simp only [mutoscopelaw04_RecAll.j0] at H
        by_cases c15 : x41_6 = true
        · subst c15
          have H1 : (some false) = some r := by rw [if_pos rfl] at H; exact H
          clear H
          have H := H1
          clear H1
          exact absurd (Option.some.inj H) (by rw [HR.out]; decide)
        · replace c15 := Bool.eq_false_iff.mpr c15
          subst c15
          have H1 : (mutoscopelaw04_RecAll.l0 kj6 t193 t198 (t193.length : Int) 0) = some r := by rw [if_neg (show ¬ (false = true) by decide)] at H; exact H
          clear H
          have H := H1
          clear H1
          have H' := Aside0.mk H
          clear H
          obtain ⟨Ao16, co16, eo16⟩ := Kd.S_slice HO_3.out
          subst eo16
          go_wp2
          go_loopg [44] kj6 (fun kq v44 w' => ∃ (x44_2 : Int), v44 = .int .i64 x44_2 ∧ Aside0 (mutoscopelaw04_RecAll.l0 kq t193 t198 (t193.length : Int) x44_2 = some r) ∧ Aside0 (kq ≤ kj6) ∧ Aside0 (Kd.S k27 27 w' w.heap.size (fun _ => True) (.slice Ao16 t193.length co16) t193) ∧ Aside0 (Kd.R k30 30 w' w.heap.size (fun _ => True) v201 t198) ∧ Aside0 (Below w.heap.size w w'))
          case atStart => exact ⟨(0), (by first | rfl | (simp; done) | (simp [*]; done)), H', ⟨Nat.le_refl _⟩, ⟨by (with_reducible repeat (first | apply Kd.S_alloc | apply Kd.S_drewN | apply Kd.S_drew)); exact HO_3.out⟩, ⟨by (with_reducible repeat (first | apply Kd.R_alloc | apply Kd.R_drewN | apply Kd.R_drew)); exact HO_6.out⟩, ⟨by repeat (first | (with_reducible first | exact HB.out | apply below_alloc | apply pw_below_drewN | apply below_drew1) | exact HB.out)⟩⟩
          case round =>
            clear H'
            try clear c1
            try clear c2
            try clear c2b0
            try clear c2b1
            try clear p2
            try clear c5
            try clear hcv9
            try clear c11
            try clear c11b0
            try clear c11b1
            try clear c12
            try clear c12b0
            try clear c12b1
            try clear c15
            try clear c16
            try clear p2
            obtain ⟨x44_2, rfl, HA, HK2, HO_3, HO_6, HB⟩ := hrel
            cases gk with
            | zero => exact absurd HA.out (by simp [mutoscopelaw04_RecAll.l0])
            | succ k2 =>
              have H := HA.out
              clear HA
              simp only [mutoscopelaw04_RecAll.l0] at H
              by_cases c17 : x44_2 < (t193.length : Int)
              · rw [if_pos c17] at H
                have c17b0 : decide (x44_2 < (t193.length : Int)) = true := decide_eq_true c17
                clear c17
                by_cases c18 : 0 ≤ x44_2
                · rw [if_pos c18] at H
                  have c18b0 : decide (0 ≤ x44_2) = true := decide_eq_true c18
                  clear c18
                  by_cases c19 : x44_2 < (t193.length : Int)
                  · rw [if_pos c19] at H
                    have c19b0 : decide (x44_2 < (t193.length : Int)) = true := decide_eq_true c19
                    clear c19
                    replace H := Option.bind_eq_some_iff.mp H
                    obtain ⟨⟨t204, t205⟩, A200, H⟩ := H
                    replace H : (if x44_2 < (t198.length : Int) then (if (!(t204 == ((rd_T30 t198 x44_2).f0)) || (!(t205.toList == (((rd_T30 t198 x44_2).f1).toList)))) = true then (some false) else (mutoscopelaw04_RecAll.l0 k2 t193 t198 (t193.length : Int) (wrap64 (x44_2 + 1)))) else (none)) = some r := H
                    have A20 := Aside0.mk A200
                    clear A200
                    by_cases c21 : x44_2 < (t198.length : Int)
                    · rw [if_pos c21] at H
                      have c21b0 : decide (x44_2 < (t198.length : Int)) = true := decide_eq_true c21
                      clear c21
                      by_cases c22 : (!(t204 == ((rd_T30 t198 x44_2).f0)) || (!(t205.toList == (((rd_T30 t198 x44_2).f1).toList)))) = true
                      · rw [if_pos c22] at H
                        have c22b0 : (!(t204 == ((rd_T30 t198 x44_2).f0)) || (!(t205.toList == (((rd_T30 t198 x44_2).f1).toList)))) = true := c22
                        clear c22
                        exact absurd (Option.some.inj H) (by rw [HR.out]; decide)
                      · rw [if_neg c22] at H
                        have c22b0 : (!(t204 == ((rd_T30 t198 x44_2).f0)) || (!(t205.toList == (((rd_T30 t198 x44_2).f1).toList)))) = false := by simpa using c22
                        clear c22
                        have H' := Aside0.mk H
                        clear H
                        try go_wp2
                        have n0_ := Aside0.mk (Kd.S_drew HO_3.out)
                        have n1_ := Aside0.mk (Kd.R_drew HO_6.out)
                        have n2_ := Aside0.mk (below_drew1 HB.out)
                        clear HO_3
                        clear HO_6
                        clear HB
                        have HO_3 := n0_
                        have HO_6 := n1_
                        have HB := n2_
                        clear n0_ n1_ n2_
                        have p203 : 0 ≤ (x44_2 : Int) := of_decide_eq_true (by first | (with_reducible assumption) | assumption)
                        have q203 : x44_2 < (t193.length : Int) := of_decide_eq_true (by first | (with_reducible assumption) | assumption)
                        obtain ⟨ad203, A203_1, c203_1, e203, hx203_0, hx203_1, hl203_1, hi203_1⟩ := at_T27 (Kd.S_reads' HO_3.out).2.2 x44_2 p203 q203
                        cases e203
                        obtain ⟨ce203, hce203, hMe203, hcc203⟩ := Kd.S_get HO_3.out z27 x44_2 p203 (by first | exact q203 | exact of_decide_eq_true (by first | (with_reducible assumption) | assumption) | (have e_ := (Kd.S_reads' HO_3.out).1; omega))
                        obtain ⟨ve203_1, rfl, ge203_1⟩ := k27_openM hMe203
                        have hv203_1 := hcc203 1 _ rfl
                        rw [add_field _ _ 1 (by omega)] at hv203_1
                        replace hv203_1 := Option.some.inj (hv203_1.symm.trans hx203_1)
                        rw [hv203_1] at ge203_1
                        have HL203_1 := Aside0.mk (show Kd.R (Kd.int .u8) 5 _ _ _ _ ((rd_T27 t193 x44_2).f1) from ge203_1)
                        clear hv203_1 ge203_1
                        clear hcc203 hce203
                        have HR203_1 := Aside0.mk hi203_1
                        have HC203_1 := Aside0.mk hl203_1
                        clear hi203_1 hl203_1
                        replace p203 := eq_true p203
                        replace q203 := eq_true q203
                        obtain ⟨Ao27, co27, eo27⟩ := Kd.R_slice HO_6.out
                        (first | subst eo27 | (injection eo27 with f1_ f2_ f3_; have f4_ := f1_.symm; have f5_ := f3_.symm; clear f1_ f2_ f3_; subst f4_; subst f5_))
                        have p206 : 0 ≤ (x44_2 : Int) := of_decide_eq_true (by first | (with_reducible assumption) | assumption)
                        have q206 : x44_2 < (t198.length : Int) := of_decide_eq_true (by first | (with_reducible assumption) | assumption)
                        obtain ⟨ad206, e206, hx206_0, hx206_1⟩ := at_T30 (Kd.R_reads' HO_6.out).2.2 x44_2 p206 q206
                        cases e206
                        replace p206 := eq_true p206
                        replace q206 := eq_true q206
                        refine start_ (n := 10) (S := fun w' => w'.cell? (ad203.add ((x44_2).toNat * 2)) = some (.int .i64 ((rd_T27 t193 x44_2).f0)) ∧ w'.cell? ⟨(ad203.add ((x44_2).toNat * 2)).block, (ad203.add ((x44_2).toNat * 2)).off + 1, none⟩ = some (.slice A203_1 ((rd_T27 t193 x44_2).f1).length c203_1) ∧ w'.cell? (ad206.add ((x44_2).toNat * 2)) = some (.int .i64 ((rd_T30 t198 x44_2).f0)) ∧ w'.cell? ⟨(ad206.add ((x44_2).toNat * 2)).block, (ad206.add ((x44_2).toNat * 2)).off + 1, none⟩ = some (.string ((rd_T30 t198 x44_2).f1))) (ds := []) #[false, false, false, false, false, false, false, false, false, false] (by kernel_rfl) rfl rfl ⟨hx203_0, hx203_1, hx206_0, hx206_1⟩ (fun hHeld => ?_); refine with_tabW mutoscopelaw04_RecAll.tab10 mutoscopelaw04_RecAll.bits10 (fun HT_ HW_ => ?_)
                        generalize wr.drew = w26 at HO_3 HO_6 HB HL203_1 HR203_1 hx203_0 hx203_1 hx206_0 hx206_1 hHeld ⊢
                        refine pure_ (i := 0) (N := some 47) (v := ?_) (a' := ?_) #[true, false, false, false, false, false, false, false, false, false] rfl rfl (any_of HT_.out (by kernel_rfl)) (fun _ _ _ h => h) (Or.inl ⟨by rfl, ?_⟩) ?_ ?_
                        rotate_left
                        · intro w'
                          go_simp
                          with_reducible rfl
                        rotate_left
                        · simp only [Act.put, List.setIfInBounds_toArray, List.set_cons_zero, List.set_cons_succ, i64_w, i32_w]
                          rfl
                        refine pure_ (i := 1) (N := some 48) (v := ?_) (a' := ?_) #[true, true, false, false, false, false, false, false, false, false] rfl rfl (any_of HT_.out (by kernel_rfl)) (fun _ _ _ h => h) (Or.inl ⟨by rfl, ?_⟩) ?_ ?_
                        rotate_left
                        · intro w'
                          go_simp
                          with_reducible rfl
                        rotate_left
                        · simp only [Act.put, List.setIfInBounds_toArray, List.set_cons_zero, List.set_cons_succ, i64_w, i32_w]
                          rfl
                        refine pure_ (i := 2) (N := some 49) (v := ?_) (a' := ?_) #[true, true, true, false, false, false, false, false, false, false] rfl rfl (any_of HT_.out (by kernel_rfl)) (fun _ _ _ h => h) (Or.inl ⟨by rfl, ?_⟩) ?_ ?_
                        rotate_left
                        · intro w'
                          go_simp
                          with_reducible rfl
                        rotate_left
                        · simp only [Act.put, List.setIfInBounds_toArray, List.set_cons_zero, List.set_cons_succ, i64_w, i32_w]
                          rfl
                        refine pure_ (i := 5) (N := some 52) (v := ?_) (a' := ?_) #[true, true, true, false, false, true, false, false, false, false] rfl rfl (any_of HT_.out (by kernel_rfl)) (fun _ _ _ h => h) (Or.inl ⟨by rfl, ?_⟩) ?_ ?_
                        rotate_left
                        · intro w'
                          go_simp
                          with_reducible rfl
                        rotate_left
                        · simp only [Act.put, List.setIfInBounds_toArray, List.set_cons_zero, List.set_cons_succ, i64_w, i32_w]
                          rfl
                        refine pure_ (i := 6) (N := some 53) (v := ?_) (a' := ?_) #[true, true, true, false, false, true, true, false, false, false] rfl rfl (any_of HT_.out (by kernel_rfl)) (fun _ _ _ h => h) (Or.inl ⟨by rfl, ?_⟩) ?_ ?_
                        rotate_left
                        · intro w'
                          go_simp
                          with_reducible rfl
                        rotate_left
                        · simp only [Act.put, List.setIfInBounds_toArray, List.set_cons_zero, List.set_cons_succ, i64_w, i32_w]
                          rfl
                        refine pure_ (i := 7) (N := some 54) (v := ?_) (a' := ?_) #[true, true, true, false, false, true, true, true, false, false] rfl rfl (any_of HT_.out (by kernel_rfl)) (fun _ _ _ h => h) (Or.inl ⟨by rfl, ?_⟩) ?_ ?_
                        rotate_left
                        · intro w'
                          go_simp
                          with_reducible rfl
                        rotate_left
                        · simp only [Act.put, List.setIfInBounds_toArray, List.set_cons_zero, List.set_cons_succ, i64_w, i32_w]
                          rfl
                        refine take_ (i := 3) (N := some 50) (v := ?_) (a' := ?_) #[true, true, true, true, false, true, true, true, false, false] rfl rfl (take_ofW HT_.out HW_.out (by kernel_rfl)) (fun _ _ _ h => h) (Or.inl ⟨by rfl, ?_⟩) hHeld ?_ ?_
                        rotate_left
                        · rintro w' ⟨s0, s1, s2, s3⟩
                          go_simp
                          with_reducible rfl
                        rotate_left
                        · simp only [Act.put, List.setIfInBounds_toArray, List.set_cons_zero, List.set_cons_succ, i64_w, i32_w]
                          rfl
                        refine take_ (i := 8) (N := some 55) (v := ?_) (a' := ?_) #[true, true, true, true, false, true, true, true, true, false] rfl rfl (take_ofW HT_.out HW_.out (by kernel_rfl)) (fun _ _ _ h => h) (Or.inl ⟨by rfl, ?_⟩) hHeld ?_ ?_
                        rotate_left
                        · rintro w' ⟨s0, s1, s2, s3⟩
                          go_simp
                          with_reducible rfl
                        rotate_left
                        · simp only [Act.put, List.setIfInBounds_toArray, List.set_cons_zero, List.set_cons_succ, i64_w, i32_w]
                          rfl
                        refine one_ (i := 4) (N := some 51) #[true, true, true, true, true, true, true, true, true, false] rfl rfl (one_of HT_.out (by kernel_rfl)) (by decide) (fun K hK => ?_)
                        refine goes_ Try.func18 (by kernel_rfl) rfl #[.agg #[.int .i64 ((rd_T27 t193 x44_2).f0), .slice A203_1 ((rd_T27 t193 x44_2).f1).length c203_1]] (by rfl) rfl rfl (by (try simp only [List.map_toArray, List.map_cons, List.map_nil]); first | done | rfl | (simp only [List.length_drop, List.length_take]; rfl)) ?_
                        with_reducible refine (mutoscopelaw04_ref.calls ((rd_T27 t193 x44_2).f0) _ _ ((rd_T27 t193 x44_2).f1) t204 t205 _ ?side1 ?side2 A20.out).mono ?_
                        (case side1 => repeat (first | exact (by repeat (first | (with_reducible exact HR203_1.out) | (with_reducible refine Kd.C_alloc ?_ _) | (with_reducible refine Kd.C_drewN ?_ _) | (with_reducible refine Kd.C_drew ?_) | exact HR203_1.out)) | (with_reducible refine Kd.C_alloc ?_ _) | (with_reducible refine Kd.C_drewN ?_ _) | (with_reducible refine Kd.C_drew ?_)))
                        (case side2 => exact HC203_1.out)
                        rintro e w28 ⟨rfl, hb⟩
                        have HS0_ := (hb.cell (World.block_lt_of_cell? _ _ (hHeld.1))).trans (hHeld.1)
                        have HS1_ := (hb.cell (World.block_lt_of_cell? _ _ (hHeld.2.1))).trans (hHeld.2.1)
                        have HS2_ := (hb.cell (World.block_lt_of_cell? _ _ (hHeld.2.2.1))).trans (hHeld.2.2.1)
                        have HS3_ := (hb.cell (World.block_lt_of_cell? _ _ (hHeld.2.2.2))).trans (hHeld.2.2.2)
                        refine ⟨_, rfl, ?_⟩
                        have n0_ := Aside0.mk (Kd.S_below (by (with_reducible repeat (first | apply Kd.S_alloc | apply Kd.S_drewN | apply Kd.S_drew)); exact HO_3.out) hb)
                        have n1_ := Aside0.mk (Kd.R_below (by (with_reducible repeat (first | apply Kd.R_alloc | apply Kd.R_drewN | apply Kd.R_drew)); exact HO_6.out) hb)
                        have n2_ := Aside0.mk (Kd.R_below (by (with_reducible repeat (first | apply Kd.R_alloc | apply Kd.R_drewN | apply Kd.R_drew)); exact HL203_1.out) hb)
                        have n3_ := Aside0.mk (Kd.C_below (by repeat (first | (with_reducible exact HR203_1.out) | (with_reducible refine Kd.C_alloc ?_ _) | (with_reducible refine Kd.C_drewN ?_ _) | (with_reducible refine Kd.C_drew ?_) | exact HR203_1.out)) hb)
                        have n4_ := Aside0.mk (below_step (by repeat (first | (with_reducible first | exact HB.out | apply below_alloc | apply pw_below_drewN | apply below_drew1) | exact HB.out)) hb)
                        clear HO_3
                        clear HO_6
                        clear HL203_1
                        clear HR203_1
                        clear HB
                        have HO_3 := n0_
                        have HO_6 := n1_
                        have HL203_1 := n2_
                        have HR203_1 := n3_
                        have HB := n4_
                        clear n0_ n1_ n2_ n3_ n4_
                        (try clear hb)
                        (try clear hb2)
                        (try clear hk)
                        (try clear hi)
                        refine hK.out _ _ ⟨HS0_, HS1_, HS2_, HS3_⟩ (fun hHeld => ?_)
                        clear hK K
                        refine norm_ (a' := ?_) ?_ ?_
                        rotate_left
                        · show Act.put _ (some 51) _ = _
                          simp only [Act.put, List.setIfInBounds_toArray, List.set_cons_zero, List.set_cons_succ, i64_w, i32_w]
                          rfl
                        refine pure_ (i := 9) (N := some 56) (v := ?_) (a' := ?_) #[true, true, true, true, true, true, true, true, true, true] rfl rfl (any_of HT_.out (by kernel_rfl)) (fun _ _ _ h => h) (Or.inl ⟨by rfl, ?_⟩) ?_ ?_
                        rotate_left
                        · intro w'
                          go_simp
                          with_reducible rfl
                        rotate_left
                        · simp only [Act.put, List.setIfInBounds_toArray, List.set_cons_zero, List.set_cons_succ, i64_w, i32_w]
                          rfl
                        refine done_ (done_of HT_.out (by kernel_rfl)) ?_
                        try go_wp2
                        go_roundg k2
                        case measure => have := HJ6.out; have := HK2.out; omega
                        case rel => exact ⟨(wrap64 (x44_2 + 1)), (by first | rfl | (simp; done) | (simp [*]; done)), H', ⟨by have := HJ6.out; have := HK2.out; omega⟩, ⟨by (with_reducible repeat (first | apply Kd.S_alloc | apply Kd.S_drewN | apply Kd.S_drew)); exact HO_3.out⟩, ⟨by (with_reducible repeat (first | apply Kd.R_alloc | apply Kd.R_drewN | apply Kd.R_drew)); exact HO_6.out⟩, ⟨by repeat (first | (with_reducible first | exact HB.out | apply below_alloc | apply pw_below_drewN | apply below_drew1) | exact HB.out)⟩⟩
                    · rw [if_neg c21] at H
                      exact absurd H (by simp)
                  · rw [if_neg c19] at H
                    exact absurd H (by simp)
                · rw [if_neg c18] at H
                  exact absurd H (by simp)
              · rw [if_neg c17] at H
                have c17b0 : decide (x44_2 < (t193.length : Int)) = false := decide_eq_false c17
                clear c17
                replace H := Option.bind_eq_some_iff.mp H
                obtain ⟨t207, A290, H⟩ := H
                replace H : (some t207) = some r := H
                have A29 := Aside0.mk A290
                clear A290
                obtain rfl := Option.some.inj H
                go_wp2_with (first | ((with_reducible refine gate_callee (f := 16) rfl ?_); refine goesL_ (some 58) rfl rfl Try.func16 (by kernel_rfl) rfl #[] rfl (by (try simp only [List.map_toArray, List.map_cons, List.map_nil]); first | done | rfl | (simp only [List.length_drop, List.length_take]; rfl)) ?_; (with_reducible refine (mutoscopelaw04_awake.calls k2  t207 _ A29.out).mono ?_); rintro e w30 ⟨rfl, hb⟩; refine ⟨_, rfl, ?_⟩; have n0_ := Aside0.mk (Kd.S_below (by (with_reducible repeat (first | apply Kd.S_alloc | apply Kd.S_drewN | apply Kd.S_drew)); exact HO_3.out) hb); have n1_ := Aside0.mk (Kd.R_below (by (with_reducible repeat (first | apply Kd.R_alloc | apply Kd.R_drewN | apply Kd.R_drew)); exact HO_6.out) hb); have n2_ := Aside0.mk (below_step (by repeat (first | (with_reducible first | exact HB.out | apply below_alloc | apply pw_below_drewN | apply below_drew1) | exact HB.out)) hb); clear HO_3; clear HO_6; clear HB; have HO_3 := n0_; have HO_6 := n1_; have HB := n2_; clear n0_ n1_ n2_; (try clear hb); (try clear hb2); (try clear hk); (try clear hi)))
                go_ret
                exact ⟨by first | rfl | (simp [errW_none, errW_some] <;> rfl) | (simp [*, errW_none, errW_some] <;> rfl), by repeat (first | (with_reducible first | exact HB.out | apply below_alloc | apply pw_below_drewN | apply below_drew1) | exact HB.out)⟩


end Go.Proofs.Ytcpakbppnkknlaa.QRecAll
