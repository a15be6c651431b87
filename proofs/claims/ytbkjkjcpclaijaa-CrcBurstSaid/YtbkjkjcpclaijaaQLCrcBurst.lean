-- Written for this claim by a program of this session (wip/tools/mprint.sh)
import Derived.Test.YtbkjkjcpclaijaaQCrcB
namespace Go.Proofs.Ytbkjkjcpclaijaa.QCrc
open Go.RowKit Go.Proofs.YtbkjkjcpclaijaaW.PrintWords Go.Proofs.YtbkjkjcpclaijaaW.PrintLast Go.Proofs.YtbkjkjcpclaijaaW.PrintMore
attribute [local go_sem] max2_int min2_int max_two min_two max_three min_three max_four min_four   -- for this text's walks alone
set_option linter.unusedVariables false
set_option linter.unusedSimpArgs false

/-! ### mutoscopelaw01_CrcBurst: function 5 -/
mutual
def mutoscopelaw01_CrcBurst.j0 : Nat → List Int → Int → Int → Bool → Option (Bool)
  | 0, _, _, _, _ => none
  | k + 1, x0, x1, x2, x28 => if x28 = true then ((mutoscopelaw01_awake.f k).bind fun t123 => (some t123)) else ((some (([] : List Int) : List Int)).bind fun y124 => (if y124.length + x0.length < 140737488355328 then (mutoscopelaw01_CrcBurst.l0 k x0 x1 x2 (y124 ++ x0) false 0) else (none)))
def mutoscopelaw01_CrcBurst.l0 : Nat → List Int → Int → Int → List Int → Bool → Int → Option (Bool)
  | 0, _, _, _, _, _, _ => none
  | k + 1, x0, x1, x2, x7, x8, x33 => if x33 < 32 then (if 0 ≤ x33 then (if (Go.bits .and .u32 (shr .u32 x2 x33) 1) = 1 then (if (wrap64 (x1 + x33)) < (wrap64 (8 * (x0.length : Int))) then (if 0 ≤ (wrap64 (Int.tdiv (wrap64 (x1 + x33)) 8)) then (if (wrap64 (Int.tdiv (wrap64 (x1 + x33)) 8)) < (x7.length : Int) then (if 0 ≤ (Int.tmod (wrap64 (x1 + x33)) 8) then (mutoscopelaw01_CrcBurst.l0 k x0 x1 x2 (x7.set ((wrap64 (Int.tdiv (wrap64 (x1 + x33)) 8)) : Int).toNat (Go.bits .xor .u8 (rd x7 (wrap64 (Int.tdiv (wrap64 (x1 + x33)) 8))) (shl .u8 1 (Int.tmod (wrap64 (x1 + x33)) 8)))) true (wrap64 (x33 + 1))) else (none)) else (none)) else (none)) else (mutoscopelaw01_CrcBurst.l0 k x0 x1 x2 x7 x8 (wrap64 (x33 + 1)))) else (mutoscopelaw01_CrcBurst.l0 k x0 x1 x2 x7 x8 (wrap64 (x33 + 1)))) else (none)) else ((crc_Sum.f k (([x0] : List (List Int)))).bind fun t135 => ((crc_Sum.f k (([x7] : List (List Int)))).bind fun t139 => (if ((t135 == t139) != x8) = true then ((mutoscopelaw01_awake.f k).bind fun t140 => (some t140)) else (some false))))
end
def mutoscopelaw01_CrcBurst.f (k : Nat) (l0 : List Int) (a1 : Int) (a2 : Int) : Option (Bool) := if (l0.length : Int) > 2000 then (mutoscopelaw01_CrcBurst.j0 k l0 a1 a2 true) else (if a1 < 0 then (mutoscopelaw01_CrcBurst.j0 k l0 a1 a2 true) else (if a1 ≥ (wrap64 (8 * (l0.length : Int))) then (mutoscopelaw01_CrcBurst.j0 k l0 a1 a2 true) else (mutoscopelaw01_CrcBurst.j0 k l0 a1 a2 (a2 == 0))))
theorem mutoscopelaw01_CrcBurst.mono_l : ∀ k, (∀ y0 y1 y2 y3, LeO (mutoscopelaw01_CrcBurst.j0 k y0 y1 y2 y3) (mutoscopelaw01_CrcBurst.j0 (k + 1) y0 y1 y2 y3)) ∧ (∀ y0 y1 y2 y3 y4 y5, LeO (mutoscopelaw01_CrcBurst.l0 k y0 y1 y2 y3 y4 y5) (mutoscopelaw01_CrcBurst.l0 (k + 1) y0 y1 y2 y3 y4 y5))
  | 0 => ⟨fun _ _ _ _ r h => by simp [mutoscopelaw01_CrcBurst.j0] at h, fun _ _ _ _ _ _ r h => by simp [mutoscopelaw01_CrcBurst.l0] at h⟩
  | k + 1 => by
    obtain ⟨ih0, ih1⟩ := mutoscopelaw01_CrcBurst.mono_l k
    refine ⟨?_, ?_⟩
    · intro y0 y1 y2 y3
      unfold mutoscopelaw01_CrcBurst.j0
      repeat' first
      | (with_reducible exact ih0 _ _ _ _)
      | (with_reducible exact ih1 _ _ _ _ _ _)
      | (with_reducible exact crc_Sum.mono _ _)
      | (with_reducible exact mutoscopelaw01_awake.mono _)
      | (with_reducible exact LeO.refl _)
      | (with_reducible exact LeO.none _)
      | (with_reducible refine LeO.ite ?_ ?_)
      | (with_reducible refine LeO.bind ?_ (fun _ => ?_))
      | exact ih0 _ _ _ _
      | exact ih1 _ _ _ _ _ _
      | exact crc_Sum.mono _ _
      | exact mutoscopelaw01_awake.mono _
      | exact LeO.none _
      | refine LeO.ite ?_ ?_
      | refine LeO.bind ?_ (fun _ => ?_)
    · intro y0 y1 y2 y3 y4 y5
      unfold mutoscopelaw01_CrcBurst.l0
      repeat' first
      | (with_reducible exact ih0 _ _ _ _)
      | (with_reducible exact ih1 _ _ _ _ _ _)
      | (with_reducible exact crc_Sum.mono _ _)
      | (with_reducible exact mutoscopelaw01_awake.mono _)
      | (with_reducible exact LeO.refl _)
      | (with_reducible exact LeO.none _)
      | (with_reducible refine LeO.ite ?_ ?_)
      | (with_reducible refine LeO.bind ?_ (fun _ => ?_))
      | exact ih0 _ _ _ _
      | exact ih1 _ _ _ _ _ _
      | exact crc_Sum.mono _ _
      | exact mutoscopelaw01_awake.mono _
      | exact LeO.none _
      | refine LeO.ite ?_ ?_
      | refine LeO.bind ?_ (fun _ => ?_)
theorem mutoscopelaw01_CrcBurst.mono : ∀ a0 a1 a2 k, LeO (mutoscopelaw01_CrcBurst.f k a0 a1 a2) (mutoscopelaw01_CrcBurst.f (k + 1) a0 a1 a2) := by
  intro a0 a1 a2 k
  obtain ⟨ih0, ih1⟩ := mutoscopelaw01_CrcBurst.mono_l k
  unfold mutoscopelaw01_CrcBurst.f
  repeat' first
      | (with_reducible exact ih0 _ _ _ _)
      | (with_reducible exact ih1 _ _ _ _ _ _)
      | (with_reducible exact crc_Sum.mono _ _)
      | (with_reducible exact mutoscopelaw01_awake.mono _)
      | (with_reducible exact LeO.refl _)
      | (with_reducible exact LeO.none _)
      | (with_reducible refine LeO.ite ?_ ?_)
      | (with_reducible refine LeO.bind ?_ (fun _ => ?_))
      | exact ih0 _ _ _ _
      | exact ih1 _ _ _ _ _ _
      | exact crc_Sum.mono _ _
      | exact mutoscopelaw01_awake.mono _
      | exact LeO.none _
      | refine LeO.ite ?_ ?_
      | refine LeO.bind ?_ (fun _ => ?_)
def mutoscopelaw01_CrcBurst.T10 : Bool × List (List Nat × List Nat) := (true, [([], []), ([], []), ([1], [1]), ([0, 2], [0, 2]), ([3], [3]), ([], []), ([5], [5]), ([6], [6]), ([4, 7], [4, 7]), ([0, 2, 0, 1, 2, 3, 4, 5, 6, 7, 8], [0, 2]), ([9, 8, 0, 1, 2, 3, 4, 5, 6, 7, 8], [8, 9])])
def mutoscopelaw01_CrcBurst.B10 : List Nat := [0, 0, 2, 7, 15, 0, 32, 96, 255, 511, 1023]
theorem mutoscopelaw01_CrcBurst.tab10 : rtab .any (opsOf Try.f5 10) = mutoscopelaw01_CrcBurst.T10 := by kernel_rfl
theorem mutoscopelaw01_CrcBurst.bits10 : waitsOk mutoscopelaw01_CrcBurst.T10.2 mutoscopelaw01_CrcBurst.B10 = true := by kernel_rfl
set_option maxHeartbeats 8000000 in
set_option maxRecDepth 100000 in
theorem mutoscopelaw01_CrcBurst.calls (k : Nat) (P0_ : Nat → Prop) (A0 : Option Addr) (c0 : Nat) (l0 : List Int) (a1 : Int) (a2 : Int) (r : Bool) (w : World) (hs0 : Kd.V (Kd.int .u8) 5 w w.heap.size (fun k_ => P0_ k_) (.slice A0 l0.length c0) l0) (h : mutoscopelaw01_CrcBurst.f k l0 a1 a2 = some r) :
    Calls Try.prog 5 #[.slice A0 l0.length c0, .int .i64 a1, .int .u32 a2] w fun e w' => e = .returned (.bool r) ∧ Below w.heap.size w w' := by
  have HO0 := Aside0.mk (show Kd.V (Kd.int .u8) 5 w w.heap.size (fun k_ => (P0_ k_ ∨ w.heap.size ≤ k_)) (.slice A0 l0.length c0) l0 from Kd.V_mono hs0 (fun k_ hk => .inl hk))
  have HB := Aside0.mk (Below.refl w.heap.size w)
  have H : (if (l0.length : Int) > 2000 then (mutoscopelaw01_CrcBurst.j0 k l0 a1 a2 true) else (if a1 < 0 then (mutoscopelaw01_CrcBurst.j0 k l0 a1 a2 true) else (if a1 ≥ (wrap64 (8 * (l0.length : Int))) then (mutoscopelaw01_CrcBurst.j0 k l0 a1 a2 true) else (mutoscopelaw01_CrcBurst.j0 k l0 a1 a2 (a2 == 0))))) = some r := h
  clear h
  have HC4 := Aside0.mk H
  clear H
  go_enter Try.func5, Try.ntmps5
  go_upto_region 1 with (fail)
  go_cut [28] (fun v28 wc => ∃ (kq : Nat) (x28_3 : Bool), v28 = .bool x28_3 ∧ Aside0 (mutoscopelaw01_CrcBurst.j0 kq l0 a1 a2 x28_3 = some r) ∧ Aside0 (kq ≤ k) ∧ Aside0 (Kd.V (Kd.int .u8) 5 wc w.heap.size (fun k_ => (P0_ k_ ∨ w.heap.size ≤ k_)) (.slice A0 l0.length c0) l0) ∧ Aside0 (Below w.heap.size w wc))
  case first =>
    have H := HC4.out
    clear HC4
    by_cases c5 : (l0.length : Int) > 2000
    · rw [if_pos c5] at H
      have c5b0 : decide (2000 < (l0.length : Int)) = true := decide_eq_true c5
      have c5b1 : decide (2000 < l0.length) = true := decide_eq_true (by omega)
      clear c5
      (first | rw [c5b0] | (simp only [i64_w, i32_w]; rw [c5b0]) | skip)
      have H' := Aside0.mk H
      clear H
      go_wp2
      go_meet
      case rel => exact ⟨_, (true), (by first | rfl | (simp; done) | (simp [*]; done)), H', ⟨by first | omega | exact Nat.le_refl _⟩, ⟨by (with_reducible repeat (first | apply Kd.V_alloc | apply Kd.V_drewN | apply Kd.V_drew)); exact HO0.out⟩, ⟨by repeat (first | (with_reducible first | exact HB.out | apply below_alloc | apply pw_below_drewN | apply below_drew1) | exact HB.out)⟩⟩
    · rw [if_neg c5] at H
      have c5b0 : decide (2000 < (l0.length : Int)) = false := decide_eq_false c5
      have c5b1 : decide (2000 < l0.length) = false := decide_eq_false (by omega)
      clear c5
      (first | rw [c5b0] | (simp only [i64_w, i32_w]; rw [c5b0]) | skip)
      by_cases c6 : a1 < 0
      · rw [if_pos c6] at H
        have c6b0 : decide (a1 < 0) = true := decide_eq_true c6
        clear c6
        have H' := Aside0.mk H
        clear H
        go_wp2
        go_meet
        case rel => exact ⟨_, (true), (by first | rfl | (simp; done) | (simp [*]; done)), H', ⟨by first | omega | exact Nat.le_refl _⟩, ⟨by (with_reducible repeat (first | apply Kd.V_alloc | apply Kd.V_drewN | apply Kd.V_drew)); exact HO0.out⟩, ⟨by repeat (first | (with_reducible first | exact HB.out | apply below_alloc | apply pw_below_drewN | apply below_drew1) | exact HB.out)⟩⟩
      · rw [if_neg c6] at H
        have c6b0 : decide (a1 < 0) = false := decide_eq_false c6
        clear c6
        by_cases c7 : a1 ≥ (wrap64 (8 * (l0.length : Int)))
        · rw [if_pos c7] at H
          have c7b0 : decide ((wrap64 (8 * (l0.length : Int))) ≤ a1) = true := decide_eq_true c7
          clear c7
          have H' := Aside0.mk H
          clear H
          go_wp2
          go_meet
          case rel => exact ⟨_, (true), (by first | rfl | (simp; done) | (simp [*]; done)), H', ⟨by first | omega | exact Nat.le_refl _⟩, ⟨by (with_reducible repeat (first | apply Kd.V_alloc | apply Kd.V_drewN | apply Kd.V_drew)); exact HO0.out⟩, ⟨by repeat (first | (with_reducible first | exact HB.out | apply below_alloc | apply pw_below_drewN | apply below_drew1) | exact HB.out)⟩⟩
        · rw [if_neg c7] at H
          have c7b0 : decide ((wrap64 (8 * (l0.length : Int))) ≤ a1) = false := decide_eq_false c7
          clear c7
          have H' := Aside0.mk H
          clear H
          go_wp2
          go_meet
          case rel => exact ⟨_, ((a2 == 0)), (by first | rfl | (simp; done) | (simp [*]; done)), H', ⟨by first | omega | exact Nat.le_refl _⟩, ⟨by (with_reducible repeat (first | apply Kd.V_alloc | apply Kd.V_drewN | apply Kd.V_drew)); exact HO0.out⟩, ⟨by repeat (first | (with_reducible first | exact HB.out | apply below_alloc | apply pw_below_drewN | apply below_drew1) | exact HB.out)⟩⟩
  case rest =>
    clear HC4
    try clear p2
    try clear c5
    try clear c5b0
    try clear c5b1
    try clear c6
    try clear c6b0
    try clear p6
    try clear c7
    try clear c7b0
    obtain ⟨kq, x28_3, rfl, HA, HJ3, HO_0, HB⟩ := hcut
    cases kq with
    | zero => exact absurd HA.out (by simp [mutoscopelaw01_CrcBurst.j0])
    | succ kj3 =>
      have H := HA.out
      clear HA
      simp only [mutoscopelaw01_CrcBurst.j0] at H
      by_cases c8 : x28_3 = true
      · subst c8
        have H1 : ((mutoscopelaw01_awake.f kj3).bind fun t123 => (some t123)) = some r := by rw [if_pos rfl] at H; exact H
        clear H
        have H := H1
        clear H1
        replace H := Option.bind_eq_some_iff.mp H
        obtain ⟨t123, A90, H⟩ := H
        replace H : (some t123) = some r := H
        have A9 := Aside0.mk A90
        clear A90
        obtain rfl := Option.some.inj H
        go_wp2_with (first | ((with_reducible refine gate_callee (f := 15) rfl ?_); refine goesL_ (some 29) rfl rfl Try.func15 (by kernel_rfl) rfl #[] rfl (by (try simp only [List.map_toArray, List.map_cons, List.map_nil]); first | done | rfl | (simp only [List.length_drop, List.length_take]; rfl)) ?_; (with_reducible refine (mutoscopelaw01_awake.calls kj3  t123 _ A9.out).mono ?_); rintro e w10 ⟨rfl, hb⟩; refine ⟨_, rfl, ?_⟩; have n0_ := Aside0.mk (Kd.V_below (by (with_reducible repeat (first | apply Kd.V_alloc | apply Kd.V_drewN | apply Kd.V_drew)); exact HO_0.out) hb); have n1_ := Aside0.mk (below_step (by repeat (first | (with_reducible first | exact HB.out | apply below_alloc | apply pw_below_drewN | apply below_drew1) | exact HB.out)) hb); clear HO_0; clear HB; have HO_0 := n0_; have HB := n1_; clear n0_ n1_; (try clear hb); (try clear hb2); (try clear hk); (try clear hi)))
        go_ret
        exact ⟨by first | rfl | (simp [errW_none, errW_some] <;> rfl) | (simp [*, errW_none, errW_some] <;> rfl), by repeat (first | (with_reducible first | exact HB.out | apply below_alloc | apply pw_below_drewN | apply below_drew1) | exact HB.out)⟩
      · replace c8 := Bool.eq_false_iff.mpr c8
        subst c8
        have H1 : ((some (([] : List Int) : List Int)).bind fun y124 => (if y124.length + l0.length < 140737488355328 then (mutoscopelaw01_CrcBurst.l0 kj3 l0 a1 a2 (y124 ++ l0) false 0) else (none))) = some r := by rw [if_neg (show ¬ (false = true) by decide)] at H; exact H
        clear H
        have H := H1
        clear H1
        obtain ⟨y124, hy124⟩ : ∃ y_ : List Int, y_ = (([] : List Int)) := ⟨_, rfl⟩
        replace H : (if y124.length + l0.length < 140737488355328 then (mutoscopelaw01_CrcBurst.l0 kj3 l0 a1 a2 (y124 ++ l0) false 0) else (none)) = some r := by first | (rw [hy124]; with_reducible exact H) | (have H2_ := (Option.bind_some _ _).symm.trans H; rw [hy124]; with_reducible exact H2_) | (have H2_ := (Option.bind_some _ _).symm.trans H; with_reducible exact H2_) | with_reducible exact H | (rw [hy124]; exact H) | exact H
        have Ny124 := Aside0.mk hy124
        clear hy124
        by_cases c11 : y124.length + l0.length < 140737488355328
        · rw [if_pos c11] at H
          have LMc11 := Aside0.mk c11
          clear c11
          obtain ⟨y127, hy127⟩ : ∃ y_ : List Int, y_ = (y124 ++ l0) := ⟨_, rfl⟩
          replace H : (mutoscopelaw01_CrcBurst.l0 kj3 l0 a1 a2 y127 false 0) = some r := by first | (rw [hy127]; with_reducible exact H) | (have H2_ := (Option.bind_some _ _).symm.trans H; rw [hy127]; with_reducible exact H2_) | (have H2_ := (Option.bind_some _ _).symm.trans H; with_reducible exact H2_) | with_reducible exact H | (rw [hy127]; exact H) | exact H
          have Ny127 := Aside0.mk hy127
          clear hy127
          have H' := Aside0.mk H
          clear H
          go_wp2_with (first | ((with_reducible refine gate_dst (N := 30) rfl ?_); (try (refine gate_guard (by rfl) ?_; dsimp only)); refine Kd.R_lit (Kd.int .u8) _ 5 ?hg (N := 30) ?hd (xs := ([] : List Int)) (inner := []) (ok := fun _ => True) (okp := fun _ => True) ?hr ?hp (fun _ hk => hk) trivial (Below.refl _ _) (Nat.le_refl _) (by simp) ?_; (case hd => rfl); (case hg => rfl); (case hr => first | (go_simp; done) | (go_simp; rfl)); (case hp => exact (Reps.none _ _)); intro v125 w12 ho13 hb hg_ hnew_; clear hg_ hnew_; (first | rw [← Ny124.out] at ho13 | (simp only [Int.reduceToNat] at ho13; rw [← Ny124.out] at ho13)); have n0_ := Aside0.mk (Kd.V_elder' (by (with_reducible repeat (first | apply Kd.V_alloc | apply Kd.V_drewN | apply Kd.V_drew)); exact HO_0.out) (Kd.R_base ho13) hb); have n1_ := Aside0.mk (Kd.R_lower (Kd.R_newM (M := fun k_ => (w.heap.size ≤ k_)) ho13 (below_size (by repeat (first | (with_reducible first | exact HB.out | apply below_alloc | apply pw_below_drewN | apply below_drew1) | exact HB.out))) (fun k_ h_ => h_)) (below_size (by repeat (first | (with_reducible first | exact HB.out | apply below_alloc | apply pw_below_drewN | apply below_drew1) | exact HB.out)))); have n2_ := Aside0.mk (below_step (by repeat (first | (with_reducible first | exact HB.out | apply below_alloc | apply pw_below_drewN | apply below_drew1) | exact HB.out)) hb); clear HO_0; clear HB; have HO_0 := n0_; have HO126 := n1_; have HB := n2_; clear n0_ n1_ n2_; clear hb ho13) | ((with_reducible refine gate_builtin (b := .append) (xs := #[.tmp 30, .tmp 31]) rfl ?_); (try (refine gate_guard (by rfl) ?_; dsimp only)); at_builtin; refine Kd.R_append_rows (Kd.int .u8) (w0 := w) w.heap.size rfl (.tmp 30) (.tmp 31) 22 5 (.int .u8 0) 1 rfl Try.underlying22 info5 rfl (by decide) (by omega) v125 y124 l0 _ _ _ (fun k_ => (w.heap.size ≤ k_)) (fun _ => False) rfl rfl ?aO ?aR (fun _ _ h => h) (fun _ h => h.elim) ?aF ?aB ?aS ?aL ?_; (case aR => repeat (first | exact (Kd.V_reads' HO_0.out).2.2 | (with_reducible refine Kd.C_alloc ?_ _) | (with_reducible refine Kd.C_drewN ?_ _) | (with_reducible refine Kd.C_drew ?_))); (case aB => exact (by repeat (first | (with_reducible first | exact HB.out | apply below_alloc | apply pw_below_drewN | apply below_drew1) | exact HB.out))); (case aF => exact (fun k_ hk => (Nat.le_trans (below_size (by repeat (first | (with_reducible first | exact HB.out | apply below_alloc | apply pw_below_drewN | apply below_drew1) | exact HB.out))) hk))); (case aO => exact (by (with_reducible repeat (first | apply Kd.R_alloc | apply Kd.R_drewN | apply Kd.R_drew)); exact Kd.R_mono HO126.out (fun _ hk => hk.1))); (case aS => exact (below_size (by repeat (first | (with_reducible first | exact HB.out | apply below_alloc | apply pw_below_drewN | apply below_drew1) | exact HB.out)))); (case aL => have := LMc11.out; omega); intro v128 w14 ho hb hg hat; rw [← Ny127.out] at ho; have n0_ := Aside0.mk (Kd.V_afterv (ok := (fun k_ => (P0_ k_ ∨ w.heap.size ≤ k_))) (by (with_reducible repeat (first | apply Kd.V_alloc | apply Kd.V_drewN | apply Kd.V_drew)); exact HO_0.out) hg hat); have n1_ := Aside0.mk (hb); have n2_ := Aside0.mk (ho); clear HO_0; clear HB; clear HO126; have HO_0 := n0_; have HB := n1_; have HO129 := n2_; clear n0_ n1_ n2_; clear ho hb hg hat))
          go_loopg [8, 33] kj3 (fun kq v8 v33 w' => ∃ (x7_2 : List Int) (x8_2 : Bool) (x33_2 : Int), v8 = .bool x8_2 ∧ v33 = .int .i64 x33_2 ∧ Aside0 (mutoscopelaw01_CrcBurst.l0 kq l0 a1 a2 x7_2 x8_2 x33_2 = some r) ∧ Aside0 (kq ≤ kj3) ∧ Aside0 (Kd.V (Kd.int .u8) 5 w' w.heap.size (fun k_ => (P0_ k_ ∨ w.heap.size ≤ k_) ∧ some k_ ≠ (v128 : Value).ownBlock) (.slice A0 l0.length c0) l0) ∧ Aside0 (Kd.R (Kd.int .u8) 5 w' w.heap.size (fun k_ => (w.heap.size ≤ k_)) v128 x7_2) ∧ Aside0 (Below w.heap.size w w'))
          case atStart => exact ⟨(y127), (false), (0), (by first | rfl | (simp; done) | (simp [*]; done)), (by first | rfl | (simp; done) | (simp [*]; done)), H', ⟨Nat.le_refl _⟩, ⟨by (with_reducible repeat (first | apply Kd.V_alloc | apply Kd.V_drewN | apply Kd.V_drew)); exact HO_0.out⟩, ⟨by (with_reducible repeat (first | apply Kd.R_alloc | apply Kd.R_drewN | apply Kd.R_drew)); exact HO129.out⟩, ⟨by repeat (first | (with_reducible first | exact HB.out | apply below_alloc | apply pw_below_drewN | apply below_drew1) | exact HB.out)⟩⟩
          case round =>
            clear H'
            try clear c1
            try clear p2
            try clear c5
            try clear c5b0
            try clear c5b1
            try clear c6
            try clear c6b0
            try clear p6
            try clear c7
            try clear c7b0
            try clear c8
            try clear c11
            try clear p2
            try clear p6
            obtain ⟨x7_2, x8_2, x33_2, rfl, rfl, HA, HK2, HO_0, HO_7, HB⟩ := hrel
            cases gk with
            | zero => exact absurd HA.out (by simp [mutoscopelaw01_CrcBurst.l0])
            | succ k2 =>
              have H := HA.out
              clear HA
              simp only [mutoscopelaw01_CrcBurst.l0] at H
              by_cases c15 : x33_2 < 32
              · rw [if_pos c15] at H
                have c15b0 : decide (x33_2 < 32) = true := decide_eq_true c15
                clear c15
                by_cases c16 : 0 ≤ x33_2
                · rw [if_pos c16] at H
                  have c16b0 := eq_true c16
                  have c16b1 : decide (0 ≤ x33_2) = true := decide_eq_true c16
                  clear c16
                  obtain ⟨ji17, hji17⟩ : ∃ j_ : Int, (shr .u32 a2 x33_2) = j_ := ⟨_, rfl⟩
                  replace H : (if (Go.bits .and .u32 (ji17) 1) = 1 then (if (wrap64 (a1 + x33_2)) < (wrap64 (8 * (l0.length : Int))) then (if 0 ≤ (wrap64 (Int.tdiv (wrap64 (a1 + x33_2)) 8)) then (if (wrap64 (Int.tdiv (wrap64 (a1 + x33_2)) 8)) < (x7_2.length : Int) then (if 0 ≤ (Int.tmod (wrap64 (a1 + x33_2)) 8) then (mutoscopelaw01_CrcBurst.l0 k2 l0 a1 a2 (x7_2.set ((wrap64 (Int.tdiv (wrap64 (a1 + x33_2)) 8)) : Int).toNat (Go.bits .xor .u8 (rd x7_2 (wrap64 (Int.tdiv (wrap64 (a1 + x33_2)) 8))) (shl .u8 1 (Int.tmod (wrap64 (a1 + x33_2)) 8)))) true (wrap64 (x33_2 + 1))) else (none)) else (none)) else (none)) else (mutoscopelaw01_CrcBurst.l0 k2 l0 a1 a2 x7_2 x8_2 (wrap64 (x33_2 + 1)))) else (mutoscopelaw01_CrcBurst.l0 k2 l0 a1 a2 x7_2 x8_2 (wrap64 (x33_2 + 1)))) = some r := by first | (rw [hji17] at H; exact H) | (simp only [hji17] at H ⊢; exact H)
                  have hji17_ : (a2 / 2 ^ min x33_2.toNat 32) = ji17 := hji17
                  have hji17z : x33_2 ≤ 32 → (a2 / 2 ^ x33_2.toNat) = ji17 := shr_small hji17
                  by_cases c18 : (Go.bits .and .u32 (ji17) 1) = 1
                  · rw [if_pos c18] at H
                    have c18b0 : ((Go.bits .and .u32 (ji17) 1) == 1) = true := beq_iff_eq.mpr c18
                    have c18b1 : ((Go.bits .and .u32 (ji17) 1) != 1) = false := bne_eq_false_iff_eq.mpr c18
                    clear c18
                    by_cases c19 : (wrap64 (a1 + x33_2)) < (wrap64 (8 * (l0.length : Int)))
                    · rw [if_pos c19] at H
                      have c19b0 : decide ((wrap64 (a1 + x33_2)) < (wrap64 (8 * (l0.length : Int)))) = true := decide_eq_true c19
                      clear c19
                      obtain ⟨ji20, hji20⟩ : ∃ j_ : Int, (wrap64 (Int.tdiv (wrap64 (a1 + x33_2)) 8)) = j_ := ⟨_, rfl⟩
                      replace H : (if 0 ≤ (ji20) then (if (ji20) < (x7_2.length : Int) then (if 0 ≤ (Int.tmod (wrap64 (a1 + x33_2)) 8) then (mutoscopelaw01_CrcBurst.l0 k2 l0 a1 a2 (x7_2.set ((ji20) : Int).toNat (Go.bits .xor .u8 (rd x7_2 (ji20)) (shl .u8 1 (Int.tmod (wrap64 (a1 + x33_2)) 8)))) true (wrap64 (x33_2 + 1))) else (none)) else (none)) else (none)) = some r := by first | (rw [hji20] at H; exact H) | (simp only [hji20] at H ⊢; exact H)
                      have hji20w : (IntKind.i64.wrap (Int.tdiv (wrap64 (a1 + x33_2)) 8)) = ji20 := (i64_w _).trans hji20
                      by_cases c21 : 0 ≤ (ji20)
                      · rw [if_pos c21] at H
                        have c21b0 : decide (0 ≤ (ji20)) = true := decide_eq_true c21
                        clear c21
                        by_cases c22 : (ji20) < (x7_2.length : Int)
                        · rw [if_pos c22] at H
                          have c22b0 : decide ((ji20) < (x7_2.length : Int)) = true := decide_eq_true c22
                          clear c22
                          obtain ⟨ji23, hji23⟩ : ∃ j_ : Int, (Int.tmod (wrap64 (a1 + x33_2)) 8) = j_ := ⟨_, rfl⟩
                          replace H : (if 0 ≤ (ji23) then (mutoscopelaw01_CrcBurst.l0 k2 l0 a1 a2 (x7_2.set ((ji20) : Int).toNat (Go.bits .xor .u8 (rd x7_2 (ji20)) (shl .u8 1 (ji23)))) true (wrap64 (x33_2 + 1))) else (none)) = some r := by first | (rw [hji23] at H; exact H) | (simp only [hji23] at H ⊢; exact H)
                          by_cases c24 : 0 ≤ (ji23)
                          · rw [if_pos c24] at H
                            have c24b0 := eq_true c24
                            have c24b1 : decide (0 ≤ (ji23)) = true := decide_eq_true c24
                            clear c24
                            obtain ⟨ji25, hji25⟩ : ∃ j_ : Int, (shl .u8 1 (ji23)) = j_ := ⟨_, rfl⟩
                            replace H : (mutoscopelaw01_CrcBurst.l0 k2 l0 a1 a2 (x7_2.set ((ji20) : Int).toNat (Go.bits .xor .u8 (rd x7_2 (ji20)) (ji25))) true (wrap64 (x33_2 + 1))) = some r := by first | (rw [hji25] at H; exact H) | (simp only [hji25] at H ⊢; exact H)
                            have hji25_ : (IntKind.u8.wrap (1 * 2 ^ min (ji23).toNat 8)) = ji25 := hji25
                            have hji25z : (ji23) ≤ 8 → (IntKind.u8.wrap (1 * 2 ^ (ji23).toNat)) = ji25 := shl_small hji25
                            have hji25u : (IntKind.u8.wrap (2 ^ min (ji23).toNat 8)) = ji25 := by have h_ := hji25_; rw [Int.one_mul] at h_; exact h_
                            have hji25v : (ji23) ≤ 8 → (IntKind.u8.wrap (2 ^ (ji23).toNat)) = ji25 := fun hle_ => by have h_ := hji25z hle_; rw [Int.one_mul] at h_; exact h_
                            obtain ⟨y131, hy131⟩ : ∃ y_ : List Int, y_ = (x7_2.set ((ji20) : Int).toNat (Go.bits .xor .u8 (rd x7_2 (ji20)) (ji25))) := ⟨_, rfl⟩
                            replace H : (mutoscopelaw01_CrcBurst.l0 k2 l0 a1 a2 y131 true (wrap64 (x33_2 + 1))) = some r := by first | (rw [hy131]; with_reducible exact H) | (have H2_ := (Option.bind_some _ _).symm.trans H; rw [hy131]; with_reducible exact H2_) | (have H2_ := (Option.bind_some _ _).symm.trans H; with_reducible exact H2_) | with_reducible exact H | (rw [hy131]; exact H) | exact H
                            have Ny131 := Aside0.mk hy131
                            clear hy131
                            have H' := Aside0.mk H
                            clear H
                            try go_wp2
                            have n0_ := Aside0.mk (Kd.V_drew HO_0.out)
                            have n1_ := Aside0.mk (Kd.R_drew HO_7.out)
                            have n2_ := Aside0.mk (below_drew1 HB.out)
                            clear HO_0
                            clear HO_7
                            clear HB
                            have HO_0 := n0_
                            have HO_7 := n1_
                            have HB := n2_
                            clear n0_ n1_ n2_
                            obtain ⟨Ao28, co28, eo28⟩ := Kd.R_slice HO_7.out
                            (first | subst eo28 | (injection eo28 with f1_ f2_ f3_; have f4_ := f1_.symm; have f5_ := f3_.symm; clear f1_ f2_ f3_; subst f4_; subst f5_))
                            have p130 : 0 ≤ ((ji20) : Int) := of_decide_eq_true (by first | (with_reducible assumption) | assumption)
                            have q130 : (ji20) < (x7_2.length : Int) := of_decide_eq_true (by first | (with_reducible assumption) | assumption)
                            obtain ⟨ad130, e130, hx130_0⟩ := Kd.at_int (Kd.R_reads' HO_7.out).2.2 (ji20) p130 q130
                            cases e130
                            replace p130 := eq_true p130
                            replace q130 := eq_true q130
                            have p26 : 0 ≤ ((ji20) : Int) := of_decide_eq_true (by first | (with_reducible assumption) | assumption)
                            have q26 : ((ji20) : Int) < ((x7_2.length : Int) : Int) := of_decide_eq_true (by first | (with_reducible assumption) | assumption)
                            obtain ⟨go26, co26, eo26, gb26, gl26, cl26, HG26⟩ := Kd.R_form HO_7.out (by omega)
                            (first | cases eo26 | (injection eo26 with ea_ en_ ec_; (first | subst ea_ | (injection ea_ with ea_; subst ea_)); subst ec_; clear en_))
                            have GB26 := Aside0.mk gb26
                            have GG26 := Aside0.mk HG26
                            clear gb26 gl26 HG26
                            (first | simp only [add_plain] at hx130_0 | skip)
                            obtain ⟨hx26_0, hf26_0⟩ := Kd.R_celln 0 HO_7.out ((ji20) : Int) p26 q26
                            replace p26 := eq_true p26
                            replace q26 := eq_true q26
                            have HP29 := Kd.R_putn HO_7.out ((ji20) : Int) (Go.bits .xor .u8 (rd x7_2 (ji20)) (ji25))
                            rw [← Ny131.out] at HP29
                            have HQ29 := Aside0.mk HP29
                            clear HP29
                            refine start_ (n := 11) (S := fun w' => w'.cell? ⟨go26, ((ji20)).toNat, none⟩ = some (.int .u8 (rd x7_2 (ji20)))) (ds := [10]) #[false, false, false, false, false, false, false, false, false, false, false] (by kernel_rfl) rfl rfl (hx130_0) (fun hHeld => ?_); refine with_tabW mutoscopelaw01_CrcBurst.tab10 mutoscopelaw01_CrcBurst.bits10 (fun HT_ HW_ => ?_)
                            generalize wr.drew = w27 at HO_0 HO_7 HB GG26 HQ29 hf26_0 hx130_0 hx26_0 hHeld ⊢
                            refine pure_ (i := 0) (N := some 51) (v := ?_) (a' := ?_) #[true, false, false, false, false, false, false, false, false, false, false] rfl rfl (any_of HT_.out (by kernel_rfl)) (fun _ _ _ h => h) (Or.inl ⟨by rfl, ?_⟩) ?_ ?_
                            rotate_left
                            · intro w'
                              go_simp
                              with_reducible rfl
                            rotate_left
                            · simp only [Act.put, List.setIfInBounds_toArray, List.set_cons_zero, List.set_cons_succ, i64_w, i32_w]
                              rfl
                            refine pure_ (i := 1) (N := some 52) (v := ?_) (a' := ?_) #[true, true, false, false, false, false, false, false, false, false, false] rfl rfl (any_of HT_.out (by kernel_rfl)) (fun _ _ _ h => h) (Or.inl ⟨by rfl, ?_⟩) ?_ ?_
                            rotate_left
                            · intro w'
                              go_simp
                              with_reducible rfl
                            rotate_left
                            · simp only [Act.put, List.setIfInBounds_toArray, List.set_cons_zero, List.set_cons_succ, i64_w, i32_w]
                              rfl
                            refine pure_ (i := 2) (N := some 53) (v := ?_) (a' := ?_) #[true, true, true, false, false, false, false, false, false, false, false] rfl rfl (any_of HT_.out (by kernel_rfl)) (fun _ _ _ h => h) (Or.inl ⟨by rfl, ?_⟩) ?_ ?_
                            rotate_left
                            · intro w'
                              go_simp
                              with_reducible rfl
                            rotate_left
                            · simp only [Act.put, List.setIfInBounds_toArray, List.set_cons_zero, List.set_cons_succ, i64_w, i32_w]
                              rfl
                            refine pure_ (i := 3) (N := some 54) (v := ?_) (a' := ?_) #[true, true, true, true, false, false, false, false, false, false, false] rfl rfl (any_of HT_.out (by kernel_rfl)) (fun _ _ _ h => h) (Or.inl ⟨by rfl, ?_⟩) ?_ ?_
                            rotate_left
                            · intro w'
                              go_simp
                              with_reducible rfl
                            rotate_left
                            · simp only [Act.put, List.setIfInBounds_toArray, List.set_cons_zero, List.set_cons_succ, i64_w, i32_w]
                              rfl
                            refine pure_ (i := 5) (N := some 56) (v := ?_) (a' := ?_) #[true, true, true, true, false, true, false, false, false, false, false] rfl rfl (any_of HT_.out (by kernel_rfl)) (fun _ _ _ h => h) (Or.inl ⟨by rfl, ?_⟩) ?_ ?_
                            rotate_left
                            · intro w'
                              go_simp
                              with_reducible rfl
                            rotate_left
                            · simp only [Act.put, List.setIfInBounds_toArray, List.set_cons_zero, List.set_cons_succ, i64_w, i32_w]
                              rfl
                            refine pure_ (i := 6) (N := some 57) (v := ?_) (a' := ?_) #[true, true, true, true, false, true, true, false, false, false, false] rfl rfl (any_of HT_.out (by kernel_rfl)) (fun _ _ _ h => h) (Or.inl ⟨by rfl, ?_⟩) ?_ ?_
                            rotate_left
                            · intro w'
                              go_simp
                              with_reducible rfl
                            rotate_left
                            · simp only [Act.put, List.setIfInBounds_toArray, List.set_cons_zero, List.set_cons_succ, i64_w, i32_w]
                              rfl
                            refine pure_ (i := 7) (N := some 58) (v := ?_) (a' := ?_) #[true, true, true, true, false, true, true, true, false, false, false] rfl rfl (any_of HT_.out (by kernel_rfl)) (fun _ _ _ h => h) (Or.inl ⟨by rfl, ?_⟩) ?_ ?_
                            rotate_left
                            · intro w'
                              go_simp
                              with_reducible rfl
                            rotate_left
                            · simp only [Act.put, List.setIfInBounds_toArray, List.set_cons_zero, List.set_cons_succ, i64_w, i32_w]
                              rfl
                            refine take_ (i := 4) (N := some 55) (v := ?_) (a' := ?_) #[true, true, true, true, true, true, true, true, false, false, false] rfl rfl (take_ofW HT_.out HW_.out (by kernel_rfl)) (fun _ _ _ h => h) (Or.inl ⟨by rfl, ?_⟩) hHeld ?_ ?_
                            rotate_left
                            · intro w' s0
                              go_simp
                              with_reducible rfl
                            rotate_left
                            · simp only [Act.put, List.setIfInBounds_toArray, List.set_cons_zero, List.set_cons_succ, i64_w, i32_w]
                              rfl
                            refine pure_ (i := 8) (N := some 59) (v := ?_) (a' := ?_) #[true, true, true, true, true, true, true, true, true, false, false] rfl rfl (any_of HT_.out (by kernel_rfl)) (fun _ _ _ h => h) (Or.inl ⟨by rfl, ?_⟩) ?_ ?_
                            rotate_left
                            · intro w'
                              go_simp
                              with_reducible rfl
                            rotate_left
                            · simp only [Act.put, List.setIfInBounds_toArray, List.set_cons_zero, List.set_cons_succ, i64_w, i32_w]
                              rfl
                            refine pure_ (i := 9) (N := some 60) (v := ?_) (a' := ?_) #[true, true, true, true, true, true, true, true, true, true, false] rfl rfl (any_of HT_.out (by kernel_rfl)) (fun _ _ _ h => h) (Or.inl ⟨by rfl, ?_⟩) ?_ ?_
                            rotate_left
                            · intro w'
                              go_simp
                              with_reducible rfl
                            rotate_left
                            · simp only [Act.put, List.setIfInBounds_toArray, List.set_cons_zero, List.set_cons_succ, i64_w, i32_w]
                              rfl
                            refine last_ (i := 10) (N := none) #[true, true, true, true, true, true, true, true, true, true, true] rfl rfl (one_of HT_.out (by kernel_rfl)) (by decide) (fun K hK => ?_)
                            refine skip_ (w1 := ?_) (by rfl) rfl ?_ ?_
                            rotate_left
                            · go_simp
                              rfl
                            refine hK.out _ _ ?_
                            clear hK K
                            refine done_ (done_of HT_.out (by kernel_rfl)) ?_
                            try go_wp2
                            go_roundg k2
                            case measure => have := HJ3.out; have := HK2.out; omega
                            case rel => exact ⟨(y131), (true), (wrap64 (x33_2 + 1)), (by first | rfl | (simp; done) | (simp [*]; done)), (by first | rfl | (simp; done) | (simp [*]; done)), H', ⟨by have := HJ3.out; have := HK2.out; omega⟩, ⟨by (with_reducible repeat (first | apply Kd.V_alloc | apply Kd.V_drewN | apply Kd.V_drew)); exact Kd.V_mono (Kd.V_far (p := ⟨go26, ((ji20) : Int).toNat, none⟩) (Kd.V_mono HO_0.out (fun k_ hk => (⟨hk, fun e_ => hk.2 (by rw [e_]; rfl)⟩ : _ ∧ k_ ≠ go26))) (fun _ hk => hk.2) (.int .u8 (Go.bits .xor .u8 (rd x7_2 (ji20)) (ji25)))) (fun _ hk => ⟨hk.1.1, hk.1.2⟩)⟩, ⟨by (with_reducible repeat (first | apply Kd.R_alloc | apply Kd.R_drewN | apply Kd.R_drew)); exact HQ29.out⟩, ⟨by repeat (first | (with_reducible first | exact HB.out | apply below_alloc | apply pw_below_drewN | apply below_drew1 | refine below_set ?_ GB26.out) | exact HB.out)⟩⟩
                          · rw [if_neg c24] at H
                            exact absurd H (by simp)
                        · rw [if_neg c22] at H
                          exact absurd H (by simp)
                      · rw [if_neg c21] at H
                        exact absurd H (by simp)
                    · rw [if_neg c19] at H
                      have c19b0 : decide ((wrap64 (a1 + x33_2)) < (wrap64 (8 * (l0.length : Int)))) = false := decide_eq_false c19
                      clear c19
                      have H' := Aside0.mk H
                      clear H
                      go_wp2
                      go_roundg k2
                      case measure => have := HJ3.out; have := HK2.out; omega
                      case rel => exact ⟨(x7_2), (x8_2), (wrap64 (x33_2 + 1)), (by first | rfl | (simp; done) | (simp [*]; done)), (by first | rfl | (simp; done) | (simp [*]; done)), H', ⟨by have := HJ3.out; have := HK2.out; omega⟩, ⟨by (with_reducible repeat (first | apply Kd.V_alloc | apply Kd.V_drewN | apply Kd.V_drew)); exact HO_0.out⟩, ⟨by (with_reducible repeat (first | apply Kd.R_alloc | apply Kd.R_drewN | apply Kd.R_drew)); exact HO_7.out⟩, ⟨by repeat (first | (with_reducible first | exact HB.out | apply below_alloc | apply pw_below_drewN | apply below_drew1) | exact HB.out)⟩⟩
                  · rw [if_neg c18] at H
                    have c18b0 : ((Go.bits .and .u32 (ji17) 1) == 1) = false := beq_eq_false_iff_ne.mpr c18
                    have c18b1 : ((Go.bits .and .u32 (ji17) 1) != 1) = true := bne_iff_ne.mpr c18
                    have H' := Aside0.mk H
                    clear H
                    go_wp2
                    go_roundg k2
                    case measure => have := HJ3.out; have := HK2.out; omega
                    case rel => exact ⟨(x7_2), (x8_2), (wrap64 (x33_2 + 1)), (by first | rfl | (simp; done) | (simp [*]; done)), (by first | rfl | (simp; done) | (simp [*]; done)), H', ⟨by have := HJ3.out; have := HK2.out; omega⟩, ⟨by (with_reducible repeat (first | apply Kd.V_alloc | apply Kd.V_drewN | apply Kd.V_drew)); exact HO_0.out⟩, ⟨by (with_reducible repeat (first | apply Kd.R_alloc | apply Kd.R_drewN | apply Kd.R_drew)); exact HO_7.out⟩, ⟨by repeat (first | (with_reducible first | exact HB.out | apply below_alloc | apply pw_below_drewN | apply below_drew1) | exact HB.out)⟩⟩
                · rw [if_neg c16] at H
                  exact absurd H (by simp)
              · rw [if_neg c15] at H
                have c15b0 : decide (x33_2 < 32) = false := decide_eq_false c15
                clear c15
                obtain ⟨y132, hy132⟩ : ∃ y_ : List (List Int), y_ = (([l0] : List (List Int))) := ⟨_, rfl⟩
                replace H : ((crc_Sum.f k2 y132).bind fun t135 => ((crc_Sum.f k2 (([x7_2] : List (List Int)))).bind fun t139 => (if ((t135 == t139) != x8_2) = true then ((mutoscopelaw01_awake.f k2).bind fun t140 => (some t140)) else (some false)))) = some r := by first | (rw [hy132]; with_reducible exact H) | (have H2_ := (Option.bind_some _ _).symm.trans H; rw [hy132]; with_reducible exact H2_) | (have H2_ := (Option.bind_some _ _).symm.trans H; with_reducible exact H2_) | with_reducible exact H | (rw [hy132]; exact H) | exact H
                have Ny132 := Aside0.mk hy132
                clear hy132
                replace H := Option.bind_eq_some_iff.mp H
                obtain ⟨t135, A300, H⟩ := H
                replace H : ((crc_Sum.f k2 (([x7_2] : List (List Int)))).bind fun t139 => (if ((t135 == t139) != x8_2) = true then ((mutoscopelaw01_awake.f k2).bind fun t140 => (some t140)) else (some false))) = some r := H
                have A30 := Aside0.mk A300
                clear A300
                obtain ⟨y136, hy136⟩ : ∃ y_ : List (List Int), y_ = (([x7_2] : List (List Int))) := ⟨_, rfl⟩
                replace H : ((crc_Sum.f k2 y136).bind fun t139 => (if ((t135 == t139) != x8_2) = true then ((mutoscopelaw01_awake.f k2).bind fun t140 => (some t140)) else (some false))) = some r := by first | (rw [hy136]; with_reducible exact H) | (have H2_ := (Option.bind_some _ _).symm.trans H; rw [hy136]; with_reducible exact H2_) | (have H2_ := (Option.bind_some _ _).symm.trans H; with_reducible exact H2_) | with_reducible exact H | (rw [hy136]; exact H) | exact H
                have Ny136 := Aside0.mk hy136
                clear hy136
                replace H := Option.bind_eq_some_iff.mp H
                obtain ⟨t139, A310, H⟩ := H
                replace H : (if ((t135 == t139) != x8_2) = true then ((mutoscopelaw01_awake.f k2).bind fun t140 => (some t140)) else (some false)) = some r := H
                have A31 := Aside0.mk A310
                clear A310
                by_cases c32 : ((t135 == t139) != x8_2) = true
                · rw [if_pos c32] at H
                  have c32b0 : ((t135 == t139) != x8_2) = true := c32
                  (try (have c32b1 : decide ((t135 == t139) = x8_2) = false := by simpa using c32))
                  (try (have c32b2 : ((t135 == t139) == x8_2) = false := by simpa using c32))
                  (try (have c32b3 : ¬ ((t135 == t139) = x8_2) := by simpa using c32))
                  clear c32
                  replace H := Option.bind_eq_some_iff.mp H
                  obtain ⟨t140, A330, H⟩ := H
                  replace H : (some t140) = some r := H
                  have A33 := Aside0.mk A330
                  clear A330
                  obtain rfl := Option.some.inj H
                  go_wp2_with (first | ((with_reducible refine gate_dst (N := 63) rfl ?_); (try (refine gate_guard (by rfl) ?_; dsimp only)); refine Kd.N_lit (Kd.slice 5 (Kd.int .u8)) _ 22 ?hg (N' := 63) ?hd (xs := ([l0] : List (List Int))) (inner := [.slice A0 l0.length c0]) (ok := (fun k_ => (P0_ k_ ∨ w.heap.size ≤ k_) ∧ some k_ ≠ (v128 : Value).ownBlock)) (okp := (fun k_ => (P0_ k_ ∨ w.heap.size ≤ k_) ∧ some k_ ≠ (v128 : Value).ownBlock)) ?hr ?hp (fun _ hk => hk) ((show ∀ k_, wr.heap.size ≤ k_ → (fun k_ => (P0_ k_ ∨ w.heap.size ≤ k_) ∧ some k_ ≠ (v128 : Value).ownBlock) k_ from fun k_ hk => ⟨(.inr (Nat.le_trans (below_size (by repeat (first | (with_reducible first | exact HB.out | apply below_alloc | apply pw_below_drewN | apply below_drew1) | exact HB.out))) hk)), Kd.fresh' (Kd.R_lt (by (with_reducible repeat (first | apply Kd.R_alloc | apply Kd.R_drewN | apply Kd.R_drew)); exact HO_7.out)) k_ hk⟩) _ (Nat.le_refl _)) (Below.refl _ _) (Nat.le_refl _) (by simp) ?_; (case hd => rfl); (case hg => rfl); (case hr => first | (go_simp; done) | (go_simp; rfl)); (case hp => exact (Reps.one (show Kd.FK (Kd.slice 5 (Kd.int .u8)) _ _ l0 [.slice A0 l0.length c0] from (Kd.FK_slice_mk (Kd.V_reads' (Kd.V_mono (ok' := (fun k_ => (P0_ k_ ∨ w.heap.size ≤ k_) ∧ some k_ ≠ (v128 : Value).ownBlock)) (HO_0.out) (fun k_ hk => ⟨hk.1, hk.2⟩))).2.1 (Kd.V_F (Kd.V_mono (ok' := (fun k_ => (P0_ k_ ∨ w.heap.size ≤ k_) ∧ some k_ ≠ (v128 : Value).ownBlock)) (HO_0.out) (fun k_ hk => ⟨hk.1, hk.2⟩))))) (Reps.none _ _))); intro v133 w34 ho35 hb hg_ hnew_; clear hg_ hnew_; (first | rw [← Ny132.out] at ho35 | (simp only [Int.reduceToNat] at ho35; rw [← Ny132.out] at ho35)); have n0_ := Aside0.mk (Kd.V_elder' (by (with_reducible repeat (first | apply Kd.V_alloc | apply Kd.V_drewN | apply Kd.V_drew)); exact HO_0.out) (Kd.N_base ho35) hb); have n1_ := Aside0.mk (Kd.R_below (by (with_reducible repeat (first | apply Kd.R_alloc | apply Kd.R_drewN | apply Kd.R_drew)); exact HO_7.out) hb); have n2_ := Aside0.mk (Kd.N_lower ho35 (below_size (by repeat (first | (with_reducible first | exact HB.out | apply below_alloc | apply pw_below_drewN | apply below_drew1) | exact HB.out)))); have n3_ := Aside0.mk (below_step (by repeat (first | (with_reducible first | exact HB.out | apply below_alloc | apply pw_below_drewN | apply below_drew1) | exact HB.out)) hb); clear HO_0; clear HO_7; clear HB; have HO_0 := n0_; have HO_7 := n1_; have HO134 := n2_; have HB := n3_; clear n0_ n1_ n2_ n3_; clear hb ho35; obtain ⟨Ao36, co36, eo36⟩ := Kd.N_slice HO134.out; subst eo36) | ((with_reducible refine gate_callee (f := 17) rfl ?_); refine goesL_ (some 64) rfl rfl Try.func17 (by kernel_rfl) rfl #[.slice Ao36 y132.length co36] rfl (by (try simp only [List.map_toArray, List.map_cons, List.map_nil]); first | done | rfl | (simp only [List.length_drop, List.length_take]; rfl)) ?_; (with_reducible refine (crc_Sum.calls k2 _ _ y132 t135 _ ?side1 ?side2 A30.out).mono ?_); (case side1 => repeat (first | exact (Kd.N_reads' HO134.out).2.2 | (with_reducible refine Kd.C_alloc ?_ _) | (with_reducible refine Kd.C_drewN ?_ _) | (with_reducible refine Kd.C_drew ?_))); (case side2 => exact (Kd.N_reads' HO134.out).2.1); rintro e w' ⟨rfl, ⟨nd, rfl⟩⟩; refine ⟨_, rfl, ?_⟩; obtain ⟨Ao37, co37, eo37⟩ := Kd.R_slice HO_7.out; subst eo37) | ((with_reducible refine gate_dst (N := 66) rfl ?_); (try (refine gate_guard (by rfl) ?_; dsimp only)); refine Kd.N_lit (Kd.slice 5 (Kd.int .u8)) _ 22 ?hg (N' := 66) ?hd (xs := ([x7_2] : List (List Int))) (inner := [.slice Ao37 x7_2.length co37]) (ok := (fun k_ => (P0_ k_ ∨ w.heap.size ≤ k_) ∧ some k_ ≠ (.slice Ao36 y132.length co36 : Value).ownBlock)) (okp := (fun k_ => (P0_ k_ ∨ w.heap.size ≤ k_) ∧ some k_ ≠ (.slice Ao36 y132.length co36 : Value).ownBlock)) ?hr ?hp (fun _ hk => hk) ((show ∀ k_, w34.heap.size ≤ k_ → (fun k_ => (P0_ k_ ∨ w.heap.size ≤ k_) ∧ some k_ ≠ (.slice Ao36 y132.length co36 : Value).ownBlock) k_ from fun k_ hk => ⟨(.inr (Nat.le_trans (below_size (by repeat (first | (with_reducible first | exact HB.out | apply below_alloc | apply pw_below_drewN | apply below_drew1) | exact HB.out))) hk)), Kd.fresh' (Kd.N_lt (by (with_reducible repeat (first | apply Kd.N_alloc | apply Kd.N_drewN | apply Kd.N_drew)); exact HO134.out)) k_ hk⟩) _ (Nat.le_refl _)) (Below.refl _ _) (Nat.le_refl _) (by simp) ?_; (case hd => rfl); (case hg => rfl); (case hr => first | (go_simp; done) | (go_simp; rfl)); (case hp => exact (Reps.one (show Kd.FK (Kd.slice 5 (Kd.int .u8)) _ _ x7_2 [.slice Ao37 x7_2.length co37] from (Kd.FK_slice_mk (Kd.R_reads' (Kd.R_mono (ok' := (fun k_ => (P0_ k_ ∨ w.heap.size ≤ k_) ∧ some k_ ≠ (.slice Ao36 y132.length co36 : Value).ownBlock)) (Kd.R_apart' (HO_7.out) (Kd.N_typed HO134.out) (by decide)) (fun k_ hk => ⟨(.inr (hk.1)), hk.2⟩))).2.1 (Kd.R_F (Kd.R_mono (ok' := (fun k_ => (P0_ k_ ∨ w.heap.size ≤ k_) ∧ some k_ ≠ (.slice Ao36 y132.length co36 : Value).ownBlock)) (Kd.R_apart' (HO_7.out) (Kd.N_typed HO134.out) (by decide)) (fun k_ hk => ⟨(.inr (hk.1)), hk.2⟩))))) (Reps.none _ _))); intro v137 w38 ho39 hb hg_ hnew_; clear hg_ hnew_; (first | rw [← Ny136.out] at ho39 | (simp only [Int.reduceToNat] at ho39; rw [← Ny136.out] at ho39)); have n0_ := Aside0.mk (Kd.V_elder' (by (with_reducible repeat (first | apply Kd.V_alloc | apply Kd.V_drewN | apply Kd.V_drew)); exact HO_0.out) (Kd.N_base ho39) hb); have n1_ := Aside0.mk (Kd.N_elder' (by (with_reducible repeat (first | apply Kd.N_alloc | apply Kd.N_drewN | apply Kd.N_drew)); exact HO134.out) (Kd.N_base ho39) hb); have n2_ := Aside0.mk (Kd.N_lower ho39 (below_size (by repeat (first | (with_reducible first | exact HB.out | apply below_alloc | apply pw_below_drewN | apply below_drew1) | exact HB.out)))); have n3_ := Aside0.mk (below_step (by repeat (first | (with_reducible first | exact HB.out | apply below_alloc | apply pw_below_drewN | apply below_drew1) | exact HB.out)) hb); clear HO_0; clear HO134; clear HB; clear HO_7; have HO_0 := n0_; have HO134 := n1_; have HO138 := n2_; have HB := n3_; clear n0_ n1_ n2_ n3_; clear hb ho39; obtain ⟨Ao40, co40, eo40⟩ := Kd.N_slice HO138.out; subst eo40) | ((with_reducible refine gate_callee (f := 17) rfl ?_); refine goesL_ (some 67) rfl rfl Try.func17 (by kernel_rfl) rfl #[.slice Ao40 y136.length co40] rfl (by (try simp only [List.map_toArray, List.map_cons, List.map_nil]); first | done | rfl | (simp only [List.length_drop, List.length_take]; rfl)) ?_; (with_reducible refine (crc_Sum.calls k2 _ _ y136 t139 _ ?side1 ?side2 A31.out).mono ?_); (case side1 => repeat (first | exact (Kd.N_reads' HO138.out).2.2 | (with_reducible refine Kd.C_alloc ?_ _) | (with_reducible refine Kd.C_drewN ?_ _) | (with_reducible refine Kd.C_drew ?_))); (case side2 => exact (Kd.N_reads' HO138.out).2.1); rintro e w' ⟨rfl, ⟨nd, rfl⟩⟩; refine ⟨_, rfl, ?_⟩) | (go_at_call 15; (with_reducible refine (mutoscopelaw01_awake.calls k2  t140 _ A33.out).mono ?_); rintro e w41 ⟨rfl, hb⟩; have n0_ := Aside0.mk (Kd.V_below (by (with_reducible repeat (first | apply Kd.V_alloc | apply Kd.V_drewN | apply Kd.V_drew)); exact HO_0.out) hb); have n1_ := Aside0.mk (Kd.N_below (by (with_reducible repeat (first | apply Kd.N_alloc | apply Kd.N_drewN | apply Kd.N_drew)); exact HO134.out) hb); have n2_ := Aside0.mk (Kd.N_below (by (with_reducible repeat (first | apply Kd.N_alloc | apply Kd.N_drewN | apply Kd.N_drew)); exact HO138.out) hb); have n3_ := Aside0.mk (below_step (by repeat (first | (with_reducible first | exact HB.out | apply below_alloc | apply pw_below_drewN | apply below_drew1) | exact HB.out)) hb); clear HO_0; clear HO134; clear HO138; clear HB; have HO_0 := n0_; have HO134 := n1_; have HO138 := n2_; have HB := n3_; clear n0_ n1_ n2_ n3_; (try clear hb); (try clear hb2); (try clear hk); (try clear hi)))
                  go_ret
                  exact ⟨by first | rfl | (simp [errW_none, errW_some] <;> rfl) | (simp [*, errW_none, errW_some] <;> rfl), by repeat (first | (with_reducible first | exact HB.out | apply below_alloc | apply pw_below_drewN | apply below_drew1) | exact HB.out)⟩
                · rw [if_neg c32] at H
                  have c32b0 : ((t135 == t139) != x8_2) = false := by simpa using c32
                  (try (have c32b1 : decide ((t135 == t139) = x8_2) = true := by simpa using c32))
                  (try (have c32b2 : ((t135 == t139) == x8_2) = true := by simpa using c32))
                  clear c32
                  obtain rfl := Option.some.inj H
                  go_wp2_with (first | ((with_reducible refine gate_dst (N := 63) rfl ?_); (try (refine gate_guard (by rfl) ?_; dsimp only)); refine Kd.N_lit (Kd.slice 5 (Kd.int .u8)) _ 22 ?hg (N' := 63) ?hd (xs := ([l0] : List (List Int))) (inner := [.slice A0 l0.length c0]) (ok := (fun k_ => (P0_ k_ ∨ w.heap.size ≤ k_) ∧ some k_ ≠ (v128 : Value).ownBlock)) (okp := (fun k_ => (P0_ k_ ∨ w.heap.size ≤ k_) ∧ some k_ ≠ (v128 : Value).ownBlock)) ?hr ?hp (fun _ hk => hk) ((show ∀ k_, wr.heap.size ≤ k_ → (fun k_ => (P0_ k_ ∨ w.heap.size ≤ k_) ∧ some k_ ≠ (v128 : Value).ownBlock) k_ from fun k_ hk => ⟨(.inr (Nat.le_trans (below_size (by repeat (first | (with_reducible first | exact HB.out | apply below_alloc | apply pw_below_drewN | apply below_drew1) | exact HB.out))) hk)), Kd.fresh' (Kd.R_lt (by (with_reducible repeat (first | apply Kd.R_alloc | apply Kd.R_drewN | apply Kd.R_drew)); exact HO_7.out)) k_ hk⟩) _ (Nat.le_refl _)) (Below.refl _ _) (Nat.le_refl _) (by simp) ?_; (case hd => rfl); (case hg => rfl); (case hr => first | (go_simp; done) | (go_simp; rfl)); (case hp => exact (Reps.one (show Kd.FK (Kd.slice 5 (Kd.int .u8)) _ _ l0 [.slice A0 l0.length c0] from (Kd.FK_slice_mk (Kd.V_reads' (Kd.V_mono (ok' := (fun k_ => (P0_ k_ ∨ w.heap.size ≤ k_) ∧ some k_ ≠ (v128 : Value).ownBlock)) (HO_0.out) (fun k_ hk => ⟨hk.1, hk.2⟩))).2.1 (Kd.V_F (Kd.V_mono (ok' := (fun k_ => (P0_ k_ ∨ w.heap.size ≤ k_) ∧ some k_ ≠ (v128 : Value).ownBlock)) (HO_0.out) (fun k_ hk => ⟨hk.1, hk.2⟩))))) (Reps.none _ _))); intro v133 w42 ho43 hb hg_ hnew_; clear hg_ hnew_; (first | rw [← Ny132.out] at ho43 | (simp only [Int.reduceToNat] at ho43; rw [← Ny132.out] at ho43)); have n0_ := Aside0.mk (Kd.V_elder' (by (with_reducible repeat (first | apply Kd.V_alloc | apply Kd.V_drewN | apply Kd.V_drew)); exact HO_0.out) (Kd.N_base ho43) hb); have n1_ := Aside0.mk (Kd.R_below (by (with_reducible repeat (first | apply Kd.R_alloc | apply Kd.R_drewN | apply Kd.R_drew)); exact HO_7.out) hb); have n2_ := Aside0.mk (Kd.N_lower ho43 (below_size (by repeat (first | (with_reducible first | exact HB.out | apply below_alloc | apply pw_below_drewN | apply below_drew1) | exact HB.out)))); have n3_ := Aside0.mk (below_step (by repeat (first | (with_reducible first | exact HB.out | apply below_alloc | apply pw_below_drewN | apply below_drew1) | exact HB.out)) hb); clear HO_0; clear HO_7; clear HB; have HO_0 := n0_; have HO_7 := n1_; have HO134 := n2_; have HB := n3_; clear n0_ n1_ n2_ n3_; clear hb ho43; obtain ⟨Ao44, co44, eo44⟩ := Kd.N_slice HO134.out; subst eo44) | ((with_reducible refine gate_callee (f := 17) rfl ?_); refine goesL_ (some 64) rfl rfl Try.func17 (by kernel_rfl) rfl #[.slice Ao44 y132.length co44] rfl (by (try simp only [List.map_toArray, List.map_cons, List.map_nil]); first | done | rfl | (simp only [List.length_drop, List.length_take]; rfl)) ?_; (with_reducible refine (crc_Sum.calls k2 _ _ y132 t135 _ ?side1 ?side2 A30.out).mono ?_); (case side1 => repeat (first | exact (Kd.N_reads' HO134.out).2.2 | (with_reducible refine Kd.C_alloc ?_ _) | (with_reducible refine Kd.C_drewN ?_ _) | (with_reducible refine Kd.C_drew ?_))); (case side2 => exact (Kd.N_reads' HO134.out).2.1); rintro e w' ⟨rfl, ⟨nd, rfl⟩⟩; refine ⟨_, rfl, ?_⟩; obtain ⟨Ao45, co45, eo45⟩ := Kd.R_slice HO_7.out; subst eo45) | ((with_reducible refine gate_dst (N := 66) rfl ?_); (try (refine gate_guard (by rfl) ?_; dsimp only)); refine Kd.N_lit (Kd.slice 5 (Kd.int .u8)) _ 22 ?hg (N' := 66) ?hd (xs := ([x7_2] : List (List Int))) (inner := [.slice Ao45 x7_2.length co45]) (ok := (fun k_ => (P0_ k_ ∨ w.heap.size ≤ k_) ∧ some k_ ≠ (.slice Ao44 y132.length co44 : Value).ownBlock)) (okp := (fun k_ => (P0_ k_ ∨ w.heap.size ≤ k_) ∧ some k_ ≠ (.slice Ao44 y132.length co44 : Value).ownBlock)) ?hr ?hp (fun _ hk => hk) ((show ∀ k_, w42.heap.size ≤ k_ → (fun k_ => (P0_ k_ ∨ w.heap.size ≤ k_) ∧ some k_ ≠ (.slice Ao44 y132.length co44 : Value).ownBlock) k_ from fun k_ hk => ⟨(.inr (Nat.le_trans (below_size (by repeat (first | (with_reducible first | exact HB.out | apply below_alloc | apply pw_below_drewN | apply below_drew1) | exact HB.out))) hk)), Kd.fresh' (Kd.N_lt (by (with_reducible repeat (first | apply Kd.N_alloc | apply Kd.N_drewN | apply Kd.N_drew)); exact HO134.out)) k_ hk⟩) _ (Nat.le_refl _)) (Below.refl _ _) (Nat.le_refl _) (by simp) ?_; (case hd => rfl); (case hg => rfl); (case hr => first | (go_simp; done) | (go_simp; rfl)); (case hp => exact (Reps.one (show Kd.FK (Kd.slice 5 (Kd.int .u8)) _ _ x7_2 [.slice Ao45 x7_2.length co45] from (Kd.FK_slice_mk (Kd.R_reads' (Kd.R_mono (ok' := (fun k_ => (P0_ k_ ∨ w.heap.size ≤ k_) ∧ some k_ ≠ (.slice Ao44 y132.length co44 : Value).ownBlock)) (Kd.R_apart' (HO_7.out) (Kd.N_typed HO134.out) (by decide)) (fun k_ hk => ⟨(.inr (hk.1)), hk.2⟩))).2.1 (Kd.R_F (Kd.R_mono (ok' := (fun k_ => (P0_ k_ ∨ w.heap.size ≤ k_) ∧ some k_ ≠ (.slice Ao44 y132.length co44 : Value).ownBlock)) (Kd.R_apart' (HO_7.out) (Kd.N_typed HO134.out) (by decide)) (fun k_ hk => ⟨(.inr (hk.1)), hk.2⟩))))) (Reps.none _ _))); intro v137 w46 ho47 hb hg_ hnew_; clear hg_ hnew_; (first | rw [← Ny136.out] at ho47 | (simp only [Int.reduceToNat] at ho47; rw [← Ny136.out] at ho47)); have n0_ := Aside0.mk (Kd.V_elder' (by (with_reducible repeat (first | apply Kd.V_alloc | apply Kd.V_drewN | apply Kd.V_drew)); exact HO_0.out) (Kd.N_base ho47) hb); have n1_ := Aside0.mk (Kd.N_elder' (by (with_reducible repeat (first | apply Kd.N_alloc | apply Kd.N_drewN | apply Kd.N_drew)); exact HO134.out) (Kd.N_base ho47) hb); have n2_ := Aside0.mk (Kd.N_lower ho47 (below_size (by repeat (first | (with_reducible first | exact HB.out | apply below_alloc | apply pw_below_drewN | apply below_drew1) | exact HB.out)))); have n3_ := Aside0.mk (below_step (by repeat (first | (with_reducible first | exact HB.out | apply below_alloc | apply pw_below_drewN | apply below_drew1) | exact HB.out)) hb); clear HO_0; clear HO134; clear HB; clear HO_7; have HO_0 := n0_; have HO134 := n1_; have HO138 := n2_; have HB := n3_; clear n0_ n1_ n2_ n3_; clear hb ho47; obtain ⟨Ao48, co48, eo48⟩ := Kd.N_slice HO138.out; subst eo48) | ((with_reducible refine gate_callee (f := 17) rfl ?_); refine goesL_ (some 67) rfl rfl Try.func17 (by kernel_rfl) rfl #[.slice Ao48 y136.length co48] rfl (by (try simp only [List.map_toArray, List.map_cons, List.map_nil]); first | done | rfl | (simp only [List.length_drop, List.length_take]; rfl)) ?_; (with_reducible refine (crc_Sum.calls k2 _ _ y136 t139 _ ?side1 ?side2 A31.out).mono ?_); (case side1 => repeat (first | exact (Kd.N_reads' HO138.out).2.2 | (with_reducible refine Kd.C_alloc ?_ _) | (with_reducible refine Kd.C_drewN ?_ _) | (with_reducible refine Kd.C_drew ?_))); (case side2 => exact (Kd.N_reads' HO138.out).2.1); rintro e w' ⟨rfl, ⟨nd, rfl⟩⟩; refine ⟨_, rfl, ?_⟩))
                  go_ret
                  exact ⟨by first | rfl | (simp [errW_none, errW_some] <;> rfl) | (simp [*, errW_none, errW_some] <;> rfl), by repeat (first | (with_reducible first | exact HB.out | apply below_alloc | apply pw_below_drewN | apply below_drew1) | exact HB.out)⟩
        · rw [if_neg c11] at H
          exact absurd H (by simp)


end Go.Proofs.Ytbkjkjcpclaijaa.QCrc
