-- Written for this claim by a program of this session (wip/tools/mprint.sh)
import Derived.Test.YtbkjkjcpclaijaaQFixMulsx0
import Derived.Test.YtbkjkjcpclaijaaQFixMulsx1
namespace Go.Proofs.Ytbkjkjcpclaijaa.QFixMuls
open Go.RowKit Go.Proofs.YtbkjkjcpclaijaaW.PrintWords Go.Proofs.YtbkjkjcpclaijaaW.PrintLast Go.Proofs.YtbkjkjcpclaijaaW.PrintMore
attribute [local go_sem] max2_int min2_int max_two min_two max_three min_three max_four min_four   -- for this text's walks alone
set_option linter.unusedVariables false
set_option linter.unusedSimpArgs false

/-! ### mutoscoperef05_Round: function 21 -/
def mutoscoperef05_Round.f (k : Nat) (a0 : Int) (a1 : Int) : Option (Int) := (mutoscoperef05_Floor.f k a0 a1).bind fun t134 => (if (wrap64 (a0 - (wrap64 (t134 * a1)))) ≥ (wrap64 (a1 - (wrap64 (a0 - (wrap64 (t134 * a1)))))) then (some (wrap64 (t134 + 1))) else (some t134))
theorem mutoscoperef05_Round.mono : ∀ a0 a1 k, LeO (mutoscoperef05_Round.f k a0 a1) (mutoscoperef05_Round.f (k + 1) a0 a1) := by
  intro a0 a1 k
  unfold mutoscoperef05_Round.f
  repeat' first
      | (with_reducible exact mutoscoperef05_Floor.mono _ _ _)
      | (with_reducible exact LeO.refl _)
      | (with_reducible exact LeO.none _)
      | (with_reducible refine LeO.ite ?_ ?_)
      | (with_reducible refine LeO.bind ?_ (fun _ => ?_))
      | exact mutoscoperef05_Floor.mono _ _ _
      | exact LeO.none _
      | refine LeO.ite ?_ ?_
      | refine LeO.bind ?_ (fun _ => ?_)
set_option maxHeartbeats 8000000 in
set_option maxRecDepth 100000 in
theorem mutoscoperef05_Round.calls (k : Nat) (a0 : Int) (a1 : Int) (r : Int) (w : World) (h : mutoscoperef05_Round.f k a0 a1 = some r) :
    Calls Try.prog 21 #[.int .i64 a0, .int .i64 a1] w fun e w' => e = .returned (.int .i64 r) ∧ Drawn0 w w' := by
  have H : ((mutoscoperef05_Floor.f k a0 a1).bind fun t134 => (if (wrap64 (a0 - (wrap64 (t134 * a1)))) ≥ (wrap64 (a1 - (wrap64 (a0 - (wrap64 (t134 * a1)))))) then (some (wrap64 (t134 + 1))) else (some t134))) = some r := h
  clear h
  replace H := Option.bind_eq_some_iff.mp H
  obtain ⟨t134, A30, H⟩ := H
  replace H : (if (wrap64 (a0 - (wrap64 (t134 * a1)))) ≥ (wrap64 (a1 - (wrap64 (a0 - (wrap64 (t134 * a1)))))) then (some (wrap64 (t134 + 1))) else (some t134)) = some r := H
  have A3 := Aside0.mk A30
  clear A30
  by_cases c4 : (wrap64 (a0 - (wrap64 (t134 * a1)))) ≥ (wrap64 (a1 - (wrap64 (a0 - (wrap64 (t134 * a1))))))
  · rw [if_pos c4] at H
    have c4b0 : decide ((wrap64 (a1 - (wrap64 (a0 - (wrap64 (t134 * a1)))))) ≤ (wrap64 (a0 - (wrap64 (t134 * a1))))) = true := decide_eq_true c4
    clear c4
    obtain rfl := Option.some.inj H
    go_enter Try.func21, Try.ntmps21
    go_wp2_with (first | ((with_reducible refine gate_callee (f := 28) rfl ?_); refine goesL_ (some 9) rfl rfl Try.func28 (by kernel_rfl) rfl #[.int .i64 a0, .int .i64 a1] rfl (by (try simp only [List.map_toArray, List.map_cons, List.map_nil]); first | done | rfl | (simp only [List.length_drop, List.length_take]; rfl)) ?_; (with_reducible refine (mutoscoperef05_Floor.calls k a0 a1 t134 _ A3.out).mono ?_); rintro e w' ⟨rfl, ⟨nd, rfl⟩⟩; refine ⟨_, rfl, ?_⟩))
    go_ret
    exact ⟨by first | rfl | (simp; done) | (simp [*]; done), by repeat (first | exact Drawn0.refl _ | apply Drawn0.step)⟩
  · rw [if_neg c4] at H
    have c4b0 : decide ((wrap64 (a1 - (wrap64 (a0 - (wrap64 (t134 * a1)))))) ≤ (wrap64 (a0 - (wrap64 (t134 * a1))))) = false := decide_eq_false c4
    clear c4
    obtain rfl := Option.some.inj H
    go_enter Try.func21, Try.ntmps21
    go_wp2_with (first | ((with_reducible refine gate_callee (f := 28) rfl ?_); refine goesL_ (some 9) rfl rfl Try.func28 (by kernel_rfl) rfl #[.int .i64 a0, .int .i64 a1] rfl (by (try simp only [List.map_toArray, List.map_cons, List.map_nil]); first | done | rfl | (simp only [List.length_drop, List.length_take]; rfl)) ?_; (with_reducible refine (mutoscoperef05_Floor.calls k a0 a1 t134 _ A3.out).mono ?_); rintro e w' ⟨rfl, ⟨nd, rfl⟩⟩; refine ⟨_, rfl, ?_⟩))
    go_ret
    exact ⟨by first | rfl | (simp; done) | (simp [*]; done), by repeat (first | exact Drawn0.refl _ | apply Drawn0.step)⟩

/-! ### mutoscoperef05_Mul: function 27 -/
def mutoscoperef05_Mul.f (k : Nat) (a0 : Int) (a1 : Int) : Option (Int) := (mutoscoperef05_Round.f k (wrap64 (a0 * a1)) 65536).bind fun t135 => (some t135)
theorem mutoscoperef05_Mul.mono : ∀ a0 a1 k, LeO (mutoscoperef05_Mul.f k a0 a1) (mutoscoperef05_Mul.f (k + 1) a0 a1) := by
  intro a0 a1 k
  unfold mutoscoperef05_Mul.f
  repeat' first
      | (with_reducible exact mutoscoperef05_Round.mono _ _ _)
      | (with_reducible exact LeO.refl _)
      | (with_reducible exact LeO.none _)
      | (with_reducible refine LeO.ite ?_ ?_)
      | (with_reducible refine LeO.bind ?_ (fun _ => ?_))
      | exact mutoscoperef05_Round.mono _ _ _
      | exact LeO.none _
      | refine LeO.ite ?_ ?_
      | refine LeO.bind ?_ (fun _ => ?_)
set_option maxHeartbeats 8000000 in
set_option maxRecDepth 100000 in
theorem mutoscoperef05_Mul.calls (k : Nat) (a0 : Int) (a1 : Int) (r : Int) (w : World) (h : mutoscoperef05_Mul.f k a0 a1 = some r) :
    Calls Try.prog 27 #[.int .i64 a0, .int .i64 a1] w fun e w' => e = .returned (.int .i64 r) ∧ Drawn0 w w' := by
  have H : ((mutoscoperef05_Round.f k (wrap64 (a0 * a1)) 65536).bind fun t135 => (some t135)) = some r := h
  clear h
  replace H := Option.bind_eq_some_iff.mp H
  obtain ⟨t135, A30, H⟩ := H
  replace H : (some t135) = some r := H
  have A3 := Aside0.mk A30
  clear A30
  obtain rfl := Option.some.inj H
  go_enter Try.func27, Try.ntmps27
  go_wp2_with (first | ((with_reducible refine gate_callee (f := 21) rfl ?_); refine goesL_ (some 8) rfl rfl Try.func21 (by kernel_rfl) rfl #[.int .i64 (wrap64 (a0 * a1)), .int .i64 65536] rfl (by (try simp only [List.map_toArray, List.map_cons, List.map_nil]); first | done | rfl | (simp only [List.length_drop, List.length_take]; rfl)) ?_; (with_reducible refine (mutoscoperef05_Round.calls k (wrap64 (a0 * a1)) 65536 t135 _ A3.out).mono ?_); rintro e w' ⟨rfl, ⟨nd, rfl⟩⟩; refine ⟨_, rfl, ?_⟩))
  go_ret
  exact ⟨by first | rfl | (simp; done) | (simp [*]; done), by repeat (first | exact Drawn0.refl _ | apply Drawn0.step)⟩

/-! ### mutoscopelaw05_FixMuls: function 8 -/
def mutoscopelaw05_FixMuls.j0 : Nat → Int → Int → Bool → Option (Bool)
  | 0, _, _, _ => none
  | k + 1, x0, x1, x14 => if x14 = true then ((fix_Right.f k (([x0, x1] : List Int))).bind fun t141 => (if (t141 == false) = true then ((fix_Right.f k (([x1, x0] : List Int))).bind fun t145 => (if t145 = true then (some false) else ((mutoscopelaw05_awake.f k).bind fun t146 => (some t146)))) else (some false))) else ((fix_Floor.f x0).bind fun t147 => ((fix_Ceil.f x0).bind fun t148 => ((fix_Right.f k (([x0, x1] : List Int))).bind fun t152 => (if t152 = true then ((fix_Mul.f x0 x1).bind fun t153 => ((mutoscoperef05_Mul.f k x0 x1).bind fun t154 => (if t153 = t154 then ((fix_Mul.f x1 x0).bind fun t155 => ((fix_Mul.f x0 x1).bind fun t156 => (if t155 = t156 then ((mutoscoperef05_Floor.f k x0 65536).bind fun t157 => (if t147 = t157 then (if (wrap64 (t147 * 65536)) ≤ x0 then (if (wrap64 (t148 * 65536)) ≥ x0 then (if (wrap64 (t148 - t147)) ≤ 1 then (if ((t148 == t147) == ((Int.tmod x0 65536) == 0)) = true then ((mutoscopelaw05_awake.f k).bind fun t158 => (some t158)) else (some false)) else (some false)) else (some false)) else (some false)) else (some false))) else (some false)))) else (some false)))) else (some false)))))
def mutoscopelaw05_FixMuls.f (k : Nat) (a0 : Int) (a1 : Int) : Option (Bool) := (mutoscoperef05_Right.f a0).bind fun t136 => (if t136 = true then ((mutoscoperef05_Right.f a1).bind fun t137 => (mutoscopelaw05_FixMuls.j0 k a0 a1 (!t137))) else (mutoscopelaw05_FixMuls.j0 k a0 a1 true))
theorem mutoscopelaw05_FixMuls.mono_l : ∀ k, (∀ y0 y1 y2, LeO (mutoscopelaw05_FixMuls.j0 k y0 y1 y2) (mutoscopelaw05_FixMuls.j0 (k + 1) y0 y1 y2))
  | 0 => fun _ _ _ r h => by simp [mutoscopelaw05_FixMuls.j0] at h
  | k + 1 => by
    have ih0 := mutoscopelaw05_FixMuls.mono_l k
    · intro y0 y1 y2
      unfold mutoscopelaw05_FixMuls.j0
      repeat' first
      | (with_reducible exact ih0 _ _ _)
      | (with_reducible exact fix_Right.mono _ _)
      | (with_reducible exact mutoscopelaw05_awake.mono _)
      | (with_reducible exact mutoscoperef05_Floor.mono _ _ _)
      | (with_reducible exact mutoscoperef05_Mul.mono _ _ _)
      | (with_reducible exact LeO.refl _)
      | (with_reducible exact LeO.none _)
      | (with_reducible refine LeO.ite ?_ ?_)
      | (with_reducible refine LeO.bind ?_ (fun _ => ?_))
      | exact ih0 _ _ _
      | exact fix_Right.mono _ _
      | exact mutoscopelaw05_awake.mono _
      | exact mutoscoperef05_Floor.mono _ _ _
      | exact mutoscoperef05_Mul.mono _ _ _
      | exact LeO.none _
      | refine LeO.ite ?_ ?_
      | refine LeO.bind ?_ (fun _ => ?_)
theorem mutoscopelaw05_FixMuls.mono : ∀ a0 a1 k, LeO (mutoscopelaw05_FixMuls.f k a0 a1) (mutoscopelaw05_FixMuls.f (k + 1) a0 a1) := by
  intro a0 a1 k
  have ih0 := mutoscopelaw05_FixMuls.mono_l k
  unfold mutoscopelaw05_FixMuls.f
  repeat' first
      | (with_reducible exact ih0 _ _ _)
      | (with_reducible exact fix_Right.mono _ _)
      | (with_reducible exact mutoscopelaw05_awake.mono _)
      | (with_reducible exact mutoscoperef05_Floor.mono _ _ _)
      | (with_reducible exact mutoscoperef05_Mul.mono _ _ _)
      | (with_reducible exact LeO.refl _)
      | (with_reducible exact LeO.none _)
      | (with_reducible refine LeO.ite ?_ ?_)
      | (with_reducible refine LeO.bind ?_ (fun _ => ?_))
      | exact ih0 _ _ _
      | exact fix_Right.mono _ _
      | exact mutoscopelaw05_awake.mono _
      | exact mutoscoperef05_Floor.mono _ _ _
      | exact mutoscoperef05_Mul.mono _ _ _
      | exact LeO.none _
      | refine LeO.ite ?_ ?_
      | refine LeO.bind ?_ (fun _ => ?_)
set_option maxHeartbeats 8000000 in
set_option maxRecDepth 100000 in
theorem mutoscopelaw05_FixMuls.calls (k : Nat) (a0 : Int) (a1 : Int) (r : Bool) (w : World) (h : mutoscopelaw05_FixMuls.f k a0 a1 = some r) :
    Calls Try.prog 8 #[.int .i64 a0, .int .i64 a1] w fun e w' => e = .returned (.bool r) ∧ Below w.heap.size w w' := by
  have HB := Aside0.mk (Below.refl w.heap.size w)
  have H : ((mutoscoperef05_Right.f a0).bind fun t136 => (if t136 = true then ((mutoscoperef05_Right.f a1).bind fun t137 => (mutoscopelaw05_FixMuls.j0 k a0 a1 (!t137))) else (mutoscopelaw05_FixMuls.j0 k a0 a1 true))) = some r := h
  clear h
  have HC3 := Aside0.mk H
  clear H
  go_enter Try.func8, Try.ntmps8
  go_upto_region 1 with (fail)
  go_cut [14] (fun v14 wc => ∃ (kq : Nat) (x14_2 : Bool), v14 = .bool x14_2 ∧ Aside0 (mutoscopelaw05_FixMuls.j0 kq a0 a1 x14_2 = some r) ∧ Aside0 (kq ≤ k) ∧ Aside0 (Below w.heap.size w wc))
  case first =>
    have H := HC3.out
    clear HC3
    replace H := Option.bind_eq_some_iff.mp H
    obtain ⟨t136, A40, H⟩ := H
    replace H : (if t136 = true then ((mutoscoperef05_Right.f a1).bind fun t137 => (mutoscopelaw05_FixMuls.j0 k a0 a1 (!t137))) else (mutoscopelaw05_FixMuls.j0 k a0 a1 true)) = some r := H
    have A4 := Aside0.mk A40
    clear A40
    by_cases c5 : t136 = true
    · subst c5
      have H1 : ((mutoscoperef05_Right.f a1).bind fun t137 => (mutoscopelaw05_FixMuls.j0 k a0 a1 (!t137))) = some r := by rw [if_pos rfl] at H; exact H
      clear H
      have H := H1
      clear H1
      replace H := Option.bind_eq_some_iff.mp H
      obtain ⟨t137, A60, H⟩ := H
      replace H : (mutoscopelaw05_FixMuls.j0 k a0 a1 (!t137)) = some r := H
      have A6 := Aside0.mk A60
      clear A60
      have H' := Aside0.mk H
      clear H
      go_wp2_with (first | ((with_reducible refine gate_callee (f := 22) rfl ?_); refine goesL_ (some 8) rfl rfl Try.func22 (by kernel_rfl) rfl #[.int .i64 a0] rfl (by (try simp only [List.map_toArray, List.map_cons, List.map_nil]); first | done | rfl | (simp only [List.length_drop, List.length_take]; rfl)) ?_; (with_reducible refine (mutoscoperef05_Right.calls a0 true _ A4.out).mono ?_); rintro e w' ⟨rfl, ⟨nd, rfl⟩⟩; refine ⟨_, rfl, ?_⟩) | (go_at_call 22; (with_reducible refine (mutoscoperef05_Right.calls a1 t137 _ A6.out).mono ?_); rintro e w' ⟨rfl, ⟨nd, rfl⟩⟩))
      go_meet
      case rel => exact ⟨_, (!t137), (by first | rfl | (simp; done) | (simp [*]; done)), H', ⟨by first | omega | exact Nat.le_refl _⟩, ⟨by repeat (first | (with_reducible first | exact HB.out | apply below_alloc | apply pw_below_drewN | apply below_drew1) | exact HB.out)⟩⟩
    · replace c5 := Bool.eq_false_iff.mpr c5
      subst c5
      have H1 : (mutoscopelaw05_FixMuls.j0 k a0 a1 true) = some r := by rw [if_neg (show ¬ (false = true) by decide)] at H; exact H
      clear H
      have H := H1
      clear H1
      have H' := Aside0.mk H
      clear H
      go_wp2_with (first | ((with_reducible refine gate_callee (f := 22) rfl ?_); refine goesL_ (some 8) rfl rfl Try.func22 (by kernel_rfl) rfl #[.int .i64 a0] rfl (by (try simp only [List.map_toArray, List.map_cons, List.map_nil]); first | done | rfl | (simp only [List.length_drop, List.length_take]; rfl)) ?_; (with_reducible refine (mutoscoperef05_Right.calls a0 false _ A4.out).mono ?_); rintro e w' ⟨rfl, ⟨nd, rfl⟩⟩; refine ⟨_, rfl, ?_⟩))
      go_meet
      case rel => exact ⟨_, (true), (by first | rfl | (simp; done) | (simp [*]; done)), H', ⟨by first | omega | exact Nat.le_refl _⟩, ⟨by repeat (first | (with_reducible first | exact HB.out | apply below_alloc | apply pw_below_drewN | apply below_drew1) | exact HB.out)⟩⟩
  case rest =>
    clear HC3
    try clear c2
    try clear p2
    try clear c5
    obtain ⟨kq, x14_2, rfl, HA, HJ2, HB⟩ := hcut
    cases kq with
    | zero => exact absurd HA.out (by simp [mutoscopelaw05_FixMuls.j0])
    | succ kj2 =>
      have H := HA.out
      clear HA
      simp only [mutoscopelaw05_FixMuls.j0] at H
      by_cases c7 : x14_2 = true
      · subst c7
        have H1 : ((fix_Right.f kj2 (([a0, a1] : List Int))).bind fun t141 => (if (t141 == false) = true then ((fix_Right.f kj2 (([a1, a0] : List Int))).bind fun t145 => (if t145 = true then (some false) else ((mutoscopelaw05_awake.f kj2).bind fun t146 => (some t146)))) else (some false))) = some r := by rw [if_pos rfl] at H; exact H
        clear H
        have H := H1
        clear H1
        obtain ⟨y138, hy138⟩ : ∃ y_ : List Int, y_ = (([a0, a1] : List Int)) := ⟨_, rfl⟩
        replace H : ((fix_Right.f kj2 y138).bind fun t141 => (if (t141 == false) = true then ((fix_Right.f kj2 (([a1, a0] : List Int))).bind fun t145 => (if t145 = true then (some false) else ((mutoscopelaw05_awake.f kj2).bind fun t146 => (some t146)))) else (some false))) = some r := by first | (rw [hy138]; with_reducible exact H) | (have H2_ := (Option.bind_some _ _).symm.trans H; rw [hy138]; with_reducible exact H2_) | (have H2_ := (Option.bind_some _ _).symm.trans H; with_reducible exact H2_) | with_reducible exact H | (rw [hy138]; exact H) | exact H
        have Ny138 := Aside0.mk hy138
        clear hy138
        replace H := Option.bind_eq_some_iff.mp H
        obtain ⟨t141, A80, H⟩ := H
        replace H : (if (t141 == false) = true then ((fix_Right.f kj2 (([a1, a0] : List Int))).bind fun t145 => (if t145 = true then (some false) else ((mutoscopelaw05_awake.f kj2).bind fun t146 => (some t146)))) else (some false)) = some r := H
        have A8 := Aside0.mk A80
        clear A80
        by_cases c9 : (t141 == false) = true
        · rw [if_pos c9] at H
          have c9b0 : (t141 == false) = true := c9
          (try (have c9b1 : decide (t141 = false) = true := by simpa using c9))
          (try (have c9b2 : (t141 == false) = true := by simpa using c9))
          clear c9
          obtain ⟨y142, hy142⟩ : ∃ y_ : List Int, y_ = (([a1, a0] : List Int)) := ⟨_, rfl⟩
          replace H : ((fix_Right.f kj2 y142).bind fun t145 => (if t145 = true then (some false) else ((mutoscopelaw05_awake.f kj2).bind fun t146 => (some t146)))) = some r := by first | (rw [hy142]; with_reducible exact H) | (have H2_ := (Option.bind_some _ _).symm.trans H; rw [hy142]; with_reducible exact H2_) | (have H2_ := (Option.bind_some _ _).symm.trans H; with_reducible exact H2_) | with_reducible exact H | (rw [hy142]; exact H) | exact H
          have Ny142 := Aside0.mk hy142
          clear hy142
          replace H := Option.bind_eq_some_iff.mp H
          obtain ⟨t145, A100, H⟩ := H
          replace H : (if t145 = true then (some false) else ((mutoscopelaw05_awake.f kj2).bind fun t146 => (some t146))) = some r := H
          have A10 := Aside0.mk A100
          clear A100
          by_cases c11 : t145 = true
          · subst c11
            have H1 : (some false) = some r := by rw [if_pos rfl] at H; exact H
            clear H
            have H := H1
            clear H1
            obtain rfl := Option.some.inj H
            go_wp2_with (first | ((with_reducible refine gate_dst (N := 17) rfl ?_); (try (refine gate_guard (by rfl) ?_; dsimp only)); refine Kd.R_lit (Kd.int .i64) _ 2 ?hg (N := 17) ?hd (xs := ([a0, a1] : List Int)) (inner := [.int .i64 a0, .int .i64 a1]) (ok := fun _ => True) (okp := fun _ => True) ?hr ?hp (fun _ hk => hk) trivial (Below.refl _ _) (Nat.le_refl _) (by simp) ?_; (case hd => rfl); (case hg => rfl); (case hr => first | (go_simp; done) | (go_simp; rfl)); (case hp => exact (Reps.one (show Kd.M (Kd.int .i64) _ _ _ a0 [.int .i64 a0] from rfl) (Reps.one (show Kd.M (Kd.int .i64) _ _ _ a1 [.int .i64 a1] from rfl) (Reps.none _ _)))); intro v139 w12 ho13 hb hg_ hnew_; clear hg_ hnew_; (first | rw [← Ny138.out] at ho13 | (simp only [Int.reduceToNat] at ho13; rw [← Ny138.out] at ho13)); have n0_ := Aside0.mk (Kd.R_lower ho13 (below_size (by repeat (first | (with_reducible first | exact HB.out | apply below_alloc | apply pw_below_drewN | apply below_drew1) | exact HB.out)))); have n1_ := Aside0.mk (below_step (by repeat (first | (with_reducible first | exact HB.out | apply below_alloc | apply pw_below_drewN | apply below_drew1) | exact HB.out)) hb); clear HB; have HO140 := n0_; have HB := n1_; clear n0_ n1_; clear hb ho13; obtain ⟨Ao14, co14, eo14⟩ := Kd.R_slice HO140.out; subst eo14) | ((with_reducible refine gate_callee (f := 23) rfl ?_); refine goesL_ (some 18) rfl rfl Try.func23 (by kernel_rfl) rfl #[.slice Ao14 y138.length co14] rfl (by (try simp only [List.map_toArray, List.map_cons, List.map_nil]); first | done | rfl | (simp only [List.length_drop, List.length_take]; rfl)) ?_; (with_reducible refine (fix_Right.calls kj2 _ _ y138 t141 _ ?side1 ?side2 A8.out).mono ?_); (case side1 => repeat (first | exact (Kd.R_reads' HO140.out).2.2 | (with_reducible refine Kd.C_alloc ?_ _) | (with_reducible refine Kd.C_drewN ?_ _) | (with_reducible refine Kd.C_drew ?_))); (case side2 => exact (Kd.R_reads' HO140.out).2.1); rintro e w' ⟨rfl, ⟨nd, rfl⟩⟩; refine ⟨_, rfl, ?_⟩) | ((with_reducible refine gate_dst (N := 23) rfl ?_); (try (refine gate_guard (by rfl) ?_; dsimp only)); refine Kd.R_lit (Kd.int .i64) _ 2 ?hg (N := 23) ?hd (xs := ([a1, a0] : List Int)) (inner := [.int .i64 a1, .int .i64 a0]) (ok := fun _ => True) (okp := fun _ => True) ?hr ?hp (fun _ hk => hk) trivial (Below.refl _ _) (Nat.le_refl _) (by simp) ?_; (case hd => rfl); (case hg => rfl); (case hr => first | (go_simp; done) | (go_simp; rfl)); (case hp => exact (Reps.one (show Kd.M (Kd.int .i64) _ _ _ a1 [.int .i64 a1] from rfl) (Reps.one (show Kd.M (Kd.int .i64) _ _ _ a0 [.int .i64 a0] from rfl) (Reps.none _ _)))); intro v143 w15 ho16 hb hg_ hnew_; clear hg_ hnew_; (first | rw [← Ny142.out] at ho16 | (simp only [Int.reduceToNat] at ho16; rw [← Ny142.out] at ho16)); have n0_ := Aside0.mk (Kd.R_elder' (by (with_reducible repeat (first | apply Kd.R_alloc | apply Kd.R_drewN | apply Kd.R_drew)); exact HO140.out) (Kd.R_base ho16) hb); have n1_ := Aside0.mk (Kd.R_lower (Kd.R_new' ho16 (Kd.R_lt (by (with_reducible repeat (first | apply Kd.R_alloc | apply Kd.R_drewN | apply Kd.R_drew)); exact HO140.out))) (below_size (by repeat (first | (with_reducible first | exact HB.out | apply below_alloc | apply pw_below_drewN | apply below_drew1) | exact HB.out)))); have n2_ := Aside0.mk (below_step (by repeat (first | (with_reducible first | exact HB.out | apply below_alloc | apply pw_below_drewN | apply below_drew1) | exact HB.out)) hb); clear HO140; clear HB; have HO140 := n0_; have HO144 := n1_; have HB := n2_; clear n0_ n1_ n2_; clear hb ho16; obtain ⟨Ao17, co17, eo17⟩ := Kd.R_slice HO144.out; subst eo17) | (go_at_call 23; (with_reducible refine (fix_Right.calls kj2 _ _ y142 true _ ?side1 ?side2 A10.out).mono ?_); (case side1 => repeat (first | exact (Kd.R_reads' HO144.out).2.2 | (with_reducible refine Kd.C_alloc ?_ _) | (with_reducible refine Kd.C_drewN ?_ _) | (with_reducible refine Kd.C_drew ?_))); (case side2 => exact (Kd.R_reads' HO144.out).2.1); rintro e w' ⟨rfl, ⟨nd, rfl⟩⟩))
            go_ret
            exact ⟨by first | rfl | (simp [errW_none, errW_some] <;> rfl) | (simp [*, errW_none, errW_some] <;> rfl), by repeat (first | (with_reducible first | exact HB.out | apply below_alloc | apply pw_below_drewN | apply below_drew1) | exact HB.out)⟩
          · replace c11 := Bool.eq_false_iff.mpr c11
            subst c11
            have H1 : ((mutoscopelaw05_awake.f kj2).bind fun t146 => (some t146)) = some r := by rw [if_neg (show ¬ (false = true) by decide)] at H; exact H
            clear H
            have H := H1
            clear H1
            replace H := Option.bind_eq_some_iff.mp H
            obtain ⟨t146, A180, H⟩ := H
            replace H : (some t146) = some r := H
            have A18 := Aside0.mk A180
            clear A180
            obtain rfl := Option.some.inj H
            go_wp2_with (first | ((with_reducible refine gate_dst (N := 17) rfl ?_); (try (refine gate_guard (by rfl) ?_; dsimp only)); refine Kd.R_lit (Kd.int .i64) _ 2 ?hg (N := 17) ?hd (xs := ([a0, a1] : List Int)) (inner := [.int .i64 a0, .int .i64 a1]) (ok := fun _ => True) (okp := fun _ => True) ?hr ?hp (fun _ hk => hk) trivial (Below.refl _ _) (Nat.le_refl _) (by simp) ?_; (case hd => rfl); (case hg => rfl); (case hr => first | (go_simp; done) | (go_simp; rfl)); (case hp => exact (Reps.one (show Kd.M (Kd.int .i64) _ _ _ a0 [.int .i64 a0] from rfl) (Reps.one (show Kd.M (Kd.int .i64) _ _ _ a1 [.int .i64 a1] from rfl) (Reps.none _ _)))); intro v139 w19 ho20 hb hg_ hnew_; clear hg_ hnew_; (first | rw [← Ny138.out] at ho20 | (simp only [Int.reduceToNat] at ho20; rw [← Ny138.out] at ho20)); have n0_ := Aside0.mk (Kd.R_lower ho20 (below_size (by repeat (first | (with_reducible first | exact HB.out | apply below_alloc | apply pw_below_drewN | apply below_drew1) | exact HB.out)))); have n1_ := Aside0.mk (below_step (by repeat (first | (with_reducible first | exact HB.out | apply below_alloc | apply pw_below_drewN | apply below_drew1) | exact HB.out)) hb); clear HB; have HO140 := n0_; have HB := n1_; clear n0_ n1_; clear hb ho20; obtain ⟨Ao21, co21, eo21⟩ := Kd.R_slice HO140.out; subst eo21) | ((with_reducible refine gate_callee (f := 23) rfl ?_); refine goesL_ (some 18) rfl rfl Try.func23 (by kernel_rfl) rfl #[.slice Ao21 y138.length co21] rfl (by (try simp only [List.map_toArray, List.map_cons, List.map_nil]); first | done | rfl | (simp only [List.length_drop, List.length_take]; rfl)) ?_; (with_reducible refine (fix_Right.calls kj2 _ _ y138 t141 _ ?side1 ?side2 A8.out).mono ?_); (case side1 => repeat (first | exact (Kd.R_reads' HO140.out).2.2 | (with_reducible refine Kd.C_alloc ?_ _) | (with_reducible refine Kd.C_drewN ?_ _) | (with_reducible refine Kd.C_drew ?_))); (case side2 => exact (Kd.R_reads' HO140.out).2.1); rintro e w' ⟨rfl, ⟨nd, rfl⟩⟩; refine ⟨_, rfl, ?_⟩) | ((with_reducible refine gate_dst (N := 23) rfl ?_); (try (refine gate_guard (by rfl) ?_; dsimp only)); refine Kd.R_lit (Kd.int .i64) _ 2 ?hg (N := 23) ?hd (xs := ([a1, a0] : List Int)) (inner := [.int .i64 a1, .int .i64 a0]) (ok := fun _ => True) (okp := fun _ => True) ?hr ?hp (fun _ hk => hk) trivial (Below.refl _ _) (Nat.le_refl _) (by simp) ?_; (case hd => rfl); (case hg => rfl); (case hr => first | (go_simp; done) | (go_simp; rfl)); (case hp => exact (Reps.one (show Kd.M (Kd.int .i64) _ _ _ a1 [.int .i64 a1] from rfl) (Reps.one (show Kd.M (Kd.int .i64) _ _ _ a0 [.int .i64 a0] from rfl) (Reps.none _ _)))); intro v143 w22 ho23 hb hg_ hnew_; clear hg_ hnew_; (first | rw [← Ny142.out] at ho23 | (simp only [Int.reduceToNat] at ho23; rw [← Ny142.out] at ho23)); have n0_ := Aside0.mk (Kd.R_elder' (by (with_reducible repeat (first | apply Kd.R_alloc | apply Kd.R_drewN | apply Kd.R_drew)); exact HO140.out) (Kd.R_base ho23) hb); have n1_ := Aside0.mk (Kd.R_lower (Kd.R_new' ho23 (Kd.R_lt (by (with_reducible repeat (first | apply Kd.R_alloc | apply Kd.R_drewN | apply Kd.R_drew)); exact HO140.out))) (below_size (by repeat (first | (with_reducible first | exact HB.out | apply below_alloc | apply pw_below_drewN | apply below_drew1) | exact HB.out)))); have n2_ := Aside0.mk (below_step (by repeat (first | (with_reducible first | exact HB.out | apply below_alloc | apply pw_below_drewN | apply below_drew1) | exact HB.out)) hb); clear HO140; clear HB; have HO140 := n0_; have HO144 := n1_; have HB := n2_; clear n0_ n1_ n2_; clear hb ho23; obtain ⟨Ao24, co24, eo24⟩ := Kd.R_slice HO144.out; subst eo24) | (go_at_call 23; (with_reducible refine (fix_Right.calls kj2 _ _ y142 false _ ?side1 ?side2 A10.out).mono ?_); (case side1 => repeat (first | exact (Kd.R_reads' HO144.out).2.2 | (with_reducible refine Kd.C_alloc ?_ _) | (with_reducible refine Kd.C_drewN ?_ _) | (with_reducible refine Kd.C_drew ?_))); (case side2 => exact (Kd.R_reads' HO144.out).2.1); rintro e w' ⟨rfl, ⟨nd, rfl⟩⟩) | (go_at_call 19; (with_reducible refine (mutoscopelaw05_awake.calls kj2  t146 _ A18.out).mono ?_); rintro e w25 ⟨rfl, hb⟩; have n0_ := Aside0.mk (Kd.R_below (by (with_reducible repeat (first | apply Kd.R_alloc | apply Kd.R_drewN | apply Kd.R_drew)); exact HO140.out) hb); have n1_ := Aside0.mk (Kd.R_below (by (with_reducible repeat (first | apply Kd.R_alloc | apply Kd.R_drewN | apply Kd.R_drew)); exact HO144.out) hb); have n2_ := Aside0.mk (below_step (by repeat (first | (with_reducible first | exact HB.out | apply below_alloc | apply pw_below_drewN | apply below_drew1) | exact HB.out)) hb); clear HO140; clear HO144; clear HB; have HO140 := n0_; have HO144 := n1_; have HB := n2_; clear n0_ n1_ n2_; (try clear hb); (try clear hb2); (try clear hk); (try clear hi)))
            go_ret
            exact ⟨by first | rfl | (simp [errW_none, errW_some] <;> rfl) | (simp [*, errW_none, errW_some] <;> rfl), by repeat (first | (with_reducible first | exact HB.out | apply below_alloc | apply pw_below_drewN | apply below_drew1) | exact HB.out)⟩
        · rw [if_neg c9] at H
          have c9b0 : (t141 == false) = false := by simpa using c9
          (try (have c9b1 : decide (t141 = false) = false := by simpa using c9))
          (try (have c9b2 : (t141 == false) = false := by simpa using c9))
          (try (have c9b3 : ¬ (t141 = false) := by simpa using c9))
          clear c9
          obtain rfl := Option.some.inj H
          go_wp2_with (first | ((with_reducible refine gate_dst (N := 17) rfl ?_); (try (refine gate_guard (by rfl) ?_; dsimp only)); refine Kd.R_lit (Kd.int .i64) _ 2 ?hg (N := 17) ?hd (xs := ([a0, a1] : List Int)) (inner := [.int .i64 a0, .int .i64 a1]) (ok := fun _ => True) (okp := fun _ => True) ?hr ?hp (fun _ hk => hk) trivial (Below.refl _ _) (Nat.le_refl _) (by simp) ?_; (case hd => rfl); (case hg => rfl); (case hr => first | (go_simp; done) | (go_simp; rfl)); (case hp => exact (Reps.one (show Kd.M (Kd.int .i64) _ _ _ a0 [.int .i64 a0] from rfl) (Reps.one (show Kd.M (Kd.int .i64) _ _ _ a1 [.int .i64 a1] from rfl) (Reps.none _ _)))); intro v139 w26 ho27 hb hg_ hnew_; clear hg_ hnew_; (first | rw [← Ny138.out] at ho27 | (simp only [Int.reduceToNat] at ho27; rw [← Ny138.out] at ho27)); have n0_ := Aside0.mk (Kd.R_lower ho27 (below_size (by repeat (first | (with_reducible first | exact HB.out | apply below_alloc | apply pw_below_drewN | apply below_drew1) | exact HB.out)))); have n1_ := Aside0.mk (below_step (by repeat (first | (with_reducible first | exact HB.out | apply below_alloc | apply pw_below_drewN | apply below_drew1) | exact HB.out)) hb); clear HB; have HO140 := n0_; have HB := n1_; clear n0_ n1_; clear hb ho27; obtain ⟨Ao28, co28, eo28⟩ := Kd.R_slice HO140.out; subst eo28) | ((with_reducible refine gate_callee (f := 23) rfl ?_); refine goesL_ (some 18) rfl rfl Try.func23 (by kernel_rfl) rfl #[.slice Ao28 y138.length co28] rfl (by (try simp only [List.map_toArray, List.map_cons, List.map_nil]); first | done | rfl | (simp only [List.length_drop, List.length_take]; rfl)) ?_; (with_reducible refine (fix_Right.calls kj2 _ _ y138 t141 _ ?side1 ?side2 A8.out).mono ?_); (case side1 => repeat (first | exact (Kd.R_reads' HO140.out).2.2 | (with_reducible refine Kd.C_alloc ?_ _) | (with_reducible refine Kd.C_drewN ?_ _) | (with_reducible refine Kd.C_drew ?_))); (case side2 => exact (Kd.R_reads' HO140.out).2.1); rintro e w' ⟨rfl, ⟨nd, rfl⟩⟩; refine ⟨_, rfl, ?_⟩))
          go_ret
          exact ⟨by first | rfl | (simp [errW_none, errW_some] <;> rfl) | (simp [*, errW_none, errW_some] <;> rfl), by repeat (first | (with_reducible first | exact HB.out | apply below_alloc | apply pw_below_drewN | apply below_drew1) | exact HB.out)⟩
      · replace c7 := Bool.eq_false_iff.mpr c7
        subst c7
        have H1 : ((fix_Floor.f a0).bind fun t147 => ((fix_Ceil.f a0).bind fun t148 => ((fix_Right.f kj2 (([a0, a1] : List Int))).bind fun t152 => (if t152 = true then ((fix_Mul.f a0 a1).bind fun t153 => ((mutoscoperef05_Mul.f kj2 a0 a1).bind fun t154 => (if t153 = t154 then ((fix_Mul.f a1 a0).bind fun t155 => ((fix_Mul.f a0 a1).bind fun t156 => (if t155 = t156 then ((mutoscoperef05_Floor.f kj2 a0 65536).bind fun t157 => (if t147 = t157 then (if (wrap64 (t147 * 65536)) ≤ a0 then (if (wrap64 (t148 * 65536)) ≥ a0 then (if (wrap64 (t148 - t147)) ≤ 1 then (if ((t148 == t147) == ((Int.tmod a0 65536) == 0)) = true then ((mutoscopelaw05_awake.f kj2).bind fun t158 => (some t158)) else (some false)) else (some false)) else (some false)) else (some false)) else (some false))) else (some false)))) else (some false)))) else (some false))))) = some r := by rw [if_neg (show ¬ (false = true) by decide)] at H; exact H
        clear H
        have H := H1
        clear H1
        replace H := Option.bind_eq_some_iff.mp H
        obtain ⟨t147, A290, H⟩ := H
        replace H : ((fix_Ceil.f a0).bind fun t148 => ((fix_Right.f kj2 (([a0, a1] : List Int))).bind fun t152 => (if t152 = true then ((fix_Mul.f a0 a1).bind fun t153 => ((mutoscoperef05_Mul.f kj2 a0 a1).bind fun t154 => (if t153 = t154 then ((fix_Mul.f a1 a0).bind fun t155 => ((fix_Mul.f a0 a1).bind fun t156 => (if t155 = t156 then ((mutoscoperef05_Floor.f kj2 a0 65536).bind fun t157 => (if t147 = t157 then (if (wrap64 (t147 * 65536)) ≤ a0 then (if (wrap64 (t148 * 65536)) ≥ a0 then (if (wrap64 (t148 - t147)) ≤ 1 then (if ((t148 == t147) == ((Int.tmod a0 65536) == 0)) = true then ((mutoscopelaw05_awake.f kj2).bind fun t158 => (some t158)) else (some false)) else (some false)) else (some false)) else (some false)) else (some false))) else (some false)))) else (some false)))) else (some false)))) = some r := H
        have A29 := Aside0.mk A290
        clear A290
        replace H := Option.bind_eq_some_iff.mp H
        obtain ⟨t148, A300, H⟩ := H
        replace H : ((fix_Right.f kj2 (([a0, a1] : List Int))).bind fun t152 => (if t152 = true then ((fix_Mul.f a0 a1).bind fun t153 => ((mutoscoperef05_Mul.f kj2 a0 a1).bind fun t154 => (if t153 = t154 then ((fix_Mul.f a1 a0).bind fun t155 => ((fix_Mul.f a0 a1).bind fun t156 => (if t155 = t156 then ((mutoscoperef05_Floor.f kj2 a0 65536).bind fun t157 => (if t147 = t157 then (if (wrap64 (t147 * 65536)) ≤ a0 then (if (wrap64 (t148 * 65536)) ≥ a0 then (if (wrap64 (t148 - t147)) ≤ 1 then (if ((t148 == t147) == ((Int.tmod a0 65536) == 0)) = true then ((mutoscopelaw05_awake.f kj2).bind fun t158 => (some t158)) else (some false)) else (some false)) else (some false)) else (some false)) else (some false))) else (some false)))) else (some false)))) else (some false))) = some r := H
        have A30 := Aside0.mk A300
        clear A300
        obtain ⟨y149, hy149⟩ : ∃ y_ : List Int, y_ = (([a0, a1] : List Int)) := ⟨_, rfl⟩
        replace H : ((fix_Right.f kj2 y149).bind fun t152 => (if t152 = true then ((fix_Mul.f a0 a1).bind fun t153 => ((mutoscoperef05_Mul.f kj2 a0 a1).bind fun t154 => (if t153 = t154 then ((fix_Mul.f a1 a0).bind fun t155 => ((fix_Mul.f a0 a1).bind fun t156 => (if t155 = t156 then ((mutoscoperef05_Floor.f kj2 a0 65536).bind fun t157 => (if t147 = t157 then (if (wrap64 (t147 * 65536)) ≤ a0 then (if (wrap64 (t148 * 65536)) ≥ a0 then (if (wrap64 (t148 - t147)) ≤ 1 then (if ((t148 == t147) == ((Int.tmod a0 65536) == 0)) = true then ((mutoscopelaw05_awake.f kj2).bind fun t158 => (some t158)) else (some false)) else (some false)) else (some false)) else (some false)) else (some false))) else (some false)))) else (some false)))) else (some false))) = some r := by first | (rw [hy149]; with_reducible exact H) | (have H2_ := (Option.bind_some _ _).symm.trans H; rw [hy149]; with_reducible exact H2_) | (have H2_ := (Option.bind_some _ _).symm.trans H; with_reducible exact H2_) | with_reducible exact H | (rw [hy149]; exact H) | exact H
        have Ny149 := Aside0.mk hy149
        clear hy149
        replace H := Option.bind_eq_some_iff.mp H
        obtain ⟨t152, A310, H⟩ := H
        replace H : (if t152 = true then ((fix_Mul.f a0 a1).bind fun t153 => ((mutoscoperef05_Mul.f kj2 a0 a1).bind fun t154 => (if t153 = t154 then ((fix_Mul.f a1 a0).bind fun t155 => ((fix_Mul.f a0 a1).bind fun t156 => (if t155 = t156 then ((mutoscoperef05_Floor.f kj2 a0 65536).bind fun t157 => (if t147 = t157 then (if (wrap64 (t147 * 65536)) ≤ a0 then (if (wrap64 (t148 * 65536)) ≥ a0 then (if (wrap64 (t148 - t147)) ≤ 1 then (if ((t148 == t147) == ((Int.tmod a0 65536) == 0)) = true then ((mutoscopelaw05_awake.f kj2).bind fun t158 => (some t158)) else (some false)) else (some false)) else (some false)) else (some false)) else (some false))) else (some false)))) else (some false)))) else (some false)) = some r := H
        have A31 := Aside0.mk A310
        clear A310
        by_cases c32 : t152 = true
        · subst c32
          have H1 : ((fix_Mul.f a0 a1).bind fun t153 => ((mutoscoperef05_Mul.f kj2 a0 a1).bind fun t154 => (if t153 = t154 then ((fix_Mul.f a1 a0).bind fun t155 => ((fix_Mul.f a0 a1).bind fun t156 => (if t155 = t156 then ((mutoscoperef05_Floor.f kj2 a0 65536).bind fun t157 => (if t147 = t157 then (if (wrap64 (t147 * 65536)) ≤ a0 then (if (wrap64 (t148 * 65536)) ≥ a0 then (if (wrap64 (t148 - t147)) ≤ 1 then (if ((t148 == t147) == ((Int.tmod a0 65536) == 0)) = true then ((mutoscopelaw05_awake.f kj2).bind fun t158 => (some t158)) else (some false)) else (some false)) else (some false)) else (some false)) else (some false))) else (some false)))) else (some false)))) = some r := by rw [if_pos rfl] at H; exact H
          clear H
          have H := H1
          clear H1
          replace H := Option.bind_eq_some_iff.mp H
          obtain ⟨t153, A330, H⟩ := H
          replace H : ((mutoscoperef05_Mul.f kj2 a0 a1).bind fun t154 => (if t153 = t154 then ((fix_Mul.f a1 a0).bind fun t155 => ((fix_Mul.f a0 a1).bind fun t156 => (if t155 = t156 then ((mutoscoperef05_Floor.f kj2 a0 65536).bind fun t157 => (if t147 = t157 then (if (wrap64 (t147 * 65536)) ≤ a0 then (if (wrap64 (t148 * 65536)) ≥ a0 then (if (wrap64 (t148 - t147)) ≤ 1 then (if ((t148 == t147) == ((Int.tmod a0 65536) == 0)) = true then ((mutoscopelaw05_awake.f kj2).bind fun t158 => (some t158)) else (some false)) else (some false)) else (some false)) else (some false)) else (some false))) else (some false)))) else (some false))) = some r := H
          have A33 := Aside0.mk A330
          clear A330
          replace H := Option.bind_eq_some_iff.mp H
          obtain ⟨t154, A340, H⟩ := H
          replace H : (if t153 = t154 then ((fix_Mul.f a1 a0).bind fun t155 => ((fix_Mul.f a0 a1).bind fun t156 => (if t155 = t156 then ((mutoscoperef05_Floor.f kj2 a0 65536).bind fun t157 => (if t147 = t157 then (if (wrap64 (t147 * 65536)) ≤ a0 then (if (wrap64 (t148 * 65536)) ≥ a0 then (if (wrap64 (t148 - t147)) ≤ 1 then (if ((t148 == t147) == ((Int.tmod a0 65536) == 0)) = true then ((mutoscopelaw05_awake.f kj2).bind fun t158 => (some t158)) else (some false)) else (some false)) else (some false)) else (some false)) else (some false))) else (some false)))) else (some false)) = some r := H
          have A34 := Aside0.mk A340
          clear A340
          by_cases c35 : t153 = t154
          · rw [if_pos c35] at H
            have c35b0 : (t153 == t154) = true := beq_iff_eq.mpr c35
            have c35b1 : (t153 != t154) = false := bne_eq_false_iff_eq.mpr c35
            clear c35
            replace H := Option.bind_eq_some_iff.mp H
            obtain ⟨t155, A360, H⟩ := H
            replace H : ((fix_Mul.f a0 a1).bind fun t156 => (if t155 = t156 then ((mutoscoperef05_Floor.f kj2 a0 65536).bind fun t157 => (if t147 = t157 then (if (wrap64 (t147 * 65536)) ≤ a0 then (if (wrap64 (t148 * 65536)) ≥ a0 then (if (wrap64 (t148 - t147)) ≤ 1 then (if ((t148 == t147) == ((Int.tmod a0 65536) == 0)) = true then ((mutoscopelaw05_awake.f kj2).bind fun t158 => (some t158)) else (some false)) else (some false)) else (some false)) else (some false)) else (some false))) else (some false))) = some r := H
            have A36 := Aside0.mk A360
            clear A360
            replace H := Option.bind_eq_some_iff.mp H
            obtain ⟨t156, A370, H⟩ := H
            obtain rfl : t156 = t153 := Option.some.inj (A370.symm.trans A33.out)
            replace H : (if t155 = t156 then ((mutoscoperef05_Floor.f kj2 a0 65536).bind fun t157 => (if t147 = t157 then (if (wrap64 (t147 * 65536)) ≤ a0 then (if (wrap64 (t148 * 65536)) ≥ a0 then (if (wrap64 (t148 - t147)) ≤ 1 then (if ((t148 == t147) == ((Int.tmod a0 65536) == 0)) = true then ((mutoscopelaw05_awake.f kj2).bind fun t158 => (some t158)) else (some false)) else (some false)) else (some false)) else (some false)) else (some false))) else (some false)) = some r := H
            have A37 := Aside0.mk A370
            clear A370
            by_cases c38 : t155 = t156
            · rw [if_pos c38] at H
              have c38b0 : (t155 == t156) = true := beq_iff_eq.mpr c38
              have c38b1 : (t155 != t156) = false := bne_eq_false_iff_eq.mpr c38
              clear c38
              replace H := Option.bind_eq_some_iff.mp H
              obtain ⟨t157, A390, H⟩ := H
              replace H : (if t147 = t157 then (if (wrap64 (t147 * 65536)) ≤ a0 then (if (wrap64 (t148 * 65536)) ≥ a0 then (if (wrap64 (t148 - t147)) ≤ 1 then (if ((t148 == t147) == ((Int.tmod a0 65536) == 0)) = true then ((mutoscopelaw05_awake.f kj2).bind fun t158 => (some t158)) else (some false)) else (some false)) else (some false)) else (some false)) else (some false)) = some r := H
              have A39 := Aside0.mk A390
              clear A390
              by_cases c40 : t147 = t157
              · rw [if_pos c40] at H
                have c40b0 : (t147 == t157) = true := beq_iff_eq.mpr c40
                have c40b1 : (t147 != t157) = false := bne_eq_false_iff_eq.mpr c40
                clear c40
                by_cases c41 : (wrap64 (t147 * 65536)) ≤ a0
                · rw [if_pos c41] at H
                  have c41b0 : decide ((wrap64 (t147 * 65536)) ≤ a0) = true := decide_eq_true c41
                  clear c41
                  by_cases c42 : (wrap64 (t148 * 65536)) ≥ a0
                  · rw [if_pos c42] at H
                    have c42b0 : decide (a0 ≤ (wrap64 (t148 * 65536))) = true := decide_eq_true c42
                    clear c42
                    by_cases c43 : (wrap64 (t148 - t147)) ≤ 1
                    · rw [if_pos c43] at H
                      have c43b0 : decide ((wrap64 (t148 - t147)) ≤ 1) = true := decide_eq_true c43
                      clear c43
                      by_cases c44 : ((t148 == t147) == ((Int.tmod a0 65536) == 0)) = true
                      · rw [if_pos c44] at H
                        have c44b0 : ((t148 == t147) == ((Int.tmod a0 65536) == 0)) = true := c44
                        (try (have c44b1 : decide ((t148 == t147) = ((Int.tmod a0 65536) == 0)) = true := by simpa using c44))
                        (try (have c44b2 : ((t148 == t147) == ((Int.tmod a0 65536) == 0)) = true := by simpa using c44))
                        clear c44
                        replace H := Option.bind_eq_some_iff.mp H
                        obtain ⟨t158, A450, H⟩ := H
                        replace H : (some t158) = some r := H
                        have A45 := Aside0.mk A450
                        clear A450
                        obtain rfl := Option.some.inj H
                        go_wp2_with (first | ((with_reducible refine gate_callee (f := 24) rfl ?_); refine goesL_ (some 31) rfl rfl Try.func24 (by kernel_rfl) rfl #[.int .i64 a0] rfl (by (try simp only [List.map_toArray, List.map_cons, List.map_nil]); first | done | rfl | (simp only [List.length_drop, List.length_take]; rfl)) ?_; (with_reducible refine (fix_Floor.calls a0 t147 _ A29.out).mono ?_); rintro e w' ⟨rfl, ⟨nd, rfl⟩⟩; refine ⟨_, rfl, ?_⟩) | ((with_reducible refine gate_callee (f := 25) rfl ?_); refine goesL_ (some 33) rfl rfl Try.func25 (by kernel_rfl) rfl #[.int .i64 a0] rfl (by (try simp only [List.map_toArray, List.map_cons, List.map_nil]); first | done | rfl | (simp only [List.length_drop, List.length_take]; rfl)) ?_; (with_reducible refine (fix_Ceil.calls a0 t148 _ A30.out).mono ?_); rintro e w' ⟨rfl, ⟨nd, rfl⟩⟩; refine ⟨_, rfl, ?_⟩) | ((with_reducible refine gate_dst (N := 36) rfl ?_); (try (refine gate_guard (by rfl) ?_; dsimp only)); refine Kd.R_lit (Kd.int .i64) _ 2 ?hg (N := 36) ?hd (xs := ([a0, a1] : List Int)) (inner := [.int .i64 a0, .int .i64 a1]) (ok := fun _ => True) (okp := fun _ => True) ?hr ?hp (fun _ hk => hk) trivial (Below.refl _ _) (Nat.le_refl _) (by simp) ?_; (case hd => rfl); (case hg => rfl); (case hr => first | (go_simp; done) | (go_simp; rfl)); (case hp => exact (Reps.one (show Kd.M (Kd.int .i64) _ _ _ a0 [.int .i64 a0] from rfl) (Reps.one (show Kd.M (Kd.int .i64) _ _ _ a1 [.int .i64 a1] from rfl) (Reps.none _ _)))); intro v150 w46 ho47 hb hg_ hnew_; clear hg_ hnew_; (first | rw [← Ny149.out] at ho47 | (simp only [Int.reduceToNat] at ho47; rw [← Ny149.out] at ho47)); have n0_ := Aside0.mk (Kd.R_lower ho47 (below_size (by repeat (first | (with_reducible first | exact HB.out | apply below_alloc | apply pw_below_drewN | apply below_drew1) | exact HB.out)))); have n1_ := Aside0.mk (below_step (by repeat (first | (with_reducible first | exact HB.out | apply below_alloc | apply pw_below_drewN | apply below_drew1) | exact HB.out)) hb); clear HB; have HO151 := n0_; have HB := n1_; clear n0_ n1_; clear hb ho47; obtain ⟨Ao48, co48, eo48⟩ := Kd.R_slice HO151.out; subst eo48) | ((with_reducible refine gate_callee (f := 23) rfl ?_); refine goesL_ (some 37) rfl rfl Try.func23 (by kernel_rfl) rfl #[.slice Ao48 y149.length co48] rfl (by (try simp only [List.map_toArray, List.map_cons, List.map_nil]); first | done | rfl | (simp only [List.length_drop, List.length_take]; rfl)) ?_; (with_reducible refine (fix_Right.calls kj2 _ _ y149 true _ ?side1 ?side2 A31.out).mono ?_); (case side1 => repeat (first | exact (Kd.R_reads' HO151.out).2.2 | (with_reducible refine Kd.C_alloc ?_ _) | (with_reducible refine Kd.C_drewN ?_ _) | (with_reducible refine Kd.C_drew ?_))); (case side2 => exact (Kd.R_reads' HO151.out).2.1); rintro e w' ⟨rfl, ⟨nd, rfl⟩⟩; refine ⟨_, rfl, ?_⟩) | (go_at_call 26; (with_reducible refine (fix_Mul.calls a0 a1 t153 _ A33.out).mono ?_); rintro e w' ⟨rfl, ⟨nd, rfl⟩⟩) | (go_at_call 27; (with_reducible refine (mutoscoperef05_Mul.calls kj2 a0 a1 t154 _ A34.out).mono ?_); rintro e w' ⟨rfl, ⟨nd, rfl⟩⟩) | (go_at_call 26; (with_reducible refine (fix_Mul.calls a1 a0 t155 _ A36.out).mono ?_); rintro e w' ⟨rfl, ⟨nd, rfl⟩⟩) | (go_at_call 26; (with_reducible refine (fix_Mul.calls a0 a1 t156 _ A37.out).mono ?_); rintro e w' ⟨rfl, ⟨nd, rfl⟩⟩) | (go_at_call 28; (with_reducible refine (mutoscoperef05_Floor.calls kj2 a0 65536 t157 _ A39.out).mono ?_); rintro e w' ⟨rfl, ⟨nd, rfl⟩⟩) | (go_at_call 19; (with_reducible refine (mutoscopelaw05_awake.calls kj2  t158 _ A45.out).mono ?_); rintro e w49 ⟨rfl, hb⟩; have n0_ := Aside0.mk (Kd.R_below (by (with_reducible repeat (first | apply Kd.R_alloc | apply Kd.R_drewN | apply Kd.R_drew)); exact HO151.out) hb); have n1_ := Aside0.mk (below_step (by repeat (first | (with_reducible first | exact HB.out | apply below_alloc | apply pw_below_drewN | apply below_drew1) | exact HB.out)) hb); clear HO151; clear HB; have HO151 := n0_; have HB := n1_; clear n0_ n1_; (try clear hb); (try clear hb2); (try clear hk); (try clear hi)))
                        go_ret
                        exact ⟨by first | rfl | (simp [errW_none, errW_some] <;> rfl) | (simp [*, errW_none, errW_some] <;> rfl), by repeat (first | (with_reducible first | exact HB.out | apply below_alloc | apply pw_below_drewN | apply below_drew1) | exact HB.out)⟩
                      · rw [if_neg c44] at H
                        have c44b0 : ((t148 == t147) == ((Int.tmod a0 65536) == 0)) = false := by simpa using c44
                        (try (have c44b1 : decide ((t148 == t147) = ((Int.tmod a0 65536) == 0)) = false := by simpa using c44))
                        (try (have c44b2 : ((t148 == t147) == ((Int.tmod a0 65536) == 0)) = false := by simpa using c44))
                        (try (have c44b3 : ¬ ((t148 == t147) = ((Int.tmod a0 65536) == 0)) := by simpa using c44))
                        clear c44
                        obtain rfl := Option.some.inj H
                        go_wp2_with (first | ((with_reducible refine gate_callee (f := 24) rfl ?_); refine goesL_ (some 31) rfl rfl Try.func24 (by kernel_rfl) rfl #[.int .i64 a0] rfl (by (try simp only [List.map_toArray, List.map_cons, List.map_nil]); first | done | rfl | (simp only [List.length_drop, List.length_take]; rfl)) ?_; (with_reducible refine (fix_Floor.calls a0 t147 _ A29.out).mono ?_); rintro e w' ⟨rfl, ⟨nd, rfl⟩⟩; refine ⟨_, rfl, ?_⟩) | ((with_reducible refine gate_callee (f := 25) rfl ?_); refine goesL_ (some 33) rfl rfl Try.func25 (by kernel_rfl) rfl #[.int .i64 a0] rfl (by (try simp only [List.map_toArray, List.map_cons, List.map_nil]); first | done | rfl | (simp only [List.length_drop, List.length_take]; rfl)) ?_; (with_reducible refine (fix_Ceil.calls a0 t148 _ A30.out).mono ?_); rintro e w' ⟨rfl, ⟨nd, rfl⟩⟩; refine ⟨_, rfl, ?_⟩) | ((with_reducible refine gate_dst (N := 36) rfl ?_); (try (refine gate_guard (by rfl) ?_; dsimp only)); refine Kd.R_lit (Kd.int .i64) _ 2 ?hg (N := 36) ?hd (xs := ([a0, a1] : List Int)) (inner := [.int .i64 a0, .int .i64 a1]) (ok := fun _ => True) (okp := fun _ => True) ?hr ?hp (fun _ hk => hk) trivial (Below.refl _ _) (Nat.le_refl _) (by simp) ?_; (case hd => rfl); (case hg => rfl); (case hr => first | (go_simp; done) | (go_simp; rfl)); (case hp => exact (Reps.one (show Kd.M (Kd.int .i64) _ _ _ a0 [.int .i64 a0] from rfl) (Reps.one (show Kd.M (Kd.int .i64) _ _ _ a1 [.int .i64 a1] from rfl) (Reps.none _ _)))); intro v150 w50 ho51 hb hg_ hnew_; clear hg_ hnew_; (first | rw [← Ny149.out] at ho51 | (simp only [Int.reduceToNat] at ho51; rw [← Ny149.out] at ho51)); have n0_ := Aside0.mk (Kd.R_lower ho51 (below_size (by repeat (first | (with_reducible first | exact HB.out | apply below_alloc | apply pw_below_drewN | apply below_drew1) | exact HB.out)))); have n1_ := Aside0.mk (below_step (by repeat (first | (with_reducible first | exact HB.out | apply below_alloc | apply pw_below_drewN | apply below_drew1) | exact HB.out)) hb); clear HB; have HO151 := n0_; have HB := n1_; clear n0_ n1_; clear hb ho51; obtain ⟨Ao52, co52, eo52⟩ := Kd.R_slice HO151.out; subst eo52) | ((with_reducible refine gate_callee (f := 23) rfl ?_); refine goesL_ (some 37) rfl rfl Try.func23 (by kernel_rfl) rfl #[.slice Ao52 y149.length co52] rfl (by (try simp only [List.map_toArray, List.map_cons, List.map_nil]); first | done | rfl | (simp only [List.length_drop, List.length_take]; rfl)) ?_; (with_reducible refine (fix_Right.calls kj2 _ _ y149 true _ ?side1 ?side2 A31.out).mono ?_); (case side1 => repeat (first | exact (Kd.R_reads' HO151.out).2.2 | (with_reducible refine Kd.C_alloc ?_ _) | (with_reducible refine Kd.C_drewN ?_ _) | (with_reducible refine Kd.C_drew ?_))); (case side2 => exact (Kd.R_reads' HO151.out).2.1); rintro e w' ⟨rfl, ⟨nd, rfl⟩⟩; refine ⟨_, rfl, ?_⟩) | (go_at_call 26; (with_reducible refine (fix_Mul.calls a0 a1 t153 _ A33.out).mono ?_); rintro e w' ⟨rfl, ⟨nd, rfl⟩⟩) | (go_at_call 27; (with_reducible refine (mutoscoperef05_Mul.calls kj2 a0 a1 t154 _ A34.out).mono ?_); rintro e w' ⟨rfl, ⟨nd, rfl⟩⟩) | (go_at_call 26; (with_reducible refine (fix_Mul.calls a1 a0 t155 _ A36.out).mono ?_); rintro e w' ⟨rfl, ⟨nd, rfl⟩⟩) | (go_at_call 26; (with_reducible refine (fix_Mul.calls a0 a1 t156 _ A37.out).mono ?_); rintro e w' ⟨rfl, ⟨nd, rfl⟩⟩) | (go_at_call 28; (with_reducible refine (mutoscoperef05_Floor.calls kj2 a0 65536 t157 _ A39.out).mono ?_); rintro e w' ⟨rfl, ⟨nd, rfl⟩⟩))
                        go_ret
                        exact ⟨by first | rfl | (simp [errW_none, errW_some] <;> rfl) | (simp [*, errW_none, errW_some] <;> rfl), by repeat (first | (with_reducible first | exact HB.out | apply below_alloc | apply pw_below_drewN | apply below_drew1) | exact HB.out)⟩
                    · rw [if_neg c43] at H
                      have c43b0 : decide ((wrap64 (t148 - t147)) ≤ 1) = false := decide_eq_false c43
                      clear c43
                      obtain rfl := Option.some.inj H
                      go_wp2_with (first | ((with_reducible refine gate_callee (f := 24) rfl ?_); refine goesL_ (some 31) rfl rfl Try.func24 (by kernel_rfl) rfl #[.int .i64 a0] rfl (by (try simp only [List.map_toArray, List.map_cons, List.map_nil]); first | done | rfl | (simp only [List.length_drop, List.length_take]; rfl)) ?_; (with_reducible refine (fix_Floor.calls a0 t147 _ A29.out).mono ?_); rintro e w' ⟨rfl, ⟨nd, rfl⟩⟩; refine ⟨_, rfl, ?_⟩) | ((with_reducible refine gate_callee (f := 25) rfl ?_); refine goesL_ (some 33) rfl rfl Try.func25 (by kernel_rfl) rfl #[.int .i64 a0] rfl (by (try simp only [List.map_toArray, List.map_cons, List.map_nil]); first | done | rfl | (simp only [List.length_drop, List.length_take]; rfl)) ?_; (with_reducible refine (fix_Ceil.calls a0 t148 _ A30.out).mono ?_); rintro e w' ⟨rfl, ⟨nd, rfl⟩⟩; refine ⟨_, rfl, ?_⟩) | ((with_reducible refine gate_dst (N := 36) rfl ?_); (try (refine gate_guard (by rfl) ?_; dsimp only)); refine Kd.R_lit (Kd.int .i64) _ 2 ?hg (N := 36) ?hd (xs := ([a0, a1] : List Int)) (inner := [.int .i64 a0, .int .i64 a1]) (ok := fun _ => True) (okp := fun _ => True) ?hr ?hp (fun _ hk => hk) trivial (Below.refl _ _) (Nat.le_refl _) (by simp) ?_; (case hd => rfl); (case hg => rfl); (case hr => first | (go_simp; done) | (go_simp; rfl)); (case hp => exact (Reps.one (show Kd.M (Kd.int .i64) _ _ _ a0 [.int .i64 a0] from rfl) (Reps.one (show Kd.M (Kd.int .i64) _ _ _ a1 [.int .i64 a1] from rfl) (Reps.none _ _)))); intro v150 w53 ho54 hb hg_ hnew_; clear hg_ hnew_; (first | rw [← Ny149.out] at ho54 | (simp only [Int.reduceToNat] at ho54; rw [← Ny149.out] at ho54)); have n0_ := Aside0.mk (Kd.R_lower ho54 (below_size (by repeat (first | (with_reducible first | exact HB.out | apply below_alloc | apply pw_below_drewN | apply below_drew1) | exact HB.out)))); have n1_ := Aside0.mk (below_step (by repeat (first | (with_reducible first | exact HB.out | apply below_alloc | apply pw_below_drewN | apply below_drew1) | exact HB.out)) hb); clear HB; have HO151 := n0_; have HB := n1_; clear n0_ n1_; clear hb ho54; obtain ⟨Ao55, co55, eo55⟩ := Kd.R_slice HO151.out; subst eo55) | ((with_reducible refine gate_callee (f := 23) rfl ?_); refine goesL_ (some 37) rfl rfl Try.func23 (by kernel_rfl) rfl #[.slice Ao55 y149.length co55] rfl (by (try simp only [List.map_toArray, List.map_cons, List.map_nil]); first | done | rfl | (simp only [List.length_drop, List.length_take]; rfl)) ?_; (with_reducible refine (fix_Right.calls kj2 _ _ y149 true _ ?side1 ?side2 A31.out).mono ?_); (case side1 => repeat (first | exact (Kd.R_reads' HO151.out).2.2 | (with_reducible refine Kd.C_alloc ?_ _) | (with_reducible refine Kd.C_drewN ?_ _) | (with_reducible refine Kd.C_drew ?_))); (case side2 => exact (Kd.R_reads' HO151.out).2.1); rintro e w' ⟨rfl, ⟨nd, rfl⟩⟩; refine ⟨_, rfl, ?_⟩) | (go_at_call 26; (with_reducible refine (fix_Mul.calls a0 a1 t153 _ A33.out).mono ?_); rintro e w' ⟨rfl, ⟨nd, rfl⟩⟩) | (go_at_call 27; (with_reducible refine (mutoscoperef05_Mul.calls kj2 a0 a1 t154 _ A34.out).mono ?_); rintro e w' ⟨rfl, ⟨nd, rfl⟩⟩) | (go_at_call 26; (with_reducible refine (fix_Mul.calls a1 a0 t155 _ A36.out).mono ?_); rintro e w' ⟨rfl, ⟨nd, rfl⟩⟩) | (go_at_call 26; (with_reducible refine (fix_Mul.calls a0 a1 t156 _ A37.out).mono ?_); rintro e w' ⟨rfl, ⟨nd, rfl⟩⟩) | (go_at_call 28; (with_reducible refine (mutoscoperef05_Floor.calls kj2 a0 65536 t157 _ A39.out).mono ?_); rintro e w' ⟨rfl, ⟨nd, rfl⟩⟩))
                      go_ret
                      exact ⟨by first | rfl | (simp [errW_none, errW_some] <;> rfl) | (simp [*, errW_none, errW_some] <;> rfl), by repeat (first | (with_reducible first | exact HB.out | apply below_alloc | apply pw_below_drewN | apply below_drew1) | exact HB.out)⟩
                  · rw [if_neg c42] at H
                    have c42b0 : decide (a0 ≤ (wrap64 (t148 * 65536))) = false := decide_eq_false c42
                    clear c42
                    obtain rfl := Option.some.inj H
                    go_wp2_with (first | ((with_reducible refine gate_callee (f := 24) rfl ?_); refine goesL_ (some 31) rfl rfl Try.func24 (by kernel_rfl) rfl #[.int .i64 a0] rfl (by (try simp only [List.map_toArray, List.map_cons, List.map_nil]); first | done | rfl | (simp only [List.length_drop, List.length_take]; rfl)) ?_; (with_reducible refine (fix_Floor.calls a0 t147 _ A29.out).mono ?_); rintro e w' ⟨rfl, ⟨nd, rfl⟩⟩; refine ⟨_, rfl, ?_⟩) | ((with_reducible refine gate_callee (f := 25) rfl ?_); refine goesL_ (some 33) rfl rfl Try.func25 (by kernel_rfl) rfl #[.int .i64 a0] rfl (by (try simp only [List.map_toArray, List.map_cons, List.map_nil]); first | done | rfl | (simp only [List.length_drop, List.length_take]; rfl)) ?_; (with_reducible refine (fix_Ceil.calls a0 t148 _ A30.out).mono ?_); rintro e w' ⟨rfl, ⟨nd, rfl⟩⟩; refine ⟨_, rfl, ?_⟩) | ((with_reducible refine gate_dst (N := 36) rfl ?_); (try (refine gate_guard (by rfl) ?_; dsimp only)); refine Kd.R_lit (Kd.int .i64) _ 2 ?hg (N := 36) ?hd (xs := ([a0, a1] : List Int)) (inner := [.int .i64 a0, .int .i64 a1]) (ok := fun _ => True) (okp := fun _ => True) ?hr ?hp (fun _ hk => hk) trivial (Below.refl _ _) (Nat.le_refl _) (by simp) ?_; (case hd => rfl); (case hg => rfl); (case hr => first | (go_simp; done) | (go_simp; rfl)); (case hp => exact (Reps.one (show Kd.M (Kd.int .i64) _ _ _ a0 [.int .i64 a0] from rfl) (Reps.one (show Kd.M (Kd.int .i64) _ _ _ a1 [.int .i64 a1] from rfl) (Reps.none _ _)))); intro v150 w56 ho57 hb hg_ hnew_; clear hg_ hnew_; (first | rw [← Ny149.out] at ho57 | (simp only [Int.reduceToNat] at ho57; rw [← Ny149.out] at ho57)); have n0_ := Aside0.mk (Kd.R_lower ho57 (below_size (by repeat (first | (with_reducible first | exact HB.out | apply below_alloc | apply pw_below_drewN | apply below_drew1) | exact HB.out)))); have n1_ := Aside0.mk (below_step (by repeat (first | (with_reducible first | exact HB.out | apply below_alloc | apply pw_below_drewN | apply below_drew1) | exact HB.out)) hb); clear HB; have HO151 := n0_; have HB := n1_; clear n0_ n1_; clear hb ho57; obtain ⟨Ao58, co58, eo58⟩ := Kd.R_slice HO151.out; subst eo58) | ((with_reducible refine gate_callee (f := 23) rfl ?_); refine goesL_ (some 37) rfl rfl Try.func23 (by kernel_rfl) rfl #[.slice Ao58 y149.length co58] rfl (by (try simp only [List.map_toArray, List.map_cons, List.map_nil]); first | done | rfl | (simp only [List.length_drop, List.length_take]; rfl)) ?_; (with_reducible refine (fix_Right.calls kj2 _ _ y149 true _ ?side1 ?side2 A31.out).mono ?_); (case side1 => repeat (first | exact (Kd.R_reads' HO151.out).2.2 | (with_reducible refine Kd.C_alloc ?_ _) | (with_reducible refine Kd.C_drewN ?_ _) | (with_reducible refine Kd.C_drew ?_))); (case side2 => exact (Kd.R_reads' HO151.out).2.1); rintro e w' ⟨rfl, ⟨nd, rfl⟩⟩; refine ⟨_, rfl, ?_⟩) | (go_at_call 26; (with_reducible refine (fix_Mul.calls a0 a1 t153 _ A33.out).mono ?_); rintro e w' ⟨rfl, ⟨nd, rfl⟩⟩) | (go_at_call 27; (with_reducible refine (mutoscoperef05_Mul.calls kj2 a0 a1 t154 _ A34.out).mono ?_); rintro e w' ⟨rfl, ⟨nd, rfl⟩⟩) | (go_at_call 26; (with_reducible refine (fix_Mul.calls a1 a0 t155 _ A36.out).mono ?_); rintro e w' ⟨rfl, ⟨nd, rfl⟩⟩) | (go_at_call 26; (with_reducible refine (fix_Mul.calls a0 a1 t156 _ A37.out).mono ?_); rintro e w' ⟨rfl, ⟨nd, rfl⟩⟩) | (go_at_call 28; (with_reducible refine (mutoscoperef05_Floor.calls kj2 a0 65536 t157 _ A39.out).mono ?_); rintro e w' ⟨rfl, ⟨nd, rfl⟩⟩))
                    go_ret
                    exact ⟨by first | rfl | (simp [errW_none, errW_some] <;> rfl) | (simp [*, errW_none, errW_some] <;> rfl), by repeat (first | (with_reducible first | exact HB.out | apply below_alloc | apply pw_below_drewN | apply below_drew1) | exact HB.out)⟩
                · rw [if_neg c41] at H
                  have c41b0 : decide ((wrap64 (t147 * 65536)) ≤ a0) = false := decide_eq_false c41
                  clear c41
                  obtain rfl := Option.some.inj H
                  go_wp2_with (first | ((with_reducible refine gate_callee (f := 24) rfl ?_); refine goesL_ (some 31) rfl rfl Try.func24 (by kernel_rfl) rfl #[.int .i64 a0] rfl (by (try simp only [List.map_toArray, List.map_cons, List.map_nil]); first | done | rfl | (simp only [List.length_drop, List.length_take]; rfl)) ?_; (with_reducible refine (fix_Floor.calls a0 t147 _ A29.out).mono ?_); rintro e w' ⟨rfl, ⟨nd, rfl⟩⟩; refine ⟨_, rfl, ?_⟩) | ((with_reducible refine gate_callee (f := 25) rfl ?_); refine goesL_ (some 33) rfl rfl Try.func25 (by kernel_rfl) rfl #[.int .i64 a0] rfl (by (try simp only [List.map_toArray, List.map_cons, List.map_nil]); first | done | rfl | (simp only [List.length_drop, List.length_take]; rfl)) ?_; (with_reducible refine (fix_Ceil.calls a0 t148 _ A30.out).mono ?_); rintro e w' ⟨rfl, ⟨nd, rfl⟩⟩; refine ⟨_, rfl, ?_⟩) | ((with_reducible refine gate_dst (N := 36) rfl ?_); (try (refine gate_guard (by rfl) ?_; dsimp only)); refine Kd.R_lit (Kd.int .i64) _ 2 ?hg (N := 36) ?hd (xs := ([a0, a1] : List Int)) (inner := [.int .i64 a0, .int .i64 a1]) (ok := fun _ => True) (okp := fun _ => True) ?hr ?hp (fun _ hk => hk) trivial (Below.refl _ _) (Nat.le_refl _) (by simp) ?_; (case hd => rfl); (case hg => rfl); (case hr => first | (go_simp; done) | (go_simp; rfl)); (case hp => exact (Reps.one (show Kd.M (Kd.int .i64) _ _ _ a0 [.int .i64 a0] from rfl) (Reps.one (show Kd.M (Kd.int .i64) _ _ _ a1 [.int .i64 a1] from rfl) (Reps.none _ _)))); intro v150 w59 ho60 hb hg_ hnew_; clear hg_ hnew_; (first | rw [← Ny149.out] at ho60 | (simp only [Int.reduceToNat] at ho60; rw [← Ny149.out] at ho60)); have n0_ := Aside0.mk (Kd.R_lower ho60 (below_size (by repeat (first | (with_reducible first | exact HB.out | apply below_alloc | apply pw_below_drewN | apply below_drew1) | exact HB.out)))); have n1_ := Aside0.mk (below_step (by repeat (first | (with_reducible first | exact HB.out | apply below_alloc | apply pw_below_drewN | apply below_drew1) | exact HB.out)) hb); clear HB; have HO151 := n0_; have HB := n1_; clear n0_ n1_; clear hb ho60; obtain ⟨Ao61, co61, eo61⟩ := Kd.R_slice HO151.out; subst eo61) | ((with_reducible refine gate_callee (f := 23) rfl ?_); refine goesL_ (some 37) rfl rfl Try.func23 (by kernel_rfl) rfl #[.slice Ao61 y149.length co61] rfl (by (try simp only [List.map_toArray, List.map_cons, List.map_nil]); first | done | rfl | (simp only [List.length_drop, List.length_take]; rfl)) ?_; (with_reducible refine (fix_Right.calls kj2 _ _ y149 true _ ?side1 ?side2 A31.out).mono ?_); (case side1 => repeat (first | exact (Kd.R_reads' HO151.out).2.2 | (with_reducible refine Kd.C_alloc ?_ _) | (with_reducible refine Kd.C_drewN ?_ _) | (with_reducible refine Kd.C_drew ?_))); (case side2 => exact (Kd.R_reads' HO151.out).2.1); rintro e w' ⟨rfl, ⟨nd, rfl⟩⟩; refine ⟨_, rfl, ?_⟩) | (go_at_call 26; (with_reducible refine (fix_Mul.calls a0 a1 t153 _ A33.out).mono ?_); rintro e w' ⟨rfl, ⟨nd, rfl⟩⟩) | (go_at_call 27; (with_reducible refine (mutoscoperef05_Mul.calls kj2 a0 a1 t154 _ A34.out).mono ?_); rintro e w' ⟨rfl, ⟨nd, rfl⟩⟩) | (go_at_call 26; (with_reducible refine (fix_Mul.calls a1 a0 t155 _ A36.out).mono ?_); rintro e w' ⟨rfl, ⟨nd, rfl⟩⟩) | (go_at_call 26; (with_reducible refine (fix_Mul.calls a0 a1 t156 _ A37.out).mono ?_); rintro e w' ⟨rfl, ⟨nd, rfl⟩⟩) | (go_at_call 28; (with_reducible refine (mutoscoperef05_Floor.calls kj2 a0 65536 t157 _ A39.out).mono ?_); rintro e w' ⟨rfl, ⟨nd, rfl⟩⟩))
                  go_ret
                  exact ⟨by first | rfl | (simp [errW_none, errW_some] <;> rfl) | (simp [*, errW_none, errW_some] <;> rfl), by repeat (first | (with_reducible first | exact HB.out | apply below_alloc | apply pw_below_drewN | apply below_drew1) | exact HB.out)⟩
              · rw [if_neg c40] at H
                have c40b0 : (t147 == t157) = false := beq_eq_false_iff_ne.mpr c40
                have c40b1 : (t147 != t157) = true := bne_iff_ne.mpr c40
                obtain rfl := Option.some.inj H
                go_wp2_with (first | ((with_reducible refine gate_callee (f := 24) rfl ?_); refine goesL_ (some 31) rfl rfl Try.func24 (by kernel_rfl) rfl #[.int .i64 a0] rfl (by (try simp only [List.map_toArray, List.map_cons, List.map_nil]); first | done | rfl | (simp only [List.length_drop, List.length_take]; rfl)) ?_; (with_reducible refine (fix_Floor.calls a0 t147 _ A29.out).mono ?_); rintro e w' ⟨rfl, ⟨nd, rfl⟩⟩; refine ⟨_, rfl, ?_⟩) | ((with_reducible refine gate_callee (f := 25) rfl ?_); refine goesL_ (some 33) rfl rfl Try.func25 (by kernel_rfl) rfl #[.int .i64 a0] rfl (by (try simp only [List.map_toArray, List.map_cons, List.map_nil]); first | done | rfl | (simp only [List.length_drop, List.length_take]; rfl)) ?_; (with_reducible refine (fix_Ceil.calls a0 t148 _ A30.out).mono ?_); rintro e w' ⟨rfl, ⟨nd, rfl⟩⟩; refine ⟨_, rfl, ?_⟩) | ((with_reducible refine gate_dst (N := 36) rfl ?_); (try (refine gate_guard (by rfl) ?_; dsimp only)); refine Kd.R_lit (Kd.int .i64) _ 2 ?hg (N := 36) ?hd (xs := ([a0, a1] : List Int)) (inner := [.int .i64 a0, .int .i64 a1]) (ok := fun _ => True) (okp := fun _ => True) ?hr ?hp (fun _ hk => hk) trivial (Below.refl _ _) (Nat.le_refl _) (by simp) ?_; (case hd => rfl); (case hg => rfl); (case hr => first | (go_simp; done) | (go_simp; rfl)); (case hp => exact (Reps.one (show Kd.M (Kd.int .i64) _ _ _ a0 [.int .i64 a0] from rfl) (Reps.one (show Kd.M (Kd.int .i64) _ _ _ a1 [.int .i64 a1] from rfl) (Reps.none _ _)))); intro v150 w62 ho63 hb hg_ hnew_; clear hg_ hnew_; (first | rw [← Ny149.out] at ho63 | (simp only [Int.reduceToNat] at ho63; rw [← Ny149.out] at ho63)); have n0_ := Aside0.mk (Kd.R_lower ho63 (below_size (by repeat (first | (with_reducible first | exact HB.out | apply below_alloc | apply pw_below_drewN | apply below_drew1) | exact HB.out)))); have n1_ := Aside0.mk (below_step (by repeat (first | (with_reducible first | exact HB.out | apply below_alloc | apply pw_below_drewN | apply below_drew1) | exact HB.out)) hb); clear HB; have HO151 := n0_; have HB := n1_; clear n0_ n1_; clear hb ho63; obtain ⟨Ao64, co64, eo64⟩ := Kd.R_slice HO151.out; subst eo64) | ((with_reducible refine gate_callee (f := 23) rfl ?_); refine goesL_ (some 37) rfl rfl Try.func23 (by kernel_rfl) rfl #[.slice Ao64 y149.length co64] rfl (by (try simp only [List.map_toArray, List.map_cons, List.map_nil]); first | done | rfl | (simp only [List.length_drop, List.length_take]; rfl)) ?_; (with_reducible refine (fix_Right.calls kj2 _ _ y149 true _ ?side1 ?side2 A31.out).mono ?_); (case side1 => repeat (first | exact (Kd.R_reads' HO151.out).2.2 | (with_reducible refine Kd.C_alloc ?_ _) | (with_reducible refine Kd.C_drewN ?_ _) | (with_reducible refine Kd.C_drew ?_))); (case side2 => exact (Kd.R_reads' HO151.out).2.1); rintro e w' ⟨rfl, ⟨nd, rfl⟩⟩; refine ⟨_, rfl, ?_⟩) | (go_at_call 26; (with_reducible refine (fix_Mul.calls a0 a1 t153 _ A33.out).mono ?_); rintro e w' ⟨rfl, ⟨nd, rfl⟩⟩) | (go_at_call 27; (with_reducible refine (mutoscoperef05_Mul.calls kj2 a0 a1 t154 _ A34.out).mono ?_); rintro e w' ⟨rfl, ⟨nd, rfl⟩⟩) | (go_at_call 26; (with_reducible refine (fix_Mul.calls a1 a0 t155 _ A36.out).mono ?_); rintro e w' ⟨rfl, ⟨nd, rfl⟩⟩) | (go_at_call 26; (with_reducible refine (fix_Mul.calls a0 a1 t156 _ A37.out).mono ?_); rintro e w' ⟨rfl, ⟨nd, rfl⟩⟩) | (go_at_call 28; (with_reducible refine (mutoscoperef05_Floor.calls kj2 a0 65536 t157 _ A39.out).mono ?_); rintro e w' ⟨rfl, ⟨nd, rfl⟩⟩))
                go_ret
                exact ⟨by first | rfl | (simp [errW_none, errW_some] <;> rfl) | (simp [*, errW_none, errW_some] <;> rfl), by repeat (first | (with_reducible first | exact HB.out | apply below_alloc | apply pw_below_drewN | apply below_drew1) | exact HB.out)⟩
            · rw [if_neg c38] at H
              have c38b0 : (t155 == t156) = false := beq_eq_false_iff_ne.mpr c38
              have c38b1 : (t155 != t156) = true := bne_iff_ne.mpr c38
              obtain rfl := Option.some.inj H
              go_wp2_with (first | ((with_reducible refine gate_callee (f := 24) rfl ?_); refine goesL_ (some 31) rfl rfl Try.func24 (by kernel_rfl) rfl #[.int .i64 a0] rfl (by (try simp only [List.map_toArray, List.map_cons, List.map_nil]); first | done | rfl | (simp only [List.length_drop, List.length_take]; rfl)) ?_; (with_reducible refine (fix_Floor.calls a0 t147 _ A29.out).mono ?_); rintro e w' ⟨rfl, ⟨nd, rfl⟩⟩; refine ⟨_, rfl, ?_⟩) | ((with_reducible refine gate_callee (f := 25) rfl ?_); refine goesL_ (some 33) rfl rfl Try.func25 (by kernel_rfl) rfl #[.int .i64 a0] rfl (by (try simp only [List.map_toArray, List.map_cons, List.map_nil]); first | done | rfl | (simp only [List.length_drop, List.length_take]; rfl)) ?_; (with_reducible refine (fix_Ceil.calls a0 t148 _ A30.out).mono ?_); rintro e w' ⟨rfl, ⟨nd, rfl⟩⟩; refine ⟨_, rfl, ?_⟩) | ((with_reducible refine gate_dst (N := 36) rfl ?_); (try (refine gate_guard (by rfl) ?_; dsimp only)); refine Kd.R_lit (Kd.int .i64) _ 2 ?hg (N := 36) ?hd (xs := ([a0, a1] : List Int)) (inner := [.int .i64 a0, .int .i64 a1]) (ok := fun _ => True) (okp := fun _ => True) ?hr ?hp (fun _ hk => hk) trivial (Below.refl _ _) (Nat.le_refl _) (by simp) ?_; (case hd => rfl); (case hg => rfl); (case hr => first | (go_simp; done) | (go_simp; rfl)); (case hp => exact (Reps.one (show Kd.M (Kd.int .i64) _ _ _ a0 [.int .i64 a0] from rfl) (Reps.one (show Kd.M (Kd.int .i64) _ _ _ a1 [.int .i64 a1] from rfl) (Reps.none _ _)))); intro v150 w65 ho66 hb hg_ hnew_; clear hg_ hnew_; (first | rw [← Ny149.out] at ho66 | (simp only [Int.reduceToNat] at ho66; rw [← Ny149.out] at ho66)); have n0_ := Aside0.mk (Kd.R_lower ho66 (below_size (by repeat (first | (with_reducible first | exact HB.out | apply below_alloc | apply pw_below_drewN | apply below_drew1) | exact HB.out)))); have n1_ := Aside0.mk (below_step (by repeat (first | (with_reducible first | exact HB.out | apply below_alloc | apply pw_below_drewN | apply below_drew1) | exact HB.out)) hb); clear HB; have HO151 := n0_; have HB := n1_; clear n0_ n1_; clear hb ho66; obtain ⟨Ao67, co67, eo67⟩ := Kd.R_slice HO151.out; subst eo67) | ((with_reducible refine gate_callee (f := 23) rfl ?_); refine goesL_ (some 37) rfl rfl Try.func23 (by kernel_rfl) rfl #[.slice Ao67 y149.length co67] rfl (by (try simp only [List.map_toArray, List.map_cons, List.map_nil]); first | done | rfl | (simp only [List.length_drop, List.length_take]; rfl)) ?_; (with_reducible refine (fix_Right.calls kj2 _ _ y149 true _ ?side1 ?side2 A31.out).mono ?_); (case side1 => repeat (first | exact (Kd.R_reads' HO151.out).2.2 | (with_reducible refine Kd.C_alloc ?_ _) | (with_reducible refine Kd.C_drewN ?_ _) | (with_reducible refine Kd.C_drew ?_))); (case side2 => exact (Kd.R_reads' HO151.out).2.1); rintro e w' ⟨rfl, ⟨nd, rfl⟩⟩; refine ⟨_, rfl, ?_⟩) | (go_at_call 26; (with_reducible refine (fix_Mul.calls a0 a1 t153 _ A33.out).mono ?_); rintro e w' ⟨rfl, ⟨nd, rfl⟩⟩) | (go_at_call 27; (with_reducible refine (mutoscoperef05_Mul.calls kj2 a0 a1 t154 _ A34.out).mono ?_); rintro e w' ⟨rfl, ⟨nd, rfl⟩⟩) | (go_at_call 26; (with_reducible refine (fix_Mul.calls a1 a0 t155 _ A36.out).mono ?_); rintro e w' ⟨rfl, ⟨nd, rfl⟩⟩) | (go_at_call 26; (with_reducible refine (fix_Mul.calls a0 a1 t156 _ A37.out).mono ?_); rintro e w' ⟨rfl, ⟨nd, rfl⟩⟩))
              go_ret
              exact ⟨by first | rfl | (simp [errW_none, errW_some] <;> rfl) | (simp [*, errW_none, errW_some] <;> rfl), by repeat (first | (with_reducible first | exact HB.out | apply below_alloc | apply pw_below_drewN | apply below_drew1) | exact HB.out)⟩
          · rw [if_neg c35] at H
            have c35b0 : (t153 == t154) = false := beq_eq_false_iff_ne.mpr c35
            have c35b1 : (t153 != t154) = true := bne_iff_ne.mpr c35
            obtain rfl := Option.some.inj H
            go_wp2_with (first | ((with_reducible refine gate_callee (f := 24) rfl ?_); refine goesL_ (some 31) rfl rfl Try.func24 (by kernel_rfl) rfl #[.int .i64 a0] rfl (by (try simp only [List.map_toArray, List.map_cons, List.map_nil]); first | done | rfl | (simp only [List.length_drop, List.length_take]; rfl)) ?_; (with_reducible refine (fix_Floor.calls a0 t147 _ A29.out).mono ?_); rintro e w' ⟨rfl, ⟨nd, rfl⟩⟩; refine ⟨_, rfl, ?_⟩) | ((with_reducible refine gate_callee (f := 25) rfl ?_); refine goesL_ (some 33) rfl rfl Try.func25 (by kernel_rfl) rfl #[.int .i64 a0] rfl (by (try simp only [List.map_toArray, List.map_cons, List.map_nil]); first | done | rfl | (simp only [List.length_drop, List.length_take]; rfl)) ?_; (with_reducible refine (fix_Ceil.calls a0 t148 _ A30.out).mono ?_); rintro e w' ⟨rfl, ⟨nd, rfl⟩⟩; refine ⟨_, rfl, ?_⟩) | ((with_reducible refine gate_dst (N := 36) rfl ?_); (try (refine gate_guard (by rfl) ?_; dsimp only)); refine Kd.R_lit (Kd.int .i64) _ 2 ?hg (N := 36) ?hd (xs := ([a0, a1] : List Int)) (inner := [.int .i64 a0, .int .i64 a1]) (ok := fun _ => True) (okp := fun _ => True) ?hr ?hp (fun _ hk => hk) trivial (Below.refl _ _) (Nat.le_refl _) (by simp) ?_; (case hd => rfl); (case hg => rfl); (case hr => first | (go_simp; done) | (go_simp; rfl)); (case hp => exact (Reps.one (show Kd.M (Kd.int .i64) _ _ _ a0 [.int .i64 a0] from rfl) (Reps.one (show Kd.M (Kd.int .i64) _ _ _ a1 [.int .i64 a1] from rfl) (Reps.none _ _)))); intro v150 w68 ho69 hb hg_ hnew_; clear hg_ hnew_; (first | rw [← Ny149.out] at ho69 | (simp only [Int.reduceToNat] at ho69; rw [← Ny149.out] at ho69)); have n0_ := Aside0.mk (Kd.R_lower ho69 (below_size (by repeat (first | (with_reducible first | exact HB.out | apply below_alloc | apply pw_below_drewN | apply below_drew1) | exact HB.out)))); have n1_ := Aside0.mk (below_step (by repeat (first | (with_reducible first | exact HB.out | apply below_alloc | apply pw_below_drewN | apply below_drew1) | exact HB.out)) hb); clear HB; have HO151 := n0_; have HB := n1_; clear n0_ n1_; clear hb ho69; obtain ⟨Ao70, co70, eo70⟩ := Kd.R_slice HO151.out; subst eo70) | ((with_reducible refine gate_callee (f := 23) rfl ?_); refine goesL_ (some 37) rfl rfl Try.func23 (by kernel_rfl) rfl #[.slice Ao70 y149.length co70] rfl (by (try simp only [List.map_toArray, List.map_cons, List.map_nil]); first | done | rfl | (simp only [List.length_drop, List.length_take]; rfl)) ?_; (with_reducible refine (fix_Right.calls kj2 _ _ y149 true _ ?side1 ?side2 A31.out).mono ?_); (case side1 => repeat (first | exact (Kd.R_reads' HO151.out).2.2 | (with_reducible refine Kd.C_alloc ?_ _) | (with_reducible refine Kd.C_drewN ?_ _) | (with_reducible refine Kd.C_drew ?_))); (case side2 => exact (Kd.R_reads' HO151.out).2.1); rintro e w' ⟨rfl, ⟨nd, rfl⟩⟩; refine ⟨_, rfl, ?_⟩) | (go_at_call 26; (with_reducible refine (fix_Mul.calls a0 a1 t153 _ A33.out).mono ?_); rintro e w' ⟨rfl, ⟨nd, rfl⟩⟩) | (go_at_call 27; (with_reducible refine (mutoscoperef05_Mul.calls kj2 a0 a1 t154 _ A34.out).mono ?_); rintro e w' ⟨rfl, ⟨nd, rfl⟩⟩))
            go_ret
            exact ⟨by first | rfl | (simp [errW_none, errW_some] <;> rfl) | (simp [*, errW_none, errW_some] <;> rfl), by repeat (first | (with_reducible first | exact HB.out | apply below_alloc | apply pw_below_drewN | apply below_drew1) | exact HB.out)⟩
        · replace c32 := Bool.eq_false_iff.mpr c32
          subst c32
          have H1 : (some false) = some r := by rw [if_neg (show ¬ (false = true) by decide)] at H; exact H
          clear H
          have H := H1
          clear H1
          obtain rfl := Option.some.inj H
          go_wp2_with (first | ((with_reducible refine gate_callee (f := 24) rfl ?_); refine goesL_ (some 31) rfl rfl Try.func24 (by kernel_rfl) rfl #[.int .i64 a0] rfl (by (try simp only [List.map_toArray, List.map_cons, List.map_nil]); first | done | rfl | (simp only [List.length_drop, List.length_take]; rfl)) ?_; (with_reducible refine (fix_Floor.calls a0 t147 _ A29.out).mono ?_); rintro e w' ⟨rfl, ⟨nd, rfl⟩⟩; refine ⟨_, rfl, ?_⟩) | ((with_reducible refine gate_callee (f := 25) rfl ?_); refine goesL_ (some 33) rfl rfl Try.func25 (by kernel_rfl) rfl #[.int .i64 a0] rfl (by (try simp only [List.map_toArray, List.map_cons, List.map_nil]); first | done | rfl | (simp only [List.length_drop, List.length_take]; rfl)) ?_; (with_reducible refine (fix_Ceil.calls a0 t148 _ A30.out).mono ?_); rintro e w' ⟨rfl, ⟨nd, rfl⟩⟩; refine ⟨_, rfl, ?_⟩) | ((with_reducible refine gate_dst (N := 36) rfl ?_); (try (refine gate_guard (by rfl) ?_; dsimp only)); refine Kd.R_lit (Kd.int .i64) _ 2 ?hg (N := 36) ?hd (xs := ([a0, a1] : List Int)) (inner := [.int .i64 a0, .int .i64 a1]) (ok := fun _ => True) (okp := fun _ => True) ?hr ?hp (fun _ hk => hk) trivial (Below.refl _ _) (Nat.le_refl _) (by simp) ?_; (case hd => rfl); (case hg => rfl); (case hr => first | (go_simp; done) | (go_simp; rfl)); (case hp => exact (Reps.one (show Kd.M (Kd.int .i64) _ _ _ a0 [.int .i64 a0] from rfl) (Reps.one (show Kd.M (Kd.int .i64) _ _ _ a1 [.int .i64 a1] from rfl) (Reps.none _ _)))); intro v150 w71 ho72 hb hg_ hnew_; clear hg_ hnew_; (first | rw [← Ny149.out] at ho72 | (simp only [Int.reduceToNat] at ho72; rw [← Ny149.out] at ho72)); have n0_ := Aside0.mk (Kd.R_lower ho72 (below_size (by repeat (first | (with_reducible first | exact HB.out | apply below_alloc | apply pw_below_drewN | apply below_drew1) | exact HB.out)))); have n1_ := Aside0.mk (below_step (by repeat (first | (with_reducible first | exact HB.out | apply below_alloc | apply pw_below_drewN | apply below_drew1) | exact HB.out)) hb); clear HB; have HO151 := n0_; have HB := n1_; clear n0_ n1_; clear hb ho72; obtain ⟨Ao73, co73, eo73⟩ := Kd.R_slice HO151.out; subst eo73) | ((with_reducible refine gate_callee (f := 23) rfl ?_); refine goesL_ (some 37) rfl rfl Try.func23 (by kernel_rfl) rfl #[.slice Ao73 y149.length co73] rfl (by (try simp only [List.map_toArray, List.map_cons, List.map_nil]); first | done | rfl | (simp only [List.length_drop, List.length_take]; rfl)) ?_; (with_reducible refine (fix_Right.calls kj2 _ _ y149 false _ ?side1 ?side2 A31.out).mono ?_); (case side1 => repeat (first | exact (Kd.R_reads' HO151.out).2.2 | (with_reducible refine Kd.C_alloc ?_ _) | (with_reducible refine Kd.C_drewN ?_ _) | (with_reducible refine Kd.C_drew ?_))); (case side2 => exact (Kd.R_reads' HO151.out).2.1); rintro e w' ⟨rfl, ⟨nd, rfl⟩⟩; refine ⟨_, rfl, ?_⟩))
          go_ret
          exact ⟨by first | rfl | (simp [errW_none, errW_some] <;> rfl) | (simp [*, errW_none, errW_some] <;> rfl), by repeat (first | (with_reducible first | exact HB.out | apply below_alloc | apply pw_below_drewN | apply below_drew1) | exact HB.out)⟩

end Go.Proofs.Ytbkjkjcpclaijaa.QFixMuls
