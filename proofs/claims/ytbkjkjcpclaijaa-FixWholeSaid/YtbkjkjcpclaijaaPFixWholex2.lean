-- PRINTED BY print.sh 35421559b90ae4d0a3588c463048766b98c2df88dd9212a6774a882060cdf62d: not written by this session
import Derived.Test.YtbkjkjcpclaijaaPFixWholex0
import Derived.Test.YtbkjkjcpclaijaaPFixWholex1
namespace Go.Proofs.Ytbkjkjcpclaijaa.PFixWhole
open Go.RowKit Go.Proofs.YtbkjkjcpclaijaaW.PrintWords Go.Proofs.YtbkjkjcpclaijaaW.PrintLast Go.Proofs.YtbkjkjcpclaijaaW.PrintMore
attribute [local go_sem] max2_int min2_int max_two min_two max_three min_three max_four min_four   -- for this text's walks alone
set_option linter.unusedVariables false
set_option linter.unusedSimpArgs false

/-! ### mutoscopelaw05_FixWhole: function 10 -/
mutual
def mutoscopelaw05_FixWhole.j0 : Nat → Int → Int → Int → Bool → Bool → Option (Bool)
  | 0, _, _, _, _, _ => none
  | k + 1, x0, x1, x5, x6, x7 => if (x6 != x7) = true then (mutoscopelaw05_FixWhole.j1 k x0 x1 x5 x6 true) else (if x6 = true then (mutoscopelaw05_FixWhole.j1 k x0 x1 x5 x6 false) else (mutoscopelaw05_FixWhole.j1 k x0 x1 x5 x6 (x5 != 0)))
def mutoscopelaw05_FixWhole.j1 : Nat → Int → Int → Int → Bool → Bool → Option (Bool)
  | 0, _, _, _, _, _ => none
  | k + 1, x0, x1, x5, x6, x32 => if x32 = true then (some false) else (if x6 = true then ((mutoscoperef05_Right.f x1).bind fun t136 => (mutoscopelaw05_FixWhole.j2 k x0 x1 x5 (!t136))) else (mutoscopelaw05_FixWhole.j2 k x0 x1 x5 true))
def mutoscopelaw05_FixWhole.j2 : Nat → Int → Int → Int → Bool → Option (Bool)
  | 0, _, _, _, _ => none
  | k + 1, x0, x1, x5, x39 => if x39 = true then ((mutoscopelaw05_awake.f k).bind fun t137 => (some t137)) else ((fix_Dot.f k (([x5, x1] : List Int))).bind fun bt141 => ((mutoscoperef05_Right.f (wrap64 (x0 * x1))).bind fun t143 => (if (bt141.2 != t143) = true then (mutoscopelaw05_FixWhole.j3 k x0 x1 x5 (wrap64 (x0 * x1)) true) else (if bt141.2 = true then (mutoscopelaw05_FixWhole.j3 k x0 x1 x5 (wrap64 (x0 * x1)) (bt141.1 != (wrap64 (x0 * x1)))) else (mutoscopelaw05_FixWhole.j3 k x0 x1 x5 (wrap64 (x0 * x1)) false)))))
def mutoscopelaw05_FixWhole.j3 : Nat → Int → Int → Int → Int → Bool → Option (Bool)
  | 0, _, _, _, _, _ => none
  | k + 1, x0, x1, x5, x10, x62 => if x62 = true then (some false) else (if x5 = (wrap64 (x0 * 65536)) then ((fix_Floor.f x5).bind fun t144 => (if t144 = x0 then ((fix_Ceil.f x5).bind fun t145 => (if t145 = x0 then ((fix_Mul.f x5 x1).bind fun t146 => (if t146 = x10 then ((mutoscopelaw05_awake.f k).bind fun t147 => (some t147)) else (some false))) else (some false))) else (some false))) else (some false))
end
def mutoscopelaw05_FixWhole.f (k : Nat) (a0 : Int) (a1 : Int) : Option (Bool) := (fix_Of.f a0).bind fun bt134 => (if a0 ≥ (-16384) then (mutoscopelaw05_FixWhole.j0 k a0 a1 bt134.1 bt134.2 (decide (a0 ≤ 16384))) else (mutoscopelaw05_FixWhole.j0 k a0 a1 bt134.1 bt134.2 false))
theorem mutoscopelaw05_FixWhole.mono_l : ∀ k, (∀ y0 y1 y2 y3 y4, LeO (mutoscopelaw05_FixWhole.j0 k y0 y1 y2 y3 y4) (mutoscopelaw05_FixWhole.j0 (k + 1) y0 y1 y2 y3 y4)) ∧ (∀ y0 y1 y2 y3 y4, LeO (mutoscopelaw05_FixWhole.j1 k y0 y1 y2 y3 y4) (mutoscopelaw05_FixWhole.j1 (k + 1) y0 y1 y2 y3 y4)) ∧ (∀ y0 y1 y2 y3, LeO (mutoscopelaw05_FixWhole.j2 k y0 y1 y2 y3) (mutoscopelaw05_FixWhole.j2 (k + 1) y0 y1 y2 y3)) ∧ (∀ y0 y1 y2 y3 y4, LeO (mutoscopelaw05_FixWhole.j3 k y0 y1 y2 y3 y4) (mutoscopelaw05_FixWhole.j3 (k + 1) y0 y1 y2 y3 y4))
  | 0 => ⟨fun _ _ _ _ _ r h => by simp [mutoscopelaw05_FixWhole.j0] at h, fun _ _ _ _ _ r h => by simp [mutoscopelaw05_FixWhole.j1] at h, fun _ _ _ _ r h => by simp [mutoscopelaw05_FixWhole.j2] at h, fun _ _ _ _ _ r h => by simp [mutoscopelaw05_FixWhole.j3] at h⟩
  | k + 1 => by
    obtain ⟨ih0, ih1, ih2, ih3⟩ := mutoscopelaw05_FixWhole.mono_l k
    refine ⟨?_, ?_, ?_, ?_⟩
    · intro y0 y1 y2 y3 y4
      unfold mutoscopelaw05_FixWhole.j0
      repeat' first
      | (with_reducible exact ih0 _ _ _ _ _)
      | (with_reducible exact ih1 _ _ _ _ _)
      | (with_reducible exact ih2 _ _ _ _)
      | (with_reducible exact ih3 _ _ _ _ _)
      | (with_reducible exact fix_Dot.mono _ _)
      | (with_reducible exact mutoscopelaw05_awake.mono _)
      | (with_reducible exact LeO.refl _)
      | (with_reducible exact LeO.none _)
      | (with_reducible refine LeO.ite ?_ ?_)
      | (with_reducible refine LeO.bind ?_ (fun _ => ?_))
      | exact ih0 _ _ _ _ _
      | exact ih1 _ _ _ _ _
      | exact ih2 _ _ _ _
      | exact ih3 _ _ _ _ _
      | exact fix_Dot.mono _ _
      | exact mutoscopelaw05_awake.mono _
      | exact LeO.none _
      | refine LeO.ite ?_ ?_
      | refine LeO.bind ?_ (fun _ => ?_)
    · intro y0 y1 y2 y3 y4
      unfold mutoscopelaw05_FixWhole.j1
      repeat' first
      | (with_reducible exact ih0 _ _ _ _ _)
      | (with_reducible exact ih1 _ _ _ _ _)
      | (with_reducible exact ih2 _ _ _ _)
      | (with_reducible exact ih3 _ _ _ _ _)
      | (with_reducible exact fix_Dot.mono _ _)
      | (with_reducible exact mutoscopelaw05_awake.mono _)
      | (with_reducible exact LeO.refl _)
      | (with_reducible exact LeO.none _)
      | (with_reducible refine LeO.ite ?_ ?_)
      | (with_reducible refine LeO.bind ?_ (fun _ => ?_))
      | exact ih0 _ _ _ _ _
      | exact ih1 _ _ _ _ _
      | exact ih2 _ _ _ _
      | exact ih3 _ _ _ _ _
      | exact fix_Dot.mono _ _
      | exact mutoscopelaw05_awake.mono _
      | exact LeO.none _
      | refine LeO.ite ?_ ?_
      | refine LeO.bind ?_ (fun _ => ?_)
    · intro y0 y1 y2 y3
      unfold mutoscopelaw05_FixWhole.j2
      repeat' first
      | (with_reducible exact ih0 _ _ _ _ _)
      | (with_reducible exact ih1 _ _ _ _ _)
      | (with_reducible exact ih2 _ _ _ _)
      | (with_reducible exact ih3 _ _ _ _ _)
      | (with_reducible exact fix_Dot.mono _ _)
      | (with_reducible exact mutoscopelaw05_awake.mono _)
      | (with_reducible exact LeO.refl _)
      | (with_reducible exact LeO.none _)
      | (with_reducible refine LeO.ite ?_ ?_)
      | (with_reducible refine LeO.bind ?_ (fun _ => ?_))
      | exact ih0 _ _ _ _ _
      | exact ih1 _ _ _ _ _
      | exact ih2 _ _ _ _
      | exact ih3 _ _ _ _ _
      | exact fix_Dot.mono _ _
      | exact mutoscopelaw05_awake.mono _
      | exact LeO.none _
      | refine LeO.ite ?_ ?_
      | refine LeO.bind ?_ (fun _ => ?_)
    · intro y0 y1 y2 y3 y4
      unfold mutoscopelaw05_FixWhole.j3
      repeat' first
      | (with_reducible exact ih0 _ _ _ _ _)
      | (with_reducible exact ih1 _ _ _ _ _)
      | (with_reducible exact ih2 _ _ _ _)
      | (with_reducible exact ih3 _ _ _ _ _)
      | (with_reducible exact fix_Dot.mono _ _)
      | (with_reducible exact mutoscopelaw05_awake.mono _)
      | (with_reducible exact LeO.refl _)
      | (with_reducible exact LeO.none _)
      | (with_reducible refine LeO.ite ?_ ?_)
      | (with_reducible refine LeO.bind ?_ (fun _ => ?_))
      | exact ih0 _ _ _ _ _
      | exact ih1 _ _ _ _ _
      | exact ih2 _ _ _ _
      | exact ih3 _ _ _ _ _
      | exact fix_Dot.mono _ _
      | exact mutoscopelaw05_awake.mono _
      | exact LeO.none _
      | refine LeO.ite ?_ ?_
      | refine LeO.bind ?_ (fun _ => ?_)
theorem mutoscopelaw05_FixWhole.mono : ∀ a0 a1 k, LeO (mutoscopelaw05_FixWhole.f k a0 a1) (mutoscopelaw05_FixWhole.f (k + 1) a0 a1) := by
  intro a0 a1 k
  obtain ⟨ih0, ih1, ih2, ih3⟩ := mutoscopelaw05_FixWhole.mono_l k
  unfold mutoscopelaw05_FixWhole.f
  repeat' first
      | (with_reducible exact ih0 _ _ _ _ _)
      | (with_reducible exact ih1 _ _ _ _ _)
      | (with_reducible exact ih2 _ _ _ _)
      | (with_reducible exact ih3 _ _ _ _ _)
      | (with_reducible exact fix_Dot.mono _ _)
      | (with_reducible exact mutoscopelaw05_awake.mono _)
      | (with_reducible exact LeO.refl _)
      | (with_reducible exact LeO.none _)
      | (with_reducible refine LeO.ite ?_ ?_)
      | (with_reducible refine LeO.bind ?_ (fun _ => ?_))
      | exact ih0 _ _ _ _ _
      | exact ih1 _ _ _ _ _
      | exact ih2 _ _ _ _
      | exact ih3 _ _ _ _ _
      | exact fix_Dot.mono _ _
      | exact mutoscopelaw05_awake.mono _
      | exact LeO.none _
      | refine LeO.ite ?_ ?_
      | refine LeO.bind ?_ (fun _ => ?_)
set_option maxHeartbeats 8000000 in
set_option maxRecDepth 100000 in
theorem mutoscopelaw05_FixWhole.calls (k : Nat) (a0 : Int) (a1 : Int) (r : Bool) (w : World) (h : mutoscopelaw05_FixWhole.f k a0 a1 = some r) :
    Calls Try.prog 10 #[.int .i64 a0, .int .i64 a1] w fun e w' => e = .returned (.bool r) ∧ Below w.heap.size w w' := by
  have HB := Aside0.mk (Below.refl w.heap.size w)
  have H : ((fix_Of.f a0).bind fun bt134 => (if a0 ≥ (-16384) then (mutoscopelaw05_FixWhole.j0 k a0 a1 bt134.1 bt134.2 (decide (a0 ≤ 16384))) else (mutoscopelaw05_FixWhole.j0 k a0 a1 bt134.1 bt134.2 false))) = some r := h
  clear h
  replace H := Option.bind_eq_some_iff.mp H
  obtain ⟨⟨t134, t135⟩, A30, H⟩ := H
  replace H : (if a0 ≥ (-16384) then (mutoscopelaw05_FixWhole.j0 k a0 a1 t134 t135 (decide (a0 ≤ 16384))) else (mutoscopelaw05_FixWhole.j0 k a0 a1 t134 t135 false)) = some r := H
  have A3 := Aside0.mk A30
  clear A30
  have HC4 := Aside0.mk H
  clear H
  go_enter Try.func10, Try.ntmps10
  go_upto_region 2 with (first | ((with_reducible refine gate_callee (f := 31) rfl ?_); refine goesL_ (some 13) rfl rfl Try.func31 (by kernel_rfl) rfl #[.int .i64 a0] rfl (by (try simp only [List.map_toArray, List.map_cons, List.map_nil]); first | done | rfl | (simp only [List.length_drop, List.length_take]; rfl)) ?_; (with_reducible refine (fix_Of.calls a0 t134 t135 _ A3.out).mono ?_); rintro e w' ⟨rfl, ⟨nd, rfl⟩⟩; refine ⟨_, rfl, ?_⟩))
  (try simp only [Act.put, List.setIfInBounds_toArray, List.set_cons_zero, List.set_cons_succ])
  go_cut [7] (fun v7 wc => ∃ (kq : Nat) (x7_3 : Bool), v7 = .bool x7_3 ∧ Aside0 (mutoscopelaw05_FixWhole.j0 kq a0 a1 t134 t135 x7_3 = some r) ∧ Aside0 (kq ≤ k) ∧ Aside0 (Below w.heap.size w wc))
  case first =>
    have H := HC4.out
    clear HC4
    by_cases c5 : a0 ≥ (-16384)
    · rw [if_pos c5] at H
      have c5b0 : decide ((-16384) ≤ a0) = true := decide_eq_true c5
      clear c5
      (first | rw [c5b0] | (simp only [i64_w, i32_w]; rw [c5b0]) | skip)
      have H' := Aside0.mk H
      clear H
      go_wp2
      go_meet
      case rel => exact ⟨_, (decide (a0 ≤ 16384)), (by first | rfl | (simp; done) | (simp [*]; done)), H', ⟨by first | omega | exact Nat.le_refl _⟩, ⟨by repeat (first | (with_reducible first | exact HB.out | apply below_alloc | apply pw_below_drewN | apply below_drew1) | exact HB.out)⟩⟩
    · rw [if_neg c5] at H
      have c5b0 : decide ((-16384) ≤ a0) = false := decide_eq_false c5
      clear c5
      (first | rw [c5b0] | (simp only [i64_w, i32_w]; rw [c5b0]) | skip)
      have H' := Aside0.mk H
      clear H
      go_wp2
      go_meet
      case rel => exact ⟨_, (false), (by first | rfl | (simp; done) | (simp [*]; done)), H', ⟨by first | omega | exact Nat.le_refl _⟩, ⟨by repeat (first | (with_reducible first | exact HB.out | apply below_alloc | apply pw_below_drewN | apply below_drew1) | exact HB.out)⟩⟩
  case rest =>
    clear HC4
    try clear c1
    try clear p2
    try clear c3
    try clear c5
    try clear c5b0
    obtain ⟨kq, x7_3, rfl, HA, HJ3, HB⟩ := hcut
    cases kq with
    | zero => exact absurd HA.out (by simp [mutoscopelaw05_FixWhole.j0])
    | succ kj3 =>
      have H := HA.out
      clear HA
      simp only [mutoscopelaw05_FixWhole.j0] at H
      have HC6 := Aside0.mk H
      clear H
      go_upto_region 3 with (fail)
      go_cut [32] (fun v32 wc => ∃ (kq : Nat) (x32_5 : Bool), v32 = .bool x32_5 ∧ Aside0 (mutoscopelaw05_FixWhole.j1 kq a0 a1 t134 t135 x32_5 = some r) ∧ Aside0 (kq ≤ kj3) ∧ Aside0 (Below w.heap.size w wc))
      case first =>
        have H := HC6.out
        clear HC6
        by_cases c7 : (t135 != x7_3) = true
        · rw [if_pos c7] at H
          have c7b0 : (t135 != x7_3) = true := c7
          (try (have c7b1 : decide (t135 = x7_3) = false := by simpa using c7))
          (try (have c7b2 : (t135 == x7_3) = false := by simpa using c7))
          (try (have c7b3 : ¬ (t135 = x7_3) := by simpa using c7))
          clear c7
          (first | rw [c7b0] | (simp only [i64_w, i32_w]; rw [c7b0]) | skip)
          have H' := Aside0.mk H
          clear H
          go_wp2
          go_meet
          case rel => exact ⟨_, (true), (by first | rfl | (simp; done) | (simp [*]; done)), H', ⟨by have := HJ3.out; first | omega | exact Nat.le_refl _⟩, ⟨by repeat (first | (with_reducible first | exact HB.out | apply below_alloc | apply pw_below_drewN | apply below_drew1) | exact HB.out)⟩⟩
        · rw [if_neg c7] at H
          have c7b0 : (t135 != x7_3) = false := by simpa using c7
          (try (have c7b1 : decide (t135 = x7_3) = true := by simpa using c7))
          (try (have c7b2 : (t135 == x7_3) = true := by simpa using c7))
          clear c7
          (first | rw [c7b0] | (simp only [i64_w, i32_w]; rw [c7b0]) | skip)
          by_cases c8 : t135 = true
          · subst c8
            have H1 : (mutoscopelaw05_FixWhole.j1 kj3 a0 a1 t134 true false) = some r := by rw [if_pos rfl] at H; exact H
            clear H
            have H := H1
            clear H1
            have H' := Aside0.mk H
            clear H
            go_wp2
            go_meet
            case rel => exact ⟨_, (false), (by first | rfl | (simp; done) | (simp [*]; done)), H', ⟨by have := HJ3.out; first | omega | exact Nat.le_refl _⟩, ⟨by repeat (first | (with_reducible first | exact HB.out | apply below_alloc | apply pw_below_drewN | apply below_drew1) | exact HB.out)⟩⟩
          · replace c8 := Bool.eq_false_iff.mpr c8
            subst c8
            have H1 : (mutoscopelaw05_FixWhole.j1 kj3 a0 a1 t134 false (t134 != 0)) = some r := by rw [if_neg (show ¬ (false = true) by decide)] at H; exact H
            clear H
            have H := H1
            clear H1
            have H' := Aside0.mk H
            clear H
            go_wp2
            go_meet
            case rel => exact ⟨_, ((t134 != 0)), (by first | rfl | (simp; done) | (simp [*]; done)), H', ⟨by have := HJ3.out; first | omega | exact Nat.le_refl _⟩, ⟨by repeat (first | (with_reducible first | exact HB.out | apply below_alloc | apply pw_below_drewN | apply below_drew1) | exact HB.out)⟩⟩
      case rest =>
        clear HC6
        try clear c1
        try clear p2
        try clear c3
        try clear c5
        try clear c5b0
        try clear c7
        try clear c7b0
        try clear c7b1
        try clear c7b2
        try clear c8
        try clear p2
        obtain ⟨kq, x32_5, rfl, HA, HJ5, HB⟩ := hcut
        cases kq with
        | zero => exact absurd HA.out (by simp [mutoscopelaw05_FixWhole.j1])
        | succ kj5 =>
          have H := HA.out
          clear HA
          simp only [mutoscopelaw05_FixWhole.j1] at H
          by_cases c9 : x32_5 = true
          · subst c9
            have H1 : (some false) = some r := by rw [if_pos rfl] at H; exact H
            clear H
            have H := H1
            clear H1
            obtain rfl := Option.some.inj H
            go_wp2
            go_ret
            exact ⟨by first | rfl | (simp [errW_none, errW_some] <;> rfl) | (simp [*, errW_none, errW_some] <;> rfl), by repeat (first | (with_reducible first | exact HB.out | apply below_alloc | apply pw_below_drewN | apply below_drew1) | exact HB.out)⟩
          · replace c9 := Bool.eq_false_iff.mpr c9
            subst c9
            have H1 : (if t135 = true then ((mutoscoperef05_Right.f a1).bind fun t136 => (mutoscopelaw05_FixWhole.j2 kj5 a0 a1 t134 (!t136))) else (mutoscopelaw05_FixWhole.j2 kj5 a0 a1 t134 true)) = some r := by rw [if_neg (show ¬ (false = true) by decide)] at H; exact H
            clear H
            have H := H1
            clear H1
            have HC10 := Aside0.mk H
            clear H
            go_upto_region 5 with (fail)
            go_cut [39] (fun v39 wc => ∃ (kq : Nat) (x39_9 : Bool), v39 = .bool x39_9 ∧ Aside0 (mutoscopelaw05_FixWhole.j2 kq a0 a1 t134 x39_9 = some r) ∧ Aside0 (kq ≤ kj5) ∧ Aside0 (Below w.heap.size w wc))
            case first =>
              have H := HC10.out
              clear HC10
              by_cases c11 : t135 = true
              · subst c11
                have H1 : ((mutoscoperef05_Right.f a1).bind fun t136 => (mutoscopelaw05_FixWhole.j2 kj5 a0 a1 t134 (!t136))) = some r := by rw [if_pos rfl] at H; exact H
                clear H
                have H := H1
                clear H1
                replace H := Option.bind_eq_some_iff.mp H
                obtain ⟨t136, A120, H⟩ := H
                replace H : (mutoscopelaw05_FixWhole.j2 kj5 a0 a1 t134 (!t136)) = some r := H
                have A12 := Aside0.mk A120
                clear A120
                have H' := Aside0.mk H
                clear H
                go_wp2_with (first | (go_at_call 22; (with_reducible refine (mutoscoperef05_Right.calls a1 t136 _ A12.out).mono ?_); rintro e w' ⟨rfl, ⟨nd, rfl⟩⟩))
                go_meet
                case rel => exact ⟨_, (!t136), (by first | rfl | (simp; done) | (simp [*]; done)), H', ⟨by have := HJ3.out; have := HJ5.out; first | omega | exact Nat.le_refl _⟩, ⟨by repeat (first | (with_reducible first | exact HB.out | apply below_alloc | apply pw_below_drewN | apply below_drew1) | exact HB.out)⟩⟩
              · replace c11 := Bool.eq_false_iff.mpr c11
                subst c11
                have H1 : (mutoscopelaw05_FixWhole.j2 kj5 a0 a1 t134 true) = some r := by rw [if_neg (show ¬ (false = true) by decide)] at H; exact H
                clear H
                have H := H1
                clear H1
                have H' := Aside0.mk H
                clear H
                go_wp2
                go_meet
                case rel => exact ⟨_, (true), (by first | rfl | (simp; done) | (simp [*]; done)), H', ⟨by have := HJ3.out; have := HJ5.out; first | omega | exact Nat.le_refl _⟩, ⟨by repeat (first | (with_reducible first | exact HB.out | apply below_alloc | apply pw_below_drewN | apply below_drew1) | exact HB.out)⟩⟩
            case rest =>
              clear HC10
              try clear c1
              try clear p2
              try clear c3
              try clear c5
              try clear c5b0
              try clear c7
              try clear c7b0
              try clear c7b1
              try clear c7b2
              try clear c8
              try clear c9
              try clear c10
              try clear c11
              try clear p2
              obtain ⟨kq, x39_9, rfl, HA, HJ9, HB⟩ := hcut
              cases kq with
              | zero => exact absurd HA.out (by simp [mutoscopelaw05_FixWhole.j2])
              | succ kj9 =>
                have H := HA.out
                clear HA
                simp only [mutoscopelaw05_FixWhole.j2] at H
                by_cases c13 : x39_9 = true
                · subst c13
                  have H1 : ((mutoscopelaw05_awake.f kj9).bind fun t137 => (some t137)) = some r := by rw [if_pos rfl] at H; exact H
                  clear H
                  have H := H1
                  clear H1
                  replace H := Option.bind_eq_some_iff.mp H
                  obtain ⟨t137, A140, H⟩ := H
                  replace H : (some t137) = some r := H
                  have A14 := Aside0.mk A140
                  clear A140
                  obtain rfl := Option.some.inj H
                  go_wp2_with (first | ((with_reducible refine gate_callee (f := 19) rfl ?_); refine goesL_ (some 40) rfl rfl Try.func19 (by kernel_rfl) rfl #[] rfl (by (try simp only [List.map_toArray, List.map_cons, List.map_nil]); first | done | rfl | (simp only [List.length_drop, List.length_take]; rfl)) ?_; (with_reducible refine (mutoscopelaw05_awake.calls kj9  t137 _ A14.out).mono ?_); rintro e w15 ⟨rfl, hb⟩; refine ⟨_, rfl, ?_⟩; have n0_ := Aside0.mk (below_step (by repeat (first | (with_reducible first | exact HB.out | apply below_alloc | apply pw_below_drewN | apply below_drew1) | exact HB.out)) hb); clear HB; have HB := n0_; clear n0_; (try clear hb); (try clear hb2); (try clear hk); (try clear hi)))
                  go_ret
                  exact ⟨by first | rfl | (simp [errW_none, errW_some] <;> rfl) | (simp [*, errW_none, errW_some] <;> rfl), by repeat (first | (with_reducible first | exact HB.out | apply below_alloc | apply pw_below_drewN | apply below_drew1) | exact HB.out)⟩
                · replace c13 := Bool.eq_false_iff.mpr c13
                  subst c13
                  have H1 : ((fix_Dot.f kj9 (([t134, a1] : List Int))).bind fun bt141 => ((mutoscoperef05_Right.f (wrap64 (a0 * a1))).bind fun t143 => (if (bt141.2 != t143) = true then (mutoscopelaw05_FixWhole.j3 kj9 a0 a1 t134 (wrap64 (a0 * a1)) true) else (if bt141.2 = true then (mutoscopelaw05_FixWhole.j3 kj9 a0 a1 t134 (wrap64 (a0 * a1)) (bt141.1 != (wrap64 (a0 * a1)))) else (mutoscopelaw05_FixWhole.j3 kj9 a0 a1 t134 (wrap64 (a0 * a1)) false))))) = some r := by rw [if_neg (show ¬ (false = true) by decide)] at H; exact H
                  clear H
                  have H := H1
                  clear H1
                  obtain ⟨y138, hy138⟩ : ∃ y_ : List Int, y_ = (([t134, a1] : List Int)) := ⟨_, rfl⟩
                  replace H : ((fix_Dot.f kj9 y138).bind fun bt141 => ((mutoscoperef05_Right.f (wrap64 (a0 * a1))).bind fun t143 => (if (bt141.2 != t143) = true then (mutoscopelaw05_FixWhole.j3 kj9 a0 a1 t134 (wrap64 (a0 * a1)) true) else (if bt141.2 = true then (mutoscopelaw05_FixWhole.j3 kj9 a0 a1 t134 (wrap64 (a0 * a1)) (bt141.1 != (wrap64 (a0 * a1)))) else (mutoscopelaw05_FixWhole.j3 kj9 a0 a1 t134 (wrap64 (a0 * a1)) false))))) = some r := by first | (rw [hy138]; with_reducible exact H) | (have H2_ := (Option.bind_some _ _).symm.trans H; rw [hy138]; with_reducible exact H2_) | (have H2_ := (Option.bind_some _ _).symm.trans H; with_reducible exact H2_) | with_reducible exact H | (rw [hy138]; exact H) | exact H
                  have Ny138 := Aside0.mk hy138
                  clear hy138
                  replace H := Option.bind_eq_some_iff.mp H
                  obtain ⟨⟨t141, t142⟩, A160, H⟩ := H
                  replace H : ((mutoscoperef05_Right.f (wrap64 (a0 * a1))).bind fun t143 => (if (t142 != t143) = true then (mutoscopelaw05_FixWhole.j3 kj9 a0 a1 t134 (wrap64 (a0 * a1)) true) else (if t142 = true then (mutoscopelaw05_FixWhole.j3 kj9 a0 a1 t134 (wrap64 (a0 * a1)) (t141 != (wrap64 (a0 * a1)))) else (mutoscopelaw05_FixWhole.j3 kj9 a0 a1 t134 (wrap64 (a0 * a1)) false)))) = some r := H
                  have A16 := Aside0.mk A160
                  clear A160
                  have HC17 := Aside0.mk H
                  clear H
                  go_upto_region 9 with (first | ((with_reducible refine gate_dst (N := 44) rfl ?_); refine Kd.R_lit (Kd.int .i64) _ 2 ?hg (N := 44) ?hd (xs := ([t134, a1] : List Int)) (inner := [.int .i64 t134, .int .i64 a1]) (ok := fun _ => True) (okp := fun _ => True) ?hr ?hp (fun _ hk => hk) trivial (Below.refl _ _) (Nat.le_refl _) (by simp) ?_; (case hd => rfl); (case hg => rfl); (case hr => first | (go_simp; done) | (go_simp; rfl)); (case hp => exact (Reps.one (show Kd.M (Kd.int .i64) _ _ _ t134 [.int .i64 t134] from rfl) (Reps.one (show Kd.M (Kd.int .i64) _ _ _ a1 [.int .i64 a1] from rfl) (Reps.none _ _)))); intro v139 w18 ho19 hb hg_ hnew_; clear hg_ hnew_; (first | rw [← Ny138.out] at ho19 | (simp only [Int.reduceToNat] at ho19; rw [← Ny138.out] at ho19)); have n0_ := Aside0.mk (Kd.R_lower ho19 (below_size (by repeat (first | (with_reducible first | exact HB.out | apply below_alloc | apply pw_below_drewN | apply below_drew1) | exact HB.out)))); have n1_ := Aside0.mk (below_step (by repeat (first | (with_reducible first | exact HB.out | apply below_alloc | apply pw_below_drewN | apply below_drew1) | exact HB.out)) hb); clear HB; have HO140 := n0_; have HB := n1_; clear n0_ n1_; clear hb ho19; obtain ⟨Ao20, co20, eo20⟩ := Kd.R_slice HO140.out; subst eo20) | ((with_reducible refine gate_callee (f := 29) rfl ?_); refine goesL_ (some 45) rfl rfl Try.func29 (by kernel_rfl) rfl #[.slice Ao20 y138.length co20] rfl (by (try simp only [List.map_toArray, List.map_cons, List.map_nil]); first | done | rfl | (simp only [List.length_drop, List.length_take]; rfl)) ?_; (with_reducible refine (fix_Dot.calls kj9 _ _ y138 t141 t142 _ ?side1 ?side2 A16.out).mono ?_); (case side1 => repeat (first | exact (Kd.R_reads' HO140.out).2.2 | (with_reducible refine Kd.C_alloc ?_ _) | (with_reducible refine Kd.C_drewN ?_ _) | (with_reducible refine Kd.C_drew ?_))); (case side2 => exact (Kd.R_reads' HO140.out).2.1); rintro e w21 ⟨rfl, hb⟩; refine ⟨_, rfl, ?_⟩; have n0_ := Aside0.mk (Kd.R_below (by (with_reducible repeat (first | apply Kd.R_alloc | apply Kd.R_drewN | apply Kd.R_drew)); exact HO140.out) hb); have n1_ := Aside0.mk (below_step (by repeat (first | (with_reducible first | exact HB.out | apply below_alloc | apply pw_below_drewN | apply below_drew1) | exact HB.out)) hb); clear HO140; clear HB; have HO140 := n0_; have HB := n1_; clear n0_ n1_; (try clear hb); (try clear hb2); (try clear hk); (try clear hi)))
                  (try simp only [Act.put, List.setIfInBounds_toArray, List.set_cons_zero, List.set_cons_succ])
                  go_cut [62] (fun v62 wc => ∃ (kq : Nat) (x62_16 : Bool), v62 = .bool x62_16 ∧ Aside0 (mutoscopelaw05_FixWhole.j3 kq a0 a1 t134 (wrap64 (a0 * a1)) x62_16 = some r) ∧ Aside0 (kq ≤ kj9) ∧ Aside0 (Below w.heap.size w wc))
                  case first =>
                    have H := HC17.out
                    clear HC17
                    replace H := Option.bind_eq_some_iff.mp H
                    obtain ⟨t143, A220, H⟩ := H
                    replace H : (if (t142 != t143) = true then (mutoscopelaw05_FixWhole.j3 kj9 a0 a1 t134 (wrap64 (a0 * a1)) true) else (if t142 = true then (mutoscopelaw05_FixWhole.j3 kj9 a0 a1 t134 (wrap64 (a0 * a1)) (t141 != (wrap64 (a0 * a1)))) else (mutoscopelaw05_FixWhole.j3 kj9 a0 a1 t134 (wrap64 (a0 * a1)) false))) = some r := H
                    have A22 := Aside0.mk A220
                    clear A220
                    by_cases c23 : (t142 != t143) = true
                    · rw [if_pos c23] at H
                      have c23b0 : (t142 != t143) = true := c23
                      (try (have c23b1 : decide (t142 = t143) = false := by simpa using c23))
                      (try (have c23b2 : (t142 == t143) = false := by simpa using c23))
                      (try (have c23b3 : ¬ (t142 = t143) := by simpa using c23))
                      clear c23
                      (first | rw [c23b0] | (simp only [i64_w, i32_w]; rw [c23b0]) | skip)
                      have H' := Aside0.mk H
                      clear H
                      go_wp2_with (first | ((with_reducible refine gate_callee (f := 22) rfl ?_); refine goesL_ (some 53) rfl rfl Try.func22 (by kernel_rfl) rfl #[.int .i64 (wrap64 (a0 * a1))] rfl (by (try simp only [List.map_toArray, List.map_cons, List.map_nil]); first | done | rfl | (simp only [List.length_drop, List.length_take]; rfl)) ?_; (with_reducible refine (mutoscoperef05_Right.calls (wrap64 (a0 * a1)) t143 _ A22.out).mono ?_); rintro e w' ⟨rfl, ⟨nd, rfl⟩⟩; refine ⟨_, rfl, ?_⟩))
                      go_meet
                      case rel => exact ⟨_, (true), (by first | rfl | (simp; done) | (simp [*]; done)), H', ⟨by have := HJ3.out; have := HJ5.out; have := HJ9.out; first | omega | exact Nat.le_refl _⟩, ⟨by repeat (first | (with_reducible first | exact HB.out | apply below_alloc | apply pw_below_drewN | apply below_drew1) | exact HB.out)⟩⟩
                    · rw [if_neg c23] at H
                      have c23b0 : (t142 != t143) = false := by simpa using c23
                      (try (have c23b1 : decide (t142 = t143) = true := by simpa using c23))
                      (try (have c23b2 : (t142 == t143) = true := by simpa using c23))
                      clear c23
                      (first | rw [c23b0] | (simp only [i64_w, i32_w]; rw [c23b0]) | skip)
                      by_cases c24 : t142 = true
                      · subst c24
                        have H1 : (mutoscopelaw05_FixWhole.j3 kj9 a0 a1 t134 (wrap64 (a0 * a1)) (t141 != (wrap64 (a0 * a1)))) = some r := by rw [if_pos rfl] at H; exact H
                        clear H
                        have H := H1
                        clear H1
                        have H' := Aside0.mk H
                        clear H
                        go_wp2_with (first | ((with_reducible refine gate_callee (f := 22) rfl ?_); refine goesL_ (some 53) rfl rfl Try.func22 (by kernel_rfl) rfl #[.int .i64 (wrap64 (a0 * a1))] rfl (by (try simp only [List.map_toArray, List.map_cons, List.map_nil]); first | done | rfl | (simp only [List.length_drop, List.length_take]; rfl)) ?_; (with_reducible refine (mutoscoperef05_Right.calls (wrap64 (a0 * a1)) t143 _ A22.out).mono ?_); rintro e w' ⟨rfl, ⟨nd, rfl⟩⟩; refine ⟨_, rfl, ?_⟩))
                        go_meet
                        case rel => exact ⟨_, ((t141 != (wrap64 (a0 * a1)))), (by first | rfl | (simp; done) | (simp [*]; done)), H', ⟨by have := HJ3.out; have := HJ5.out; have := HJ9.out; first | omega | exact Nat.le_refl _⟩, ⟨by repeat (first | (with_reducible first | exact HB.out | apply below_alloc | apply pw_below_drewN | apply below_drew1) | exact HB.out)⟩⟩
                      · replace c24 := Bool.eq_false_iff.mpr c24
                        subst c24
                        have H1 : (mutoscopelaw05_FixWhole.j3 kj9 a0 a1 t134 (wrap64 (a0 * a1)) false) = some r := by rw [if_neg (show ¬ (false = true) by decide)] at H; exact H
                        clear H
                        have H := H1
                        clear H1
                        have H' := Aside0.mk H
                        clear H
                        go_wp2_with (first | ((with_reducible refine gate_callee (f := 22) rfl ?_); refine goesL_ (some 53) rfl rfl Try.func22 (by kernel_rfl) rfl #[.int .i64 (wrap64 (a0 * a1))] rfl (by (try simp only [List.map_toArray, List.map_cons, List.map_nil]); first | done | rfl | (simp only [List.length_drop, List.length_take]; rfl)) ?_; (with_reducible refine (mutoscoperef05_Right.calls (wrap64 (a0 * a1)) t143 _ A22.out).mono ?_); rintro e w' ⟨rfl, ⟨nd, rfl⟩⟩; refine ⟨_, rfl, ?_⟩))
                        go_meet
                        case rel => exact ⟨_, (false), (by first | rfl | (simp; done) | (simp [*]; done)), H', ⟨by have := HJ3.out; have := HJ5.out; have := HJ9.out; first | omega | exact Nat.le_refl _⟩, ⟨by repeat (first | (with_reducible first | exact HB.out | apply below_alloc | apply pw_below_drewN | apply below_drew1) | exact HB.out)⟩⟩
                  case rest =>
                    clear HC17
                    try clear c1
                    try clear c2
                    try clear p2
                    try clear c3
                    try clear c5
                    try clear c5b0
                    try clear p6
                    try clear c7
                    try clear c7b0
                    try clear c7b1
                    try clear c7b2
                    try clear c8
                    try clear c9
                    try clear c10
                    try clear c11
                    try clear c13
                    try clear c19
                    try clear c22
                    try clear c23
                    try clear c23b0
                    try clear c23b1
                    try clear c23b2
                    try clear c24
                    try clear p2
                    obtain ⟨kq, x62_16, rfl, HA, HJ16, HB⟩ := hcut
                    cases kq with
                    | zero => exact absurd HA.out (by simp [mutoscopelaw05_FixWhole.j3])
                    | succ kj16 =>
                      have H := HA.out
                      clear HA
                      simp only [mutoscopelaw05_FixWhole.j3] at H
                      by_cases c25 : x62_16 = true
                      · subst c25
                        have H1 : (some false) = some r := by rw [if_pos rfl] at H; exact H
                        clear H
                        have H := H1
                        clear H1
                        obtain rfl := Option.some.inj H
                        go_wp2
                        go_ret
                        exact ⟨by first | rfl | (simp [errW_none, errW_some] <;> rfl) | (simp [*, errW_none, errW_some] <;> rfl), by repeat (first | (with_reducible first | exact HB.out | apply below_alloc | apply pw_below_drewN | apply below_drew1) | exact HB.out)⟩
                      · replace c25 := Bool.eq_false_iff.mpr c25
                        subst c25
                        have H1 : (if t134 = (wrap64 (a0 * 65536)) then ((fix_Floor.f t134).bind fun t144 => (if t144 = a0 then ((fix_Ceil.f t134).bind fun t145 => (if t145 = a0 then ((fix_Mul.f t134 a1).bind fun t146 => (if t146 = (wrap64 (a0 * a1)) then ((mutoscopelaw05_awake.f kj16).bind fun t147 => (some t147)) else (some false))) else (some false))) else (some false))) else (some false)) = some r := by rw [if_neg (show ¬ (false = true) by decide)] at H; exact H
                        clear H
                        have H := H1
                        clear H1
                        by_cases c26 : t134 = (wrap64 (a0 * 65536))
                        · rw [if_pos c26] at H
                          have c26b0 : (t134 == (wrap64 (a0 * 65536))) = true := beq_iff_eq.mpr c26
                          have c26b1 : (t134 != (wrap64 (a0 * 65536))) = false := bne_eq_false_iff_eq.mpr c26
                          clear c26
                          replace H := Option.bind_eq_some_iff.mp H
                          obtain ⟨t144, A270, H⟩ := H
                          replace H : (if t144 = a0 then ((fix_Ceil.f t134).bind fun t145 => (if t145 = a0 then ((fix_Mul.f t134 a1).bind fun t146 => (if t146 = (wrap64 (a0 * a1)) then ((mutoscopelaw05_awake.f kj16).bind fun t147 => (some t147)) else (some false))) else (some false))) else (some false)) = some r := H
                          have A27 := Aside0.mk A270
                          clear A270
                          by_cases c28 : t144 = a0
                          · rw [if_pos c28] at H
                            have c28b0 : (t144 == a0) = true := beq_iff_eq.mpr c28
                            have c28b1 : (t144 != a0) = false := bne_eq_false_iff_eq.mpr c28
                            clear c28
                            replace H := Option.bind_eq_some_iff.mp H
                            obtain ⟨t145, A290, H⟩ := H
                            replace H : (if t145 = a0 then ((fix_Mul.f t134 a1).bind fun t146 => (if t146 = (wrap64 (a0 * a1)) then ((mutoscopelaw05_awake.f kj16).bind fun t147 => (some t147)) else (some false))) else (some false)) = some r := H
                            have A29 := Aside0.mk A290
                            clear A290
                            by_cases c30 : t145 = a0
                            · rw [if_pos c30] at H
                              have c30b0 : (t145 == a0) = true := beq_iff_eq.mpr c30
                              have c30b1 : (t145 != a0) = false := bne_eq_false_iff_eq.mpr c30
                              clear c30
                              replace H := Option.bind_eq_some_iff.mp H
                              obtain ⟨t146, A310, H⟩ := H
                              replace H : (if t146 = (wrap64 (a0 * a1)) then ((mutoscopelaw05_awake.f kj16).bind fun t147 => (some t147)) else (some false)) = some r := H
                              have A31 := Aside0.mk A310
                              clear A310
                              by_cases c32 : t146 = (wrap64 (a0 * a1))
                              · rw [if_pos c32] at H
                                have c32b0 : (t146 == (wrap64 (a0 * a1))) = true := beq_iff_eq.mpr c32
                                have c32b1 : (t146 != (wrap64 (a0 * a1))) = false := bne_eq_false_iff_eq.mpr c32
                                clear c32
                                replace H := Option.bind_eq_some_iff.mp H
                                obtain ⟨t147, A330, H⟩ := H
                                replace H : (some t147) = some r := H
                                have A33 := Aside0.mk A330
                                clear A330
                                obtain rfl := Option.some.inj H
                                go_wp2_with (first | (go_at_call 24; (with_reducible refine (fix_Floor.calls t134 t144 _ A27.out).mono ?_); rintro e w' ⟨rfl, ⟨nd, rfl⟩⟩) | (go_at_call 25; (with_reducible refine (fix_Ceil.calls t134 t145 _ A29.out).mono ?_); rintro e w' ⟨rfl, ⟨nd, rfl⟩⟩) | (go_at_call 26; (with_reducible refine (fix_Mul.calls t134 a1 t146 _ A31.out).mono ?_); rintro e w' ⟨rfl, ⟨nd, rfl⟩⟩) | (go_at_call 19; (with_reducible refine (mutoscopelaw05_awake.calls kj16  t147 _ A33.out).mono ?_); rintro e w34 ⟨rfl, hb⟩; have n0_ := Aside0.mk (below_step (by repeat (first | (with_reducible first | exact HB.out | apply below_alloc | apply pw_below_drewN | apply below_drew1) | exact HB.out)) hb); clear HB; have HB := n0_; clear n0_; (try clear hb); (try clear hb2); (try clear hk); (try clear hi)))
                                go_ret
                                exact ⟨by first | rfl | (simp [errW_none, errW_some] <;> rfl) | (simp [*, errW_none, errW_some] <;> rfl), by repeat (first | (with_reducible first | exact HB.out | apply below_alloc | apply pw_below_drewN | apply below_drew1) | exact HB.out)⟩
                              · rw [if_neg c32] at H
                                have c32b0 : (t146 == (wrap64 (a0 * a1))) = false := beq_eq_false_iff_ne.mpr c32
                                have c32b1 : (t146 != (wrap64 (a0 * a1))) = true := bne_iff_ne.mpr c32
                                obtain rfl := Option.some.inj H
                                go_wp2_with (first | (go_at_call 24; (with_reducible refine (fix_Floor.calls t134 t144 _ A27.out).mono ?_); rintro e w' ⟨rfl, ⟨nd, rfl⟩⟩) | (go_at_call 25; (with_reducible refine (fix_Ceil.calls t134 t145 _ A29.out).mono ?_); rintro e w' ⟨rfl, ⟨nd, rfl⟩⟩) | (go_at_call 26; (with_reducible refine (fix_Mul.calls t134 a1 t146 _ A31.out).mono ?_); rintro e w' ⟨rfl, ⟨nd, rfl⟩⟩))
                                go_ret
                                exact ⟨by first | rfl | (simp [errW_none, errW_some] <;> rfl) | (simp [*, errW_none, errW_some] <;> rfl), by repeat (first | (with_reducible first | exact HB.out | apply below_alloc | apply pw_below_drewN | apply below_drew1) | exact HB.out)⟩
                            · rw [if_neg c30] at H
                              have c30b0 : (t145 == a0) = false := beq_eq_false_iff_ne.mpr c30
                              have c30b1 : (t145 != a0) = true := bne_iff_ne.mpr c30
                              obtain rfl := Option.some.inj H
                              go_wp2_with (first | (go_at_call 24; (with_reducible refine (fix_Floor.calls t134 t144 _ A27.out).mono ?_); rintro e w' ⟨rfl, ⟨nd, rfl⟩⟩) | (go_at_call 25; (with_reducible refine (fix_Ceil.calls t134 t145 _ A29.out).mono ?_); rintro e w' ⟨rfl, ⟨nd, rfl⟩⟩))
                              go_ret
                              exact ⟨by first | rfl | (simp [errW_none, errW_some] <;> rfl) | (simp [*, errW_none, errW_some] <;> rfl), by repeat (first | (with_reducible first | exact HB.out | apply below_alloc | apply pw_below_drewN | apply below_drew1) | exact HB.out)⟩
                          · rw [if_neg c28] at H
                            have c28b0 : (t144 == a0) = false := beq_eq_false_iff_ne.mpr c28
                            have c28b1 : (t144 != a0) = true := bne_iff_ne.mpr c28
                            obtain rfl := Option.some.inj H
                            go_wp2_with (first | (go_at_call 24; (with_reducible refine (fix_Floor.calls t134 t144 _ A27.out).mono ?_); rintro e w' ⟨rfl, ⟨nd, rfl⟩⟩))
                            go_ret
                            exact ⟨by first | rfl | (simp [errW_none, errW_some] <;> rfl) | (simp [*, errW_none, errW_some] <;> rfl), by repeat (first | (with_reducible first | exact HB.out | apply below_alloc | apply pw_below_drewN | apply below_drew1) | exact HB.out)⟩
                        · rw [if_neg c26] at H
                          have c26b0 : (t134 == (wrap64 (a0 * 65536))) = false := beq_eq_false_iff_ne.mpr c26
                          have c26b1 : (t134 != (wrap64 (a0 * 65536))) = true := bne_iff_ne.mpr c26
                          obtain rfl := Option.some.inj H
                          go_wp2
                          go_ret
                          exact ⟨by first | rfl | (simp [errW_none, errW_some] <;> rfl) | (simp [*, errW_none, errW_some] <;> rfl), by repeat (first | (with_reducible first | exact HB.out | apply below_alloc | apply pw_below_drewN | apply below_drew1) | exact HB.out)⟩

/-- THE ONE PURE STATEMENT of mutoscopelaw05_FixWhole: yours. -/
def mutoscopelaw05_FixWhole.Pure : Prop := ∀ (a0 : Int) (a1 : Int), (Lit.int .i64 a0).wf = true → (Lit.int .i64 a1).wf = true → ∃ k, mutoscopelaw05_FixWhole.f k a0 a1 = some true
theorem mutoscopelaw05_FixWhole.walk (P : mutoscopelaw05_FixWhole.Pure) (a0 : Int) (a1 : Int) (w : World) (w0 : (Lit.int .i64 a0).wf = true) (w1 : (Lit.int .i64 a1).wf = true) :
    Calls Try.prog 10 #[.int .i64 a0, .int .i64 a1] w fun e w' => e = .returned (.bool true) ∧ Below w.heap.size w w' := by
  obtain ⟨k, h⟩ := P a0 a1 w0 w1
  refine (mutoscopelaw05_FixWhole.calls k a0 a1 true w h).mono ?_
  rintro e w' ⟨rfl, hd⟩
  exact ⟨rfl, hd⟩

end Go.Proofs.Ytbkjkjcpclaijaa.PFixWhole
