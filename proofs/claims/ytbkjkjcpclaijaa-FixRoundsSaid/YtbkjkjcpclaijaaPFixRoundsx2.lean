-- PRINTED BY print.sh 35421559b90ae4d0a3588c463048766b98c2df88dd9212a6774a882060cdf62d: not written by this session
import Derived.Test.YtbkjkjcpclaijaaPFixRoundsx0
import Derived.Test.YtbkjkjcpclaijaaPFixRoundsx1
namespace Go.Proofs.Ytbkjkjcpclaijaa.PFixRounds
open Go.RowKit Go.Proofs.YtbkjkjcpclaijaaW.PrintWords Go.Proofs.YtbkjkjcpclaijaaW.PrintLast Go.Proofs.YtbkjkjcpclaijaaW.PrintMore
attribute [local go_sem] max2_int min2_int max_two min_two max_three min_three max_four min_four   -- for this text's walks alone
set_option linter.unusedVariables false
set_option linter.unusedSimpArgs false

/-! ### mutoscopelaw05_FixRounds: function 7 -/
def mutoscopelaw05_FixRounds.j0 : Nat → Int → Int → Bool → Option (Bool)
  | 0, _, _, _ => none
  | k + 1, x0, x1, x20 => if x20 = true then ((mutoscopelaw05_awake.f k).bind fun t135 => (some t135)) else ((fix_Round.f x0 x1).bind fun t136 => ((mutoscoperef05_Round.f k x0 x1).bind fun t137 => (if t136 = t137 then (if (wrap64 (x0 - (wrap64 (t136 * x1)))) ≥ (wrap64 (-(wrap64 (Int.tdiv x1 2)))) then (if (wrap64 (x0 - (wrap64 (t136 * x1)))) < (wrap64 (x1 - (wrap64 (x0 - (wrap64 (t136 * x1)))))) then ((mutoscopelaw05_awake.f k).bind fun t138 => (some t138)) else (some false)) else (some false)) else (some false))))
def mutoscopelaw05_FixRounds.f (k : Nat) (a0 : Int) (a1 : Int) : Option (Bool) := if a1 < 1 then (mutoscopelaw05_FixRounds.j0 k a0 a1 true) else (if a1 > 4611686018427387904 then (mutoscopelaw05_FixRounds.j0 k a0 a1 true) else (if a0 < (-4611686018427387904) then (mutoscopelaw05_FixRounds.j0 k a0 a1 true) else (mutoscopelaw05_FixRounds.j0 k a0 a1 (decide (a0 > 4611686018427387904)))))
theorem mutoscopelaw05_FixRounds.mono_l : ∀ k, (∀ y0 y1 y2, LeO (mutoscopelaw05_FixRounds.j0 k y0 y1 y2) (mutoscopelaw05_FixRounds.j0 (k + 1) y0 y1 y2))
  | 0 => fun _ _ _ r h => by simp [mutoscopelaw05_FixRounds.j0] at h
  | k + 1 => by
    have ih0 := mutoscopelaw05_FixRounds.mono_l k
    · intro y0 y1 y2
      unfold mutoscopelaw05_FixRounds.j0
      repeat' first
      | (with_reducible exact ih0 _ _ _)
      | (with_reducible exact mutoscopelaw05_awake.mono _)
      | (with_reducible exact mutoscoperef05_Round.mono _ _ _)
      | (with_reducible exact LeO.refl _)
      | (with_reducible exact LeO.none _)
      | (with_reducible refine LeO.ite ?_ ?_)
      | (with_reducible refine LeO.bind ?_ (fun _ => ?_))
      | exact ih0 _ _ _
      | exact mutoscopelaw05_awake.mono _
      | exact mutoscoperef05_Round.mono _ _ _
      | exact LeO.none _
      | refine LeO.ite ?_ ?_
      | refine LeO.bind ?_ (fun _ => ?_)
theorem mutoscopelaw05_FixRounds.mono : ∀ a0 a1 k, LeO (mutoscopelaw05_FixRounds.f k a0 a1) (mutoscopelaw05_FixRounds.f (k + 1) a0 a1) := by
  intro a0 a1 k
  have ih0 := mutoscopelaw05_FixRounds.mono_l k
  unfold mutoscopelaw05_FixRounds.f
  repeat' first
      | (with_reducible exact ih0 _ _ _)
      | (with_reducible exact mutoscopelaw05_awake.mono _)
      | (with_reducible exact mutoscoperef05_Round.mono _ _ _)
      | (with_reducible exact LeO.refl _)
      | (with_reducible exact LeO.none _)
      | (with_reducible refine LeO.ite ?_ ?_)
      | (with_reducible refine LeO.bind ?_ (fun _ => ?_))
      | exact ih0 _ _ _
      | exact mutoscopelaw05_awake.mono _
      | exact mutoscoperef05_Round.mono _ _ _
      | exact LeO.none _
      | refine LeO.ite ?_ ?_
      | refine LeO.bind ?_ (fun _ => ?_)
set_option maxHeartbeats 8000000 in
set_option maxRecDepth 100000 in
theorem mutoscopelaw05_FixRounds.calls (k : Nat) (a0 : Int) (a1 : Int) (r : Bool) (w : World) (h : mutoscopelaw05_FixRounds.f k a0 a1 = some r) :
    Calls Try.prog 7 #[.int .i64 a0, .int .i64 a1] w fun e w' => e = .returned (.bool r) ∧ Below w.heap.size w w' := by
  have HB := Aside0.mk (Below.refl w.heap.size w)
  have H : (if a1 < 1 then (mutoscopelaw05_FixRounds.j0 k a0 a1 true) else (if a1 > 4611686018427387904 then (mutoscopelaw05_FixRounds.j0 k a0 a1 true) else (if a0 < (-4611686018427387904) then (mutoscopelaw05_FixRounds.j0 k a0 a1 true) else (mutoscopelaw05_FixRounds.j0 k a0 a1 (decide (a0 > 4611686018427387904)))))) = some r := h
  clear h
  have HC3 := Aside0.mk H
  clear H
  go_enter Try.func7, Try.ntmps7
  go_upto_region 1 with (fail)
  go_cut [20] (fun v20 wc => ∃ (kq : Nat) (x20_2 : Bool), v20 = .bool x20_2 ∧ Aside0 (mutoscopelaw05_FixRounds.j0 kq a0 a1 x20_2 = some r) ∧ Aside0 (kq ≤ k) ∧ Aside0 (Below w.heap.size w wc))
  case first =>
    have H := HC3.out
    clear HC3
    by_cases c4 : a1 < 1
    · rw [if_pos c4] at H
      have c4b0 : decide (a1 < 1) = true := decide_eq_true c4
      clear c4
      (first | rw [c4b0] | (simp only [i64_w, i32_w]; rw [c4b0]) | skip)
      have H' := Aside0.mk H
      clear H
      go_wp2
      go_meet
      case rel => exact ⟨_, (true), (by first | rfl | (simp; done) | (simp [*]; done)), H', ⟨by first | omega | exact Nat.le_refl _⟩, ⟨by repeat (first | (with_reducible first | exact HB.out | apply below_alloc | apply pw_below_drewN | apply below_drew1) | exact HB.out)⟩⟩
    · rw [if_neg c4] at H
      have c4b0 : decide (a1 < 1) = false := decide_eq_false c4
      clear c4
      (first | rw [c4b0] | (simp only [i64_w, i32_w]; rw [c4b0]) | skip)
      by_cases c5 : a1 > 4611686018427387904
      · rw [if_pos c5] at H
        have c5b0 : decide (4611686018427387904 < a1) = true := decide_eq_true c5
        clear c5
        have H' := Aside0.mk H
        clear H
        go_wp2
        go_meet
        case rel => exact ⟨_, (true), (by first | rfl | (simp; done) | (simp [*]; done)), H', ⟨by first | omega | exact Nat.le_refl _⟩, ⟨by repeat (first | (with_reducible first | exact HB.out | apply below_alloc | apply pw_below_drewN | apply below_drew1) | exact HB.out)⟩⟩
      · rw [if_neg c5] at H
        have c5b0 : decide (4611686018427387904 < a1) = false := decide_eq_false c5
        clear c5
        by_cases c6 : a0 < (-4611686018427387904)
        · rw [if_pos c6] at H
          have c6b0 : decide (a0 < (-4611686018427387904)) = true := decide_eq_true c6
          clear c6
          have H' := Aside0.mk H
          clear H
          go_wp2
          go_meet
          case rel => exact ⟨_, (true), (by first | rfl | (simp; done) | (simp [*]; done)), H', ⟨by first | omega | exact Nat.le_refl _⟩, ⟨by repeat (first | (with_reducible first | exact HB.out | apply below_alloc | apply pw_below_drewN | apply below_drew1) | exact HB.out)⟩⟩
        · rw [if_neg c6] at H
          have c6b0 : decide (a0 < (-4611686018427387904)) = false := decide_eq_false c6
          clear c6
          have H' := Aside0.mk H
          clear H
          go_wp2
          go_meet
          case rel => exact ⟨_, (decide (a0 > 4611686018427387904)), (by first | rfl | (simp; done) | (simp [*]; done)), H', ⟨by first | omega | exact Nat.le_refl _⟩, ⟨by repeat (first | (with_reducible first | exact HB.out | apply below_alloc | apply pw_below_drewN | apply below_drew1) | exact HB.out)⟩⟩
  case rest =>
    clear HC3
    try clear p2
    try clear c4
    try clear c4b0
    try clear c5
    try clear c5b0
    try clear c6
    try clear c6b0
    obtain ⟨kq, x20_2, rfl, HA, HJ2, HB⟩ := hcut
    cases kq with
    | zero => exact absurd HA.out (by simp [mutoscopelaw05_FixRounds.j0])
    | succ kj2 =>
      have H := HA.out
      clear HA
      simp only [mutoscopelaw05_FixRounds.j0] at H
      by_cases c7 : x20_2 = true
      · subst c7
        have H1 : ((mutoscopelaw05_awake.f kj2).bind fun t135 => (some t135)) = some r := by rw [if_pos rfl] at H; exact H
        clear H
        have H := H1
        clear H1
        replace H := Option.bind_eq_some_iff.mp H
        obtain ⟨t135, A80, H⟩ := H
        replace H : (some t135) = some r := H
        have A8 := Aside0.mk A80
        clear A80
        obtain rfl := Option.some.inj H
        go_wp2_with (first | ((with_reducible refine gate_callee (f := 19) rfl ?_); refine goesL_ (some 21) rfl rfl Try.func19 (by kernel_rfl) rfl #[] rfl (by (try simp only [List.map_toArray, List.map_cons, List.map_nil]); first | done | rfl | (simp only [List.length_drop, List.length_take]; rfl)) ?_; (with_reducible refine (mutoscopelaw05_awake.calls kj2  t135 _ A8.out).mono ?_); rintro e w9 ⟨rfl, hb⟩; refine ⟨_, rfl, ?_⟩; have n0_ := Aside0.mk (below_step (by repeat (first | (with_reducible first | exact HB.out | apply below_alloc | apply pw_below_drewN | apply below_drew1) | exact HB.out)) hb); clear HB; have HB := n0_; clear n0_; (try clear hb); (try clear hb2); (try clear hk); (try clear hi)))
        go_ret
        exact ⟨by first | rfl | (simp [errW_none, errW_some] <;> rfl) | (simp [*, errW_none, errW_some] <;> rfl), by repeat (first | (with_reducible first | exact HB.out | apply below_alloc | apply pw_below_drewN | apply below_drew1) | exact HB.out)⟩
      · replace c7 := Bool.eq_false_iff.mpr c7
        subst c7
        have H1 : ((fix_Round.f a0 a1).bind fun t136 => ((mutoscoperef05_Round.f kj2 a0 a1).bind fun t137 => (if t136 = t137 then (if (wrap64 (a0 - (wrap64 (t136 * a1)))) ≥ (wrap64 (-(wrap64 (Int.tdiv a1 2)))) then (if (wrap64 (a0 - (wrap64 (t136 * a1)))) < (wrap64 (a1 - (wrap64 (a0 - (wrap64 (t136 * a1)))))) then ((mutoscopelaw05_awake.f kj2).bind fun t138 => (some t138)) else (some false)) else (some false)) else (some false)))) = some r := by rw [if_neg (show ¬ (false = true) by decide)] at H; exact H
        clear H
        have H := H1
        clear H1
        replace H := Option.bind_eq_some_iff.mp H
        obtain ⟨t136, A100, H⟩ := H
        replace H : ((mutoscoperef05_Round.f kj2 a0 a1).bind fun t137 => (if t136 = t137 then (if (wrap64 (a0 - (wrap64 (t136 * a1)))) ≥ (wrap64 (-(wrap64 (Int.tdiv a1 2)))) then (if (wrap64 (a0 - (wrap64 (t136 * a1)))) < (wrap64 (a1 - (wrap64 (a0 - (wrap64 (t136 * a1)))))) then ((mutoscopelaw05_awake.f kj2).bind fun t138 => (some t138)) else (some false)) else (some false)) else (some false))) = some r := H
        have A10 := Aside0.mk A100
        clear A100
        replace H := Option.bind_eq_some_iff.mp H
        obtain ⟨t137, A110, H⟩ := H
        replace H : (if t136 = t137 then (if (wrap64 (a0 - (wrap64 (t136 * a1)))) ≥ (wrap64 (-(wrap64 (Int.tdiv a1 2)))) then (if (wrap64 (a0 - (wrap64 (t136 * a1)))) < (wrap64 (a1 - (wrap64 (a0 - (wrap64 (t136 * a1)))))) then ((mutoscopelaw05_awake.f kj2).bind fun t138 => (some t138)) else (some false)) else (some false)) else (some false)) = some r := H
        have A11 := Aside0.mk A110
        clear A110
        by_cases c12 : t136 = t137
        · rw [if_pos c12] at H
          have c12b0 : (t136 == t137) = true := beq_iff_eq.mpr c12
          have c12b1 : (t136 != t137) = false := bne_eq_false_iff_eq.mpr c12
          clear c12
          by_cases c13 : (wrap64 (a0 - (wrap64 (t136 * a1)))) ≥ (wrap64 (-(wrap64 (Int.tdiv a1 2))))
          · rw [if_pos c13] at H
            have c13b0 : decide ((wrap64 (-(wrap64 (Int.tdiv a1 2)))) ≤ (wrap64 (a0 - (wrap64 (t136 * a1))))) = true := decide_eq_true c13
            clear c13
            by_cases c14 : (wrap64 (a0 - (wrap64 (t136 * a1)))) < (wrap64 (a1 - (wrap64 (a0 - (wrap64 (t136 * a1))))))
            · rw [if_pos c14] at H
              have c14b0 : decide ((wrap64 (a0 - (wrap64 (t136 * a1)))) < (wrap64 (a1 - (wrap64 (a0 - (wrap64 (t136 * a1))))))) = true := decide_eq_true c14
              clear c14
              replace H := Option.bind_eq_some_iff.mp H
              obtain ⟨t138, A150, H⟩ := H
              replace H : (some t138) = some r := H
              have A15 := Aside0.mk A150
              clear A150
              obtain rfl := Option.some.inj H
              go_wp2_with (first | ((with_reducible refine gate_callee (f := 20) rfl ?_); refine goesL_ (some 24) rfl rfl Try.func20 (by kernel_rfl) rfl #[.int .i64 a0, .int .i64 a1] rfl (by (try simp only [List.map_toArray, List.map_cons, List.map_nil]); first | done | rfl | (simp only [List.length_drop, List.length_take]; rfl)) ?_; (with_reducible refine (fix_Round.calls a0 a1 t136 _ A10.out).mono ?_); rintro e w' ⟨rfl, ⟨nd, rfl⟩⟩; refine ⟨_, rfl, ?_⟩) | ((with_reducible refine gate_callee (f := 21) rfl ?_); refine goesL_ (some 28) rfl rfl Try.func21 (by kernel_rfl) rfl #[.int .i64 a0, .int .i64 a1] rfl (by (try simp only [List.map_toArray, List.map_cons, List.map_nil]); first | done | rfl | (simp only [List.length_drop, List.length_take]; rfl)) ?_; (with_reducible refine (mutoscoperef05_Round.calls kj2 a0 a1 t137 _ A11.out).mono ?_); rintro e w' ⟨rfl, ⟨nd, rfl⟩⟩; refine ⟨_, rfl, ?_⟩) | (go_at_call 19; (with_reducible refine (mutoscopelaw05_awake.calls kj2  t138 _ A15.out).mono ?_); rintro e w16 ⟨rfl, hb⟩; have n0_ := Aside0.mk (below_step (by repeat (first | (with_reducible first | exact HB.out | apply below_alloc | apply pw_below_drewN | apply below_drew1) | exact HB.out)) hb); clear HB; have HB := n0_; clear n0_; (try clear hb); (try clear hb2); (try clear hk); (try clear hi)))
              go_ret
              exact ⟨by first | rfl | (simp [errW_none, errW_some] <;> rfl) | (simp [*, errW_none, errW_some] <;> rfl), by repeat (first | (with_reducible first | exact HB.out | apply below_alloc | apply pw_below_drewN | apply below_drew1) | exact HB.out)⟩
            · rw [if_neg c14] at H
              have c14b0 : decide ((wrap64 (a0 - (wrap64 (t136 * a1)))) < (wrap64 (a1 - (wrap64 (a0 - (wrap64 (t136 * a1))))))) = false := decide_eq_false c14
              clear c14
              obtain rfl := Option.some.inj H
              go_wp2_with (first | ((with_reducible refine gate_callee (f := 20) rfl ?_); refine goesL_ (some 24) rfl rfl Try.func20 (by kernel_rfl) rfl #[.int .i64 a0, .int .i64 a1] rfl (by (try simp only [List.map_toArray, List.map_cons, List.map_nil]); first | done | rfl | (simp only [List.length_drop, List.length_take]; rfl)) ?_; (with_reducible refine (fix_Round.calls a0 a1 t136 _ A10.out).mono ?_); rintro e w' ⟨rfl, ⟨nd, rfl⟩⟩; refine ⟨_, rfl, ?_⟩) | ((with_reducible refine gate_callee (f := 21) rfl ?_); refine goesL_ (some 28) rfl rfl Try.func21 (by kernel_rfl) rfl #[.int .i64 a0, .int .i64 a1] rfl (by (try simp only [List.map_toArray, List.map_cons, List.map_nil]); first | done | rfl | (simp only [List.length_drop, List.length_take]; rfl)) ?_; (with_reducible refine (mutoscoperef05_Round.calls kj2 a0 a1 t137 _ A11.out).mono ?_); rintro e w' ⟨rfl, ⟨nd, rfl⟩⟩; refine ⟨_, rfl, ?_⟩))
              go_ret
              exact ⟨by first | rfl | (simp [errW_none, errW_some] <;> rfl) | (simp [*, errW_none, errW_some] <;> rfl), by repeat (first | (with_reducible first | exact HB.out | apply below_alloc | apply pw_below_drewN | apply below_drew1) | exact HB.out)⟩
          · rw [if_neg c13] at H
            have c13b0 : decide ((wrap64 (-(wrap64 (Int.tdiv a1 2)))) ≤ (wrap64 (a0 - (wrap64 (t136 * a1))))) = false := decide_eq_false c13
            clear c13
            obtain rfl := Option.some.inj H
            go_wp2_with (first | ((with_reducible refine gate_callee (f := 20) rfl ?_); refine goesL_ (some 24) rfl rfl Try.func20 (by kernel_rfl) rfl #[.int .i64 a0, .int .i64 a1] rfl (by (try simp only [List.map_toArray, List.map_cons, List.map_nil]); first | done | rfl | (simp only [List.length_drop, List.length_take]; rfl)) ?_; (with_reducible refine (fix_Round.calls a0 a1 t136 _ A10.out).mono ?_); rintro e w' ⟨rfl, ⟨nd, rfl⟩⟩; refine ⟨_, rfl, ?_⟩) | ((with_reducible refine gate_callee (f := 21) rfl ?_); refine goesL_ (some 28) rfl rfl Try.func21 (by kernel_rfl) rfl #[.int .i64 a0, .int .i64 a1] rfl (by (try simp only [List.map_toArray, List.map_cons, List.map_nil]); first | done | rfl | (simp only [List.length_drop, List.length_take]; rfl)) ?_; (with_reducible refine (mutoscoperef05_Round.calls kj2 a0 a1 t137 _ A11.out).mono ?_); rintro e w' ⟨rfl, ⟨nd, rfl⟩⟩; refine ⟨_, rfl, ?_⟩))
            go_ret
            exact ⟨by first | rfl | (simp [errW_none, errW_some] <;> rfl) | (simp [*, errW_none, errW_some] <;> rfl), by repeat (first | (with_reducible first | exact HB.out | apply below_alloc | apply pw_below_drewN | apply below_drew1) | exact HB.out)⟩
        · rw [if_neg c12] at H
          have c12b0 : (t136 == t137) = false := beq_eq_false_iff_ne.mpr c12
          have c12b1 : (t136 != t137) = true := bne_iff_ne.mpr c12
          obtain rfl := Option.some.inj H
          go_wp2_with (first | ((with_reducible refine gate_callee (f := 20) rfl ?_); refine goesL_ (some 24) rfl rfl Try.func20 (by kernel_rfl) rfl #[.int .i64 a0, .int .i64 a1] rfl (by (try simp only [List.map_toArray, List.map_cons, List.map_nil]); first | done | rfl | (simp only [List.length_drop, List.length_take]; rfl)) ?_; (with_reducible refine (fix_Round.calls a0 a1 t136 _ A10.out).mono ?_); rintro e w' ⟨rfl, ⟨nd, rfl⟩⟩; refine ⟨_, rfl, ?_⟩) | ((with_reducible refine gate_callee (f := 21) rfl ?_); refine goesL_ (some 28) rfl rfl Try.func21 (by kernel_rfl) rfl #[.int .i64 a0, .int .i64 a1] rfl (by (try simp only [List.map_toArray, List.map_cons, List.map_nil]); first | done | rfl | (simp only [List.length_drop, List.length_take]; rfl)) ?_; (with_reducible refine (mutoscoperef05_Round.calls kj2 a0 a1 t137 _ A11.out).mono ?_); rintro e w' ⟨rfl, ⟨nd, rfl⟩⟩; refine ⟨_, rfl, ?_⟩))
          go_ret
          exact ⟨by first | rfl | (simp [errW_none, errW_some] <;> rfl) | (simp [*, errW_none, errW_some] <;> rfl), by repeat (first | (with_reducible first | exact HB.out | apply below_alloc | apply pw_below_drewN | apply below_drew1) | exact HB.out)⟩

/-- THE ONE PURE STATEMENT of mutoscopelaw05_FixRounds: yours. -/
def mutoscopelaw05_FixRounds.Pure : Prop := ∀ (a0 : Int) (a1 : Int), (Lit.int .i64 a0).wf = true → (Lit.int .i64 a1).wf = true → ∃ k, mutoscopelaw05_FixRounds.f k a0 a1 = some true
theorem mutoscopelaw05_FixRounds.walk (P : mutoscopelaw05_FixRounds.Pure) (a0 : Int) (a1 : Int) (w : World) (w0 : (Lit.int .i64 a0).wf = true) (w1 : (Lit.int .i64 a1).wf = true) :
    Calls Try.prog 7 #[.int .i64 a0, .int .i64 a1] w fun e w' => e = .returned (.bool true) ∧ Below w.heap.size w w' := by
  obtain ⟨k, h⟩ := P a0 a1 w0 w1
  refine (mutoscopelaw05_FixRounds.calls k a0 a1 true w h).mono ?_
  rintro e w' ⟨rfl, hd⟩
  exact ⟨rfl, hd⟩

end Go.Proofs.Ytbkjkjcpclaijaa.PFixRounds
