-- Written for this claim by a program of this session (wip/tools/mprint.sh, asm.py), and by hand
import Derived.Test.YtcpakbppnkknlaaQRecTornc4
namespace Go.Proofs.Ytcpakbppnkknlaa.QRecTorn
open Go.RowKit Go.Proofs.YtcpakbppnkknlaaW.PrintWords Go.Proofs.YtcpakbppnkknlaaW.PrintLast Go.Proofs.YtcpakbppnkknlaaW.PrintMore
attribute [local go_sem] max2_int min2_int max_two min_two max_three min_three max_four min_four   -- for this text's walks alone
set_option linter.unusedVariables false
set_option linter.unusedSimpArgs false



/-! ### mutoscopelaw04_RecTorn: function 6 -/
mutual
def mutoscopelaw04_RecTorn.j0 : Nat → List (S27) → Int → Int → Int → List Int → Bool → Option (Bool)
  | 0, _, _, _, _, _, _ => none
  | k + 1, x3, x4, x5, x6, x7, x51 => if x51 = true then ((mutoscopelaw04_awake.f k).bind fun t185 => (some t185)) else (mutoscopelaw04_RecTorn.l0 k x3 x4 x5 x6 x7 0 0 x3 (x3.length : Int) 0)
def mutoscopelaw04_RecTorn.l0 : Nat → List (S27) → Int → Int → Int → List Int → Int → Int → List (S27) → Int → Int → Option (Bool)
  | 0, _, _, _, _, _, _, _, _, _, _ => none
  | k + 1, x3, x4, x5, x6, x7, x9, x10, x53, x54, x55 => if x55 < x54 then (if 0 ≤ x55 then (if x55 < (x53.length : Int) then ((rec_Size.f (((rd_T27 x53 x55).f1).length : Int)).bind fun t188 => (if (wrap64 (x10 + t188)) ≤ x4 then (mutoscopelaw04_RecTorn.l0 k x3 x4 x5 x6 x7 (wrap64 (x9 + 1)) (wrap64 (x10 + t188)) x53 x54 (wrap64 (x55 + 1))) else (mutoscopelaw04_RecTorn.l0 k x3 x4 x5 x6 x7 x9 (wrap64 (x10 + t188)) x53 x54 (wrap64 (x55 + 1))))) else (none)) else (none)) else (if 0 ≤ x4 then (if x4 ≤ (x7.length : Int) then ((rec_All.f k (x7.take (x4 : Int).toNat)).bind fun bt193 => (if (bt193.1.length : Int) = x9 then (if bt193.2.1 > x4 then (mutoscopelaw04_RecTorn.j2 k x3 x5 x6 x7 bt193.1 true) else (mutoscopelaw04_RecTorn.j2 k x3 x5 x6 x7 bt193.1 ((bt193.2.2 == 0) != (bt193.2.1 == x4)))) else (mutoscopelaw04_RecTorn.j2 k x3 x5 x6 x7 bt193.1 true))) else (none)) else (none))
def mutoscopelaw04_RecTorn.j2 : Nat → List (S27) → Int → Int → List Int → List (S27) → Bool → Option (Bool)
  | 0, _, _, _, _, _, _ => none
  | k + 1, x3, x5, x6, x7, x13, x95 => if x95 = true then (some false) else (mutoscopelaw04_RecTorn.l1 k x3 x5 x6 x7 x13 (x13.length : Int) 0)
def mutoscopelaw04_RecTorn.l1 : Nat → List (S27) → Int → Int → List Int → List (S27) → Int → Int → Option (Bool)
  | 0, _, _, _, _, _, _, _ => none
  | k + 1, x3, x5, x6, x7, x96, x97, x98 => if x98 < x97 then (if 0 ≤ x98 then (if x98 < (x96.length : Int) then (if x98 < (x3.length : Int) then ((rec_Equal.f ((rd_T27 x96 x98).f0) ((rd_T27 x96 x98).f1) ((rd_T27 x3 x98).f0) ((rd_T27 x3 x98).f1)).bind fun t201 => (if t201 = true then (mutoscopelaw04_RecTorn.l1 k x3 x5 x6 x7 x96 x97 (wrap64 (x98 + 1))) else (some false))) else (none)) else (none)) else (none)) else (if x5 < 0 then (mutoscopelaw04_RecTorn.j4 k x3 x5 x6 x7 true) else (if x5 ≥ (x7.length : Int) then (mutoscopelaw04_RecTorn.j4 k x3 x5 x6 x7 true) else (mutoscopelaw04_RecTorn.j4 k x3 x5 x6 x7 (x6 == 0))))
def mutoscopelaw04_RecTorn.j4 : Nat → List (S27) → Int → Int → List Int → Bool → Option (Bool)
  | 0, _, _, _, _, _ => none
  | k + 1, x3, x5, x6, x7, x122 => if x122 = true then ((mutoscopelaw04_awake.f k).bind fun t202 => (some t202)) else (if 0 ≤ x5 then (if x5 < (x7.length : Int) then (mutoscopelaw04_RecTorn.l2 k x3 x5 (x7.set (x5 : Int).toNat (Go.bits .xor .u8 (rd x7 x5) x6)) 0 0 x3 (x3.length : Int) 0) else (none)) else (none))
def mutoscopelaw04_RecTorn.l2 : Nat → List (S27) → Int → List Int → Int → Int → List (S27) → Int → Int → Option (Bool)
  | 0, _, _, _, _, _, _, _, _ => none
  | k + 1, x3, x5, x7, x18, x19, x131, x132, x133 => if x133 < x132 then (if 0 ≤ x133 then (if x133 < (x131.length : Int) then ((rec_Size.f (((rd_T27 x131 x133).f1).length : Int)).bind fun t207 => (if (wrap64 (x19 + t207)) ≤ x5 then (mutoscopelaw04_RecTorn.l2 k x3 x5 x7 (wrap64 (x18 + 1)) (wrap64 (x19 + t207)) x131 x132 (wrap64 (x133 + 1))) else (mutoscopelaw04_RecTorn.l2 k x3 x5 x7 x18 (wrap64 (x19 + t207)) x131 x132 (wrap64 (x133 + 1))))) else (none)) else (none)) else ((rec_All.f k x7).bind fun bt208 => (if (bt208.1.length : Int) = x18 then (mutoscopelaw04_RecTorn.j6 k x3 bt208.1 x18 (bt208.2.2 == 0)) else (mutoscopelaw04_RecTorn.j6 k x3 bt208.1 x18 true)))
def mutoscopelaw04_RecTorn.j6 : Nat → List (S27) → List (S27) → Int → Bool → Option (Bool)
  | 0, _, _, _, _ => none
  | k + 1, x3, x13, x18, x162 => if x162 = true then (some false) else (mutoscopelaw04_RecTorn.l3 k x3 x13 x18 0)
def mutoscopelaw04_RecTorn.l3 : Nat → List (S27) → List (S27) → Int → Int → Option (Bool)
  | 0, _, _, _, _ => none
  | k + 1, x3, x13, x163, x164 => if x164 < x163 then (if 0 ≤ x164 then (if x164 < (x13.length : Int) then (if x164 < (x3.length : Int) then ((rec_Equal.f ((rd_T27 x13 x164).f0) ((rd_T27 x13 x164).f1) ((rd_T27 x3 x164).f0) ((rd_T27 x3 x164).f1)).bind fun t215 => (if t215 = true then (mutoscopelaw04_RecTorn.l3 k x3 x13 x163 (wrap64 (x164 + 1))) else (some false))) else (none)) else (none)) else (none)) else ((mutoscopelaw04_awake.f k).bind fun t216 => (some t216))
end
def mutoscopelaw04_RecTorn.f (k : Nat) (l0_0 : List (S27)) (a0_1 : Int) (a0_2 : Int) (a0_3 : Int) : Option (Bool) := (mutoscopelaw04_small.f k l0_0).bind fun t179 => (if t179 = true then ((rec_Bytes.f k l0_0).bind fun bt181 => (if bt181.2 = 0 then (if a0_1 < 0 then (mutoscopelaw04_RecTorn.j0 k l0_0 a0_1 a0_2 a0_3 bt181.1 true) else (mutoscopelaw04_RecTorn.j0 k l0_0 a0_1 a0_2 a0_3 bt181.1 (decide (a0_1 > (bt181.1.length : Int))))) else (mutoscopelaw04_RecTorn.j0 k l0_0 a0_1 a0_2 a0_3 bt181.1 true))) else ((mutoscopelaw04_awake.f k).bind fun t180 => (some t180)))
theorem mutoscopelaw04_RecTorn.mono_l : ∀ k, (∀ y0 y1 y2 y3 y4 y5, LeO (mutoscopelaw04_RecTorn.j0 k y0 y1 y2 y3 y4 y5) (mutoscopelaw04_RecTorn.j0 (k + 1) y0 y1 y2 y3 y4 y5)) ∧ (∀ y0 y1 y2 y3 y4 y5 y6 y7 y8 y9, LeO (mutoscopelaw04_RecTorn.l0 k y0 y1 y2 y3 y4 y5 y6 y7 y8 y9) (mutoscopelaw04_RecTorn.l0 (k + 1) y0 y1 y2 y3 y4 y5 y6 y7 y8 y9)) ∧ (∀ y0 y1 y2 y3 y4 y5, LeO (mutoscopelaw04_RecTorn.j2 k y0 y1 y2 y3 y4 y5) (mutoscopelaw04_RecTorn.j2 (k + 1) y0 y1 y2 y3 y4 y5)) ∧ (∀ y0 y1 y2 y3 y4 y5 y6, LeO (mutoscopelaw04_RecTorn.l1 k y0 y1 y2 y3 y4 y5 y6) (mutoscopelaw04_RecTorn.l1 (k + 1) y0 y1 y2 y3 y4 y5 y6)) ∧ (∀ y0 y1 y2 y3 y4, LeO (mutoscopelaw04_RecTorn.j4 k y0 y1 y2 y3 y4) (mutoscopelaw04_RecTorn.j4 (k + 1) y0 y1 y2 y3 y4)) ∧ (∀ y0 y1 y2 y3 y4 y5 y6 y7, LeO (mutoscopelaw04_RecTorn.l2 k y0 y1 y2 y3 y4 y5 y6 y7) (mutoscopelaw04_RecTorn.l2 (k + 1) y0 y1 y2 y3 y4 y5 y6 y7)) ∧ (∀ y0 y1 y2 y3, LeO (mutoscopelaw04_RecTorn.j6 k y0 y1 y2 y3) (mutoscopelaw04_RecTorn.j6 (k + 1) y0 y1 y2 y3)) ∧ (∀ y0 y1 y2 y3, LeO (mutoscopelaw04_RecTorn.l3 k y0 y1 y2 y3) (mutoscopelaw04_RecTorn.l3 (k + 1) y0 y1 y2 y3))
  | 0 => ⟨fun _ _ _ _ _ _ r h => by simp [mutoscopelaw04_RecTorn.j0] at h, fun _ _ _ _ _ _ _ _ _ _ r h => by simp [mutoscopelaw04_RecTorn.l0] at h, fun _ _ _ _ _ _ r h => by simp [mutoscopelaw04_RecTorn.j2] at h, fun _ _ _ _ _ _ _ r h => by simp [mutoscopelaw04_RecTorn.l1] at h, fun _ _ _ _ _ r h => by simp [mutoscopelaw04_RecTorn.j4] at h, fun _ _ _ _ _ _ _ _ r h => by simp [mutoscopelaw04_RecTorn.l2] at h, fun _ _ _ _ r h => by simp [mutoscopelaw04_RecTorn.j6] at h, fun _ _ _ _ r h => by simp [mutoscopelaw04_RecTorn.l3] at h⟩
  | k + 1 => by
    obtain ⟨ih0, ih1, ih2, ih3, ih4, ih5, ih6, ih7⟩ := mutoscopelaw04_RecTorn.mono_l k
    refine ⟨?_, ?_, ?_, ?_, ?_, ?_, ?_, ?_⟩
    · intro y0 y1 y2 y3 y4 y5
      unfold mutoscopelaw04_RecTorn.j0
      repeat' first
      | (with_reducible exact ih0 _ _ _ _ _ _)
      | (with_reducible exact ih1 _ _ _ _ _ _ _ _ _ _)
      | (with_reducible exact ih2 _ _ _ _ _ _)
      | (with_reducible exact ih3 _ _ _ _ _ _ _)
      | (with_reducible exact ih4 _ _ _ _ _)
      | (with_reducible exact ih5 _ _ _ _ _ _ _ _)
      | (with_reducible exact ih6 _ _ _ _)
      | (with_reducible exact ih7 _ _ _ _)
      | (with_reducible exact mutoscopelaw04_awake.mono _)
      | (with_reducible exact mutoscopelaw04_small.mono _ _)
      | (with_reducible exact rec_All.mono _ _)
      | (with_reducible exact rec_Bytes.mono _ _)
      | (with_reducible exact LeO.refl _)
      | (with_reducible exact LeO.none _)
      | (with_reducible refine LeO.ite ?_ ?_)
      | (with_reducible refine LeO.bind ?_ (fun _ => ?_))
      | exact ih0 _ _ _ _ _ _
      | exact ih1 _ _ _ _ _ _ _ _ _ _
      | exact ih2 _ _ _ _ _ _
      | exact ih3 _ _ _ _ _ _ _
      | exact ih4 _ _ _ _ _
      | exact ih5 _ _ _ _ _ _ _ _
      | exact ih6 _ _ _ _
      | exact ih7 _ _ _ _
      | exact mutoscopelaw04_awake.mono _
      | exact mutoscopelaw04_small.mono _ _
      | exact rec_All.mono _ _
      | exact rec_Bytes.mono _ _
      | exact LeO.none _
      | refine LeO.ite ?_ ?_
      | refine LeO.bind ?_ (fun _ => ?_)
    · intro y0 y1 y2 y3 y4 y5 y6 y7 y8 y9
      unfold mutoscopelaw04_RecTorn.l0
      repeat' first
      | (with_reducible exact ih0 _ _ _ _ _ _)
      | (with_reducible exact ih1 _ _ _ _ _ _ _ _ _ _)
      | (with_reducible exact ih2 _ _ _ _ _ _)
      | (with_reducible exact ih3 _ _ _ _ _ _ _)
      | (with_reducible exact ih4 _ _ _ _ _)
      | (with_reducible exact ih5 _ _ _ _ _ _ _ _)
      | (with_reducible exact ih6 _ _ _ _)
      | (with_reducible exact ih7 _ _ _ _)
      | (with_reducible exact mutoscopelaw04_awake.mono _)
      | (with_reducible exact mutoscopelaw04_small.mono _ _)
      | (with_reducible exact rec_All.mono _ _)
      | (with_reducible exact rec_Bytes.mono _ _)
      | (with_reducible exact LeO.refl _)
      | (with_reducible exact LeO.none _)
      | (with_reducible refine LeO.ite ?_ ?_)
      | (with_reducible refine LeO.bind ?_ (fun _ => ?_))
      | exact ih0 _ _ _ _ _ _
      | exact ih1 _ _ _ _ _ _ _ _ _ _
      | exact ih2 _ _ _ _ _ _
      | exact ih3 _ _ _ _ _ _ _
      | exact ih4 _ _ _ _ _
      | exact ih5 _ _ _ _ _ _ _ _
      | exact ih6 _ _ _ _
      | exact ih7 _ _ _ _
      | exact mutoscopelaw04_awake.mono _
      | exact mutoscopelaw04_small.mono _ _
      | exact rec_All.mono _ _
      | exact rec_Bytes.mono _ _
      | exact LeO.none _
      | refine LeO.ite ?_ ?_
      | refine LeO.bind ?_ (fun _ => ?_)
    · intro y0 y1 y2 y3 y4 y5
      unfold mutoscopelaw04_RecTorn.j2
      repeat' first
      | (with_reducible exact ih0 _ _ _ _ _ _)
      | (with_reducible exact ih1 _ _ _ _ _ _ _ _ _ _)
      | (with_reducible exact ih2 _ _ _ _ _ _)
      | (with_reducible exact ih3 _ _ _ _ _ _ _)
      | (with_reducible exact ih4 _ _ _ _ _)
      | (with_reducible exact ih5 _ _ _ _ _ _ _ _)
      | (with_reducible exact ih6 _ _ _ _)
      | (with_reducible exact ih7 _ _ _ _)
      | (with_reducible exact mutoscopelaw04_awake.mono _)
      | (with_reducible exact mutoscopelaw04_small.mono _ _)
      | (with_reducible exact rec_All.mono _ _)
      | (with_reducible exact rec_Bytes.mono _ _)
      | (with_reducible exact LeO.refl _)
      | (with_reducible exact LeO.none _)
      | (with_reducible refine LeO.ite ?_ ?_)
      | (with_reducible refine LeO.bind ?_ (fun _ => ?_))
      | exact ih0 _ _ _ _ _ _
      | exact ih1 _ _ _ _ _ _ _ _ _ _
      | exact ih2 _ _ _ _ _ _
      | exact ih3 _ _ _ _ _ _ _
      | exact ih4 _ _ _ _ _
      | exact ih5 _ _ _ _ _ _ _ _
      | exact ih6 _ _ _ _
      | exact ih7 _ _ _ _
      | exact mutoscopelaw04_awake.mono _
      | exact mutoscopelaw04_small.mono _ _
      | exact rec_All.mono _ _
      | exact rec_Bytes.mono _ _
      | exact LeO.none _
      | refine LeO.ite ?_ ?_
      | refine LeO.bind ?_ (fun _ => ?_)
    · intro y0 y1 y2 y3 y4 y5 y6
      unfold mutoscopelaw04_RecTorn.l1
      repeat' first
      | (with_reducible exact ih0 _ _ _ _ _ _)
      | (with_reducible exact ih1 _ _ _ _ _ _ _ _ _ _)
      | (with_reducible exact ih2 _ _ _ _ _ _)
      | (with_reducible exact ih3 _ _ _ _ _ _ _)
      | (with_reducible exact ih4 _ _ _ _ _)
      | (with_reducible exact ih5 _ _ _ _ _ _ _ _)
      | (with_reducible exact ih6 _ _ _ _)
      | (with_reducible exact ih7 _ _ _ _)
      | (with_reducible exact mutoscopelaw04_awake.mono _)
      | (with_reducible exact mutoscopelaw04_small.mono _ _)
      | (with_reducible exact rec_All.mono _ _)
      | (with_reducible exact rec_Bytes.mono _ _)
      | (with_reducible exact LeO.refl _)
      | (with_reducible exact LeO.none _)
      | (with_reducible refine LeO.ite ?_ ?_)
      | (with_reducible refine LeO.bind ?_ (fun _ => ?_))
      | exact ih0 _ _ _ _ _ _
      | exact ih1 _ _ _ _ _ _ _ _ _ _
      | exact ih2 _ _ _ _ _ _
      | exact ih3 _ _ _ _ _ _ _
      | exact ih4 _ _ _ _ _
      | exact ih5 _ _ _ _ _ _ _ _
      | exact ih6 _ _ _ _
      | exact ih7 _ _ _ _
      | exact mutoscopelaw04_awake.mono _
      | exact mutoscopelaw04_small.mono _ _
      | exact rec_All.mono _ _
      | exact rec_Bytes.mono _ _
      | exact LeO.none _
      | refine LeO.ite ?_ ?_
      | refine LeO.bind ?_ (fun _ => ?_)
    · intro y0 y1 y2 y3 y4
      unfold mutoscopelaw04_RecTorn.j4
      repeat' first
      | (with_reducible exact ih0 _ _ _ _ _ _)
      | (with_reducible exact ih1 _ _ _ _ _ _ _ _ _ _)
      | (with_reducible exact ih2 _ _ _ _ _ _)
      | (with_reducible exact ih3 _ _ _ _ _ _ _)
      | (with_reducible exact ih4 _ _ _ _ _)
      | (with_reducible exact ih5 _ _ _ _ _ _ _ _)
      | (with_reducible exact ih6 _ _ _ _)
      | (with_reducible exact ih7 _ _ _ _)
      | (with_reducible exact mutoscopelaw04_awake.mono _)
      | (with_reducible exact mutoscopelaw04_small.mono _ _)
      | (with_reducible exact rec_All.mono _ _)
      | (with_reducible exact rec_Bytes.mono _ _)
      | (with_reducible exact LeO.refl _)
      | (with_reducible exact LeO.none _)
      | (with_reducible refine LeO.ite ?_ ?_)
      | (with_reducible refine LeO.bind ?_ (fun _ => ?_))
      | exact ih0 _ _ _ _ _ _
      | exact ih1 _ _ _ _ _ _ _ _ _ _
      | exact ih2 _ _ _ _ _ _
      | exact ih3 _ _ _ _ _ _ _
      | exact ih4 _ _ _ _ _
      | exact ih5 _ _ _ _ _ _ _ _
      | exact ih6 _ _ _ _
      | exact ih7 _ _ _ _
      | exact mutoscopelaw04_awake.mono _
      | exact mutoscopelaw04_small.mono _ _
      | exact rec_All.mono _ _
      | exact rec_Bytes.mono _ _
      | exact LeO.none _
      | refine LeO.ite ?_ ?_
      | refine LeO.bind ?_ (fun _ => ?_)
    · intro y0 y1 y2 y3 y4 y5 y6 y7
      unfold mutoscopelaw04_RecTorn.l2
      repeat' first
      | (with_reducible exact ih0 _ _ _ _ _ _)
      | (with_reducible exact ih1 _ _ _ _ _ _ _ _ _ _)
      | (with_reducible exact ih2 _ _ _ _ _ _)
      | (with_reducible exact ih3 _ _ _ _ _ _ _)
      | (with_reducible exact ih4 _ _ _ _ _)
      | (with_reducible exact ih5 _ _ _ _ _ _ _ _)
      | (with_reducible exact ih6 _ _ _ _)
      | (with_reducible exact ih7 _ _ _ _)
      | (with_reducible exact mutoscopelaw04_awake.mono _)
      | (with_reducible exact mutoscopelaw04_small.mono _ _)
      | (with_reducible exact rec_All.mono _ _)
      | (with_reducible exact rec_Bytes.mono _ _)
      | (with_reducible exact LeO.refl _)
      | (with_reducible exact LeO.none _)
      | (with_reducible refine LeO.ite ?_ ?_)
      | (with_reducible refine LeO.bind ?_ (fun _ => ?_))
      | exact ih0 _ _ _ _ _ _
      | exact ih1 _ _ _ _ _ _ _ _ _ _
      | exact ih2 _ _ _ _ _ _
      | exact ih3 _ _ _ _ _ _ _
      | exact ih4 _ _ _ _ _
      | exact ih5 _ _ _ _ _ _ _ _
      | exact ih6 _ _ _ _
      | exact ih7 _ _ _ _
      | exact mutoscopelaw04_awake.mono _
      | exact mutoscopelaw04_small.mono _ _
      | exact rec_All.mono _ _
      | exact rec_Bytes.mono _ _
      | exact LeO.none _
      | refine LeO.ite ?_ ?_
      | refine LeO.bind ?_ (fun _ => ?_)
    · intro y0 y1 y2 y3
      unfold mutoscopelaw04_RecTorn.j6
      repeat' first
      | (with_reducible exact ih0 _ _ _ _ _ _)
      | (with_reducible exact ih1 _ _ _ _ _ _ _ _ _ _)
      | (with_reducible exact ih2 _ _ _ _ _ _)
      | (with_reducible exact ih3 _ _ _ _ _ _ _)
      | (with_reducible exact ih4 _ _ _ _ _)
      | (with_reducible exact ih5 _ _ _ _ _ _ _ _)
      | (with_reducible exact ih6 _ _ _ _)
      | (with_reducible exact ih7 _ _ _ _)
      | (with_reducible exact mutoscopelaw04_awake.mono _)
      | (with_reducible exact mutoscopelaw04_small.mono _ _)
      | (with_reducible exact rec_All.mono _ _)
      | (with_reducible exact rec_Bytes.mono _ _)
      | (with_reducible exact LeO.refl _)
      | (with_reducible exact LeO.none _)
      | (with_reducible refine LeO.ite ?_ ?_)
      | (with_reducible refine LeO.bind ?_ (fun _ => ?_))
      | exact ih0 _ _ _ _ _ _
      | exact ih1 _ _ _ _ _ _ _ _ _ _
      | exact ih2 _ _ _ _ _ _
      | exact ih3 _ _ _ _ _ _ _
      | exact ih4 _ _ _ _ _
      | exact ih5 _ _ _ _ _ _ _ _
      | exact ih6 _ _ _ _
      | exact ih7 _ _ _ _
      | exact mutoscopelaw04_awake.mono _
      | exact mutoscopelaw04_small.mono _ _
      | exact rec_All.mono _ _
      | exact rec_Bytes.mono _ _
      | exact LeO.none _
      | refine LeO.ite ?_ ?_
      | refine LeO.bind ?_ (fun _ => ?_)
    · intro y0 y1 y2 y3
      unfold mutoscopelaw04_RecTorn.l3
      repeat' first
      | (with_reducible exact ih0 _ _ _ _ _ _)
      | (with_reducible exact ih1 _ _ _ _ _ _ _ _ _ _)
      | (with_reducible exact ih2 _ _ _ _ _ _)
      | (with_reducible exact ih3 _ _ _ _ _ _ _)
      | (with_reducible exact ih4 _ _ _ _ _)
      | (with_reducible exact ih5 _ _ _ _ _ _ _ _)
      | (with_reducible exact ih6 _ _ _ _)
      | (with_reducible exact ih7 _ _ _ _)
      | (with_reducible exact mutoscopelaw04_awake.mono _)
      | (with_reducible exact mutoscopelaw04_small.mono _ _)
      | (with_reducible exact rec_All.mono _ _)
      | (with_reducible exact rec_Bytes.mono _ _)
      | (with_reducible exact LeO.refl _)
      | (with_reducible exact LeO.none _)
      | (with_reducible refine LeO.ite ?_ ?_)
      | (with_reducible refine LeO.bind ?_ (fun _ => ?_))
      | exact ih0 _ _ _ _ _ _
      | exact ih1 _ _ _ _ _ _ _ _ _ _
      | exact ih2 _ _ _ _ _ _
      | exact ih3 _ _ _ _ _ _ _
      | exact ih4 _ _ _ _ _
      | exact ih5 _ _ _ _ _ _ _ _
      | exact ih6 _ _ _ _
      | exact ih7 _ _ _ _
      | exact mutoscopelaw04_awake.mono _
      | exact mutoscopelaw04_small.mono _ _
      | exact rec_All.mono _ _
      | exact rec_Bytes.mono _ _
      | exact LeO.none _
      | refine LeO.ite ?_ ?_
      | refine LeO.bind ?_ (fun _ => ?_)
theorem mutoscopelaw04_RecTorn.mono : ∀ a0 a1 a2 a3 k, LeO (mutoscopelaw04_RecTorn.f k a0 a1 a2 a3) (mutoscopelaw04_RecTorn.f (k + 1) a0 a1 a2 a3) := by
  intro a0 a1 a2 a3 k
  obtain ⟨ih0, ih1, ih2, ih3, ih4, ih5, ih6, ih7⟩ := mutoscopelaw04_RecTorn.mono_l k
  unfold mutoscopelaw04_RecTorn.f
  repeat' first
      | (with_reducible exact ih0 _ _ _ _ _ _)
      | (with_reducible exact ih1 _ _ _ _ _ _ _ _ _ _)
      | (with_reducible exact ih2 _ _ _ _ _ _)
      | (with_reducible exact ih3 _ _ _ _ _ _ _)
      | (with_reducible exact ih4 _ _ _ _ _)
      | (with_reducible exact ih5 _ _ _ _ _ _ _ _)
      | (with_reducible exact ih6 _ _ _ _)
      | (with_reducible exact ih7 _ _ _ _)
      | (with_reducible exact mutoscopelaw04_awake.mono _)
      | (with_reducible exact mutoscopelaw04_small.mono _ _)
      | (with_reducible exact rec_All.mono _ _)
      | (with_reducible exact rec_Bytes.mono _ _)
      | (with_reducible exact LeO.refl _)
      | (with_reducible exact LeO.none _)
      | (with_reducible refine LeO.ite ?_ ?_)
      | (with_reducible refine LeO.bind ?_ (fun _ => ?_))
      | exact ih0 _ _ _ _ _ _
      | exact ih1 _ _ _ _ _ _ _ _ _ _
      | exact ih2 _ _ _ _ _ _
      | exact ih3 _ _ _ _ _ _ _
      | exact ih4 _ _ _ _ _
      | exact ih5 _ _ _ _ _ _ _ _
      | exact ih6 _ _ _ _
      | exact ih7 _ _ _ _
      | exact mutoscopelaw04_awake.mono _
      | exact mutoscopelaw04_small.mono _ _
      | exact rec_All.mono _ _
      | exact rec_Bytes.mono _ _
      | exact LeO.none _
      | refine LeO.ite ?_ ?_
      | refine LeO.bind ?_ (fun _ => ?_)
def mutoscopelaw04_RecTorn.T1 : Bool × List (List Nat × List Nat) := (true, [([], []), ([0], [0]), ([], []), ([2], [2]), ([], []), ([4], [4]), ([], []), ([6], [6]), ([1, 0, 1], [1]), ([3, 8, 0, 1, 2, 3, 8], [3]), ([5, 9, 0, 1, 2, 3, 4, 5, 8, 9], [5]), ([7, 10, 0, 1, 2, 3, 4, 5, 6, 7, 8, 9, 10], [7])])
def mutoscopelaw04_RecTorn.B1 : List Nat := [0, 1, 0, 4, 0, 16, 0, 64, 3, 271, 831, 2047]
theorem mutoscopelaw04_RecTorn.tab1 : rtab .any (opsOf Try.f6 1) = mutoscopelaw04_RecTorn.T1 := by kernel_rfl
theorem mutoscopelaw04_RecTorn.bits1 : waitsOk mutoscopelaw04_RecTorn.T1.2 mutoscopelaw04_RecTorn.B1 = true := by kernel_rfl
def mutoscopelaw04_RecTorn.T41 : Bool × List (List Nat × List Nat) := (true, [([], []), ([], []), ([0, 1], [0, 1]), ([2], [2]), ([], []), ([], []), ([4, 5], [4, 5]), ([6], [6]), ([3, 7], [3, 7]), ([8], [8])])
def mutoscopelaw04_RecTorn.B41 : List Nat := [0, 0, 3, 7, 0, 0, 48, 112, 255, 511]
theorem mutoscopelaw04_RecTorn.tab41 : rtab .any (opsOf Try.f6 41) = mutoscopelaw04_RecTorn.T41 := by kernel_rfl
theorem mutoscopelaw04_RecTorn.bits41 : waitsOk mutoscopelaw04_RecTorn.T41.2 mutoscopelaw04_RecTorn.B41 = true := by kernel_rfl
set_option maxHeartbeats 8000000 in
set_option maxRecDepth 100000 in
theorem mutoscopelaw04_RecTorn.calls_true (k : Nat) (A0_0 : Option Addr) (c0_0 : Nat) (l0_0 : List (S27)) (a0_1 : Int) (a0_2 : Int) (a0_3 : Int) (r : Bool) (w : World) (hr0_0 : Kd.C k27 w A0_0 l0_0.length l0_0) (hc0_0 : l0_0.length ≤ c0_0) (hr : r = true) (h : mutoscopelaw04_RecTorn.f k l0_0 a0_1 a0_2 a0_3 = some r) :
    Calls Try.prog 6 #[.agg #[.slice A0_0 l0_0.length c0_0, .int .i64 a0_1, .int .i64 a0_2, .int .u8 a0_3]] w fun e w' => e = .returned (.bool r) ∧ Below w.heap.size w w' := by
  have HR := Aside0.mk hr
  clear hr
  have hu49 := Try.underlying49
  have hu27 := Try.underlying27
  have HR0_0 := Aside0.mk hr0_0
  have HC0_0 := Aside0.mk hc0_0
  clear hr0_0 hc0_0
  have HB := Aside0.mk (Below.refl w.heap.size w)
  have H : ((mutoscopelaw04_small.f k l0_0).bind fun t179 => (if t179 = true then ((rec_Bytes.f k l0_0).bind fun bt181 => (if bt181.2 = 0 then (if a0_1 < 0 then (mutoscopelaw04_RecTorn.j0 k l0_0 a0_1 a0_2 a0_3 bt181.1 true) else (mutoscopelaw04_RecTorn.j0 k l0_0 a0_1 a0_2 a0_3 bt181.1 (decide (a0_1 > (bt181.1.length : Int))))) else (mutoscopelaw04_RecTorn.j0 k l0_0 a0_1 a0_2 a0_3 bt181.1 true))) else ((mutoscopelaw04_awake.f k).bind fun t180 => (some t180)))) = some r := h
  clear h
  replace H := Option.bind_eq_some_iff.mp H
  obtain ⟨t179, A20, H⟩ := H
  replace H : (if t179 = true then ((rec_Bytes.f k l0_0).bind fun bt181 => (if bt181.2 = 0 then (if a0_1 < 0 then (mutoscopelaw04_RecTorn.j0 k l0_0 a0_1 a0_2 a0_3 bt181.1 true) else (mutoscopelaw04_RecTorn.j0 k l0_0 a0_1 a0_2 a0_3 bt181.1 (decide (a0_1 > (bt181.1.length : Int))))) else (mutoscopelaw04_RecTorn.j0 k l0_0 a0_1 a0_2 a0_3 bt181.1 true))) else ((mutoscopelaw04_awake.f k).bind fun t180 => (some t180))) = some r := H
  have A2 := Aside0.mk A20
  clear A20
  by_cases c3 : t179 = true
  · subst c3
    have H1 : ((rec_Bytes.f k l0_0).bind fun bt181 => (if bt181.2 = 0 then (if a0_1 < 0 then (mutoscopelaw04_RecTorn.j0 k l0_0 a0_1 a0_2 a0_3 bt181.1 true) else (mutoscopelaw04_RecTorn.j0 k l0_0 a0_1 a0_2 a0_3 bt181.1 (decide (a0_1 > (bt181.1.length : Int))))) else (mutoscopelaw04_RecTorn.j0 k l0_0 a0_1 a0_2 a0_3 bt181.1 true))) = some r := by rw [if_pos rfl] at H; exact H
    clear H
    have H := H1
    clear H1
    replace H := Option.bind_eq_some_iff.mp H
    obtain ⟨⟨t181, t182⟩, A40, H⟩ := H
    replace H : (if t182 = 0 then (if a0_1 < 0 then (mutoscopelaw04_RecTorn.j0 k l0_0 a0_1 a0_2 a0_3 t181 true) else (mutoscopelaw04_RecTorn.j0 k l0_0 a0_1 a0_2 a0_3 t181 (decide (a0_1 > (t181.length : Int))))) else (mutoscopelaw04_RecTorn.j0 k l0_0 a0_1 a0_2 a0_3 t181 true)) = some r := H
    have A4 := Aside0.mk A40
    clear A40
    have HC5 := Aside0.mk H
    clear H
    go_enter Try.func6, Try.ntmps6
    try go_wp2_with (first | ((with_reducible refine gate_dst (N := 1) rfl ?_); (try (refine gate_guard (by rfl) ?_; dsimp only)); refine box_event ?hg (N := 1) ?hd (cs := #[.slice A0_0 l0_0.length c0_0, .int .i64 a0_1, .int .i64 a0_2, .int .u8 a0_3]) (t := 49) ?hr ?_; (case hd => rfl); (case hg => rfl); (case hr => first | (go_simp; done) | (go_simp; rfl)); intro gb178 hg w6 hbox hb; have n0_ := Aside0.mk (below_step (by repeat (first | (with_reducible first | exact HB.out | apply below_alloc | apply pw_below_drewN | apply below_drew1) | exact HB.out)) hb); have n1_ := Aside0.mk (hbox); have n2_ := Aside0.mk ((by rw [hg]; exact (below_size (by repeat (first | (with_reducible first | exact HB.out | apply below_alloc | apply pw_below_drewN | apply below_drew1) | exact HB.out))) : w.heap.size ≤ gb178)); have n3_ := Aside0.mk ((by rw [hg]; exact (below_size (by repeat (first | (with_reducible first | exact HB.out | apply below_alloc | apply pw_below_drewN | apply below_drew1) | exact HB.out))) : w.heap.size ≤ gb178)); clear HB; have HB := n0_; have BK178 := n1_; have GW178 := n2_; have GE178 := n3_; clear n0_ n1_ n2_ n3_; clear hb hbox hg))
    have n0_ := Aside0.mk (blk_drew BK178.out)
    have n1_ := Aside0.mk (below_drew1 HB.out)
    clear BK178
    clear HB
    have BK178 := n0_
    have HB := n1_
    clear n0_ n1_
    refine start_ (n := 12) (S := fun w' => w'.cell? ⟨gb178, 0, none⟩ = some (.slice A0_0 l0_0.length c0_0) ∧ w'.cell? ⟨gb178, 1, none⟩ = some (.int .i64 a0_1) ∧ w'.cell? ⟨gb178, 2, none⟩ = some (.int .i64 a0_2) ∧ w'.cell? ⟨gb178, 3, none⟩ = some (.int .u8 a0_3)) (ds := []) #[false, false, false, false, false, false, false, false, false, false, false, false] (by kernel_rfl) rfl rfl ⟨(blk_cell BK178.out 0).trans rfl, (blk_cell BK178.out 1).trans rfl, (blk_cell BK178.out 2).trans rfl, (blk_cell BK178.out 3).trans rfl⟩ (fun hHeld => ?_); refine with_tabW mutoscopelaw04_RecTorn.tab1 mutoscopelaw04_RecTorn.bits1 (fun HT_ HW_ => ?_)
    generalize w6.drew = w7 at BK178 HB hHeld ⊢
    refine pure_ (i := 0) (N := some 23) (v := ?_) (a' := ?_) #[true, false, false, false, false, false, false, false, false, false, false, false] rfl rfl (any_of HT_.out (by kernel_rfl)) (fun _ _ _ h => h) (Or.inl ⟨by rfl, ?_⟩) ?_ ?_
    rotate_left
    · intro w'
      go_simp
      with_reducible rfl
    rotate_left
    · simp only [Act.put, List.setIfInBounds_toArray, List.set_cons_zero, List.set_cons_succ, i64_w, i32_w]
      rfl
    refine pure_ (i := 2) (N := some 25) (v := ?_) (a' := ?_) #[true, false, true, false, false, false, false, false, false, false, false, false] rfl rfl (any_of HT_.out (by kernel_rfl)) (fun _ _ _ h => h) (Or.inl ⟨by rfl, ?_⟩) ?_ ?_
    rotate_left
    · intro w'
      go_simp
      with_reducible rfl
    rotate_left
    · simp only [Act.put, List.setIfInBounds_toArray, List.set_cons_zero, List.set_cons_succ, i64_w, i32_w]
      rfl
    refine pure_ (i := 4) (N := some 27) (v := ?_) (a' := ?_) #[true, false, true, false, true, false, false, false, false, false, false, false] rfl rfl (any_of HT_.out (by kernel_rfl)) (fun _ _ _ h => h) (Or.inl ⟨by rfl, ?_⟩) ?_ ?_
    rotate_left
    · intro w'
      go_simp
      with_reducible rfl
    rotate_left
    · simp only [Act.put, List.setIfInBounds_toArray, List.set_cons_zero, List.set_cons_succ, i64_w, i32_w]
      rfl
    refine pure_ (i := 6) (N := some 29) (v := ?_) (a' := ?_) #[true, false, true, false, true, false, true, false, false, false, false, false] rfl rfl (any_of HT_.out (by kernel_rfl)) (fun _ _ _ h => h) (Or.inl ⟨by rfl, ?_⟩) ?_ ?_
    rotate_left
    · intro w'
      go_simp
      with_reducible rfl
    rotate_left
    · simp only [Act.put, List.setIfInBounds_toArray, List.set_cons_zero, List.set_cons_succ, i64_w, i32_w]
      rfl
    refine take_ (i := 1) (N := some 24) (v := ?_) (a' := ?_) #[true, true, true, false, true, false, true, false, false, false, false, false] rfl rfl (take_ofW HT_.out HW_.out (by kernel_rfl)) (fun _ _ _ h => h) (Or.inl ⟨by rfl, ?_⟩) hHeld ?_ ?_
    rotate_left
    · rintro w' ⟨s0, s1, s2, s3⟩
      go_simp
      with_reducible rfl
    rotate_left
    · simp only [Act.put, List.setIfInBounds_toArray, List.set_cons_zero, List.set_cons_succ, i64_w, i32_w]
      rfl
    refine pure_ (i := 8) (N := some 3) (v := ?_) (a' := ?_) #[true, true, true, false, true, false, true, false, true, false, false, false] rfl rfl (any_of HT_.out (by kernel_rfl)) (fun _ _ _ h => h) (Or.inl ⟨by rfl, ?_⟩) ?_ ?_
    rotate_left
    · intro w'
      go_simp
      with_reducible rfl
    rotate_left
    · simp only [Act.put, List.setIfInBounds_toArray, List.set_cons_zero, List.set_cons_succ, i64_w, i32_w]
      rfl
    refine take_ (i := 3) (N := some 26) (v := ?_) (a' := ?_) #[true, true, true, true, true, false, true, false, true, false, false, false] rfl rfl (take_ofW HT_.out HW_.out (by kernel_rfl)) (fun _ _ _ h => h) (Or.inl ⟨by rfl, ?_⟩) hHeld ?_ ?_
    rotate_left
    · rintro w' ⟨s0, s1, s2, s3⟩
      go_simp
      with_reducible rfl
    rotate_left
    · simp only [Act.put, List.setIfInBounds_toArray, List.set_cons_zero, List.set_cons_succ, i64_w, i32_w]
      rfl
    refine pure_ (i := 9) (N := some 4) (v := ?_) (a' := ?_) #[true, true, true, true, true, false, true, false, true, true, false, false] rfl rfl (any_of HT_.out (by kernel_rfl)) (fun _ _ _ h => h) (Or.inl ⟨by rfl, ?_⟩) ?_ ?_
    rotate_left
    · intro w'
      go_simp
      with_reducible rfl
    rotate_left
    · simp only [Act.put, List.setIfInBounds_toArray, List.set_cons_zero, List.set_cons_succ, i64_w, i32_w]
      rfl
    refine take_ (i := 5) (N := some 28) (v := ?_) (a' := ?_) #[true, true, true, true, true, true, true, false, true, true, false, false] rfl rfl (take_ofW HT_.out HW_.out (by kernel_rfl)) (fun _ _ _ h => h) (Or.inl ⟨by rfl, ?_⟩) hHeld ?_ ?_
    rotate_left
    · rintro w' ⟨s0, s1, s2, s3⟩
      go_simp
      with_reducible rfl
    rotate_left
    · simp only [Act.put, List.setIfInBounds_toArray, List.set_cons_zero, List.set_cons_succ, i64_w, i32_w]
      rfl
    refine pure_ (i := 10) (N := some 5) (v := ?_) (a' := ?_) #[true, true, true, true, true, true, true, false, true, true, true, false] rfl rfl (any_of HT_.out (by kernel_rfl)) (fun _ _ _ h => h) (Or.inl ⟨by rfl, ?_⟩) ?_ ?_
    rotate_left
    · intro w'
      go_simp
      with_reducible rfl
    rotate_left
    · simp only [Act.put, List.setIfInBounds_toArray, List.set_cons_zero, List.set_cons_succ, i64_w, i32_w]
      rfl
    refine take_ (i := 7) (N := some 30) (v := ?_) (a' := ?_) #[true, true, true, true, true, true, true, true, true, true, true, false] rfl rfl (take_ofW HT_.out HW_.out (by kernel_rfl)) (fun _ _ _ h => h) (Or.inl ⟨by rfl, ?_⟩) hHeld ?_ ?_
    rotate_left
    · rintro w' ⟨s0, s1, s2, s3⟩
      go_simp
      with_reducible rfl
    rotate_left
    · simp only [Act.put, List.setIfInBounds_toArray, List.set_cons_zero, List.set_cons_succ, i64_w, i32_w]
      rfl
    refine pure_ (i := 11) (N := some 6) (v := ?_) (a' := ?_) #[true, true, true, true, true, true, true, true, true, true, true, true] rfl rfl (any_of HT_.out (by kernel_rfl)) (fun _ _ _ h => h) (Or.inl ⟨by rfl, ?_⟩) ?_ ?_
    rotate_left
    · intro w'
      go_simp
      with_reducible rfl
    rotate_left
    · simp only [Act.put, List.setIfInBounds_toArray, List.set_cons_zero, List.set_cons_succ, i64_w, i32_w]
      rfl
    refine done_ (done_of HT_.out (by kernel_rfl)) ?_
    go_upto_region 5 with (first | ((with_reducible refine gate_callee (f := 15) rfl ?_); refine goesL_ (some 32) rfl rfl Try.func15 (by kernel_rfl) rfl #[.slice A0_0 l0_0.length c0_0] rfl (by (try simp only [List.map_toArray, List.map_cons, List.map_nil]); first | done | rfl | (simp only [List.length_drop, List.length_take]; rfl)) ?_; (with_reducible refine (mutoscopelaw04_small.calls k _ _ l0_0 true _ ?side1 ?side2 A2.out).mono ?_); (case side1 => repeat (first | exact (Kd.C_below HR0_0.out HB.out) | (with_reducible refine Kd.C_alloc ?_ _) | (with_reducible refine Kd.C_drewN ?_ _) | (with_reducible refine Kd.C_drew ?_))); (case side2 => exact HC0_0.out); rintro e w8 ⟨rfl, hb⟩; refine ⟨_, rfl, ?_⟩; have n0_ := Aside0.mk (blk_below (g := gb178) (o := .cells #[.slice A0_0 l0_0.length c0_0, .int .i64 a0_1, .int .i64 a0_2, .int .u8 a0_3] 49 (0, 0)) (by (with_reducible repeat (first | refine blk_drewN ?_ _ | refine blk_drew ?_ | refine blk_alloc ?_ _)); exact BK178.out) hb); have n1_ := Aside0.mk (below_step (by repeat (first | (with_reducible first | exact HB.out | apply below_alloc | apply pw_below_drewN | apply below_drew1 | refine below_set ?_ GE178.out) | exact HB.out)) hb); clear BK178; clear HB; have BK178 := n0_; have HB := n1_; clear n0_ n1_; (try clear hb); (try clear hb2); (try clear hk); (try clear hi)) | ((with_reducible refine gate_callee (f := 20) rfl ?_); refine goesL_ (some 37) rfl rfl Try.func20 (by kernel_rfl) rfl #[.slice A0_0 l0_0.length c0_0] rfl (by (try simp only [List.map_toArray, List.map_cons, List.map_nil]); first | done | rfl | (simp only [List.length_drop, List.length_take]; rfl)) ?_; (with_reducible refine (rec_Bytes.calls k _ _ l0_0 t181 t182 _ ?side1 ?side2 A4.out).mono ?_); (case side1 => repeat (first | exact (Kd.C_below HR0_0.out HB.out) | (with_reducible refine Kd.C_alloc ?_ _) | (with_reducible refine Kd.C_drewN ?_ _) | (with_reducible refine Kd.C_drew ?_))); (case side2 => exact HC0_0.out); rintro e w9 ⟨v183, rfl, ho0, hb⟩; refine ⟨_, rfl, ?_⟩; have n0_ := Aside0.mk (Kd.R_lower ho0 (below_size (by repeat (first | (with_reducible first | exact HB.out | apply below_alloc | apply pw_below_drewN | apply below_drew1 | refine below_set ?_ GE178.out) | exact HB.out)))); have n1_ := Aside0.mk (blk_below (g := gb178) (o := .cells #[.slice A0_0 l0_0.length c0_0, .int .i64 a0_1, .int .i64 a0_2, .int .u8 a0_3] 49 (0, 0)) (by (with_reducible repeat (first | refine blk_drewN ?_ _ | refine blk_drew ?_ | refine blk_alloc ?_ _)); exact BK178.out) hb); have n2_ := Aside0.mk (below_step (by repeat (first | (with_reducible first | exact HB.out | apply below_alloc | apply pw_below_drewN | apply below_drew1 | refine below_set ?_ GE178.out) | exact HB.out)) hb); clear BK178; clear HB; have HO184 := n0_; have BK178 := n1_; have HB := n2_; clear n0_ n1_ n2_; (try clear hb); (try clear hb2); (try clear hk); (try clear hi); (try clear ho0)))
    (try simp only [Act.put, List.setIfInBounds_toArray, List.set_cons_zero, List.set_cons_succ])
    go_cut [51] (fun v51 wc => ∃ (kq : Nat) (x51_4 : Bool), v51 = .bool x51_4 ∧ Aside0 (mutoscopelaw04_RecTorn.j0 kq l0_0 a0_1 a0_2 a0_3 t181 x51_4 = some r) ∧ Aside0 (kq ≤ k) ∧ Aside0 (Kd.R (Kd.int .u8) 5 wc w.heap.size (fun _ => True) v183 t181) ∧ Aside0 (wc.heap[gb178]? = some (.cells #[(.slice A0_0 l0_0.length c0_0), .int .i64 a0_1, .int .i64 a0_2, .int .u8 a0_3] 49 (0, 0))) ∧ Aside0 (Below w.heap.size w wc))
    case first =>
      have H := HC5.out
      clear HC5
      by_cases c10 : t182 = 0
      · rw [if_pos c10] at H
        have c10b0 : (t182 == 0) = true := beq_iff_eq.mpr c10
        have c10b1 : (t182 != 0) = false := bne_eq_false_iff_eq.mpr c10
        clear c10
        (first | rw [c10b0] | (simp only [i64_w, i32_w]; rw [c10b0]) | skip)
        by_cases c11 : a0_1 < 0
        · rw [if_pos c11] at H
          have c11b0 : decide (a0_1 < 0) = true := decide_eq_true c11
          clear c11
          have H' := Aside0.mk H
          clear H
          go_wp2
          go_meet
          case rel => exact ⟨_, (true), (by first | rfl | (simp; done) | (simp [*]; done)), H', ⟨by first | omega | exact Nat.le_refl _⟩, ⟨by (with_reducible repeat (first | apply Kd.R_alloc | apply Kd.R_drewN | apply Kd.R_drew)); exact HO184.out⟩, ⟨by (with_reducible repeat (first | refine blk_drewN ?_ _ | refine blk_drew ?_ | refine blk_alloc ?_ _)); exact BK178.out⟩, ⟨by repeat (first | (with_reducible first | exact HB.out | apply below_alloc | apply pw_below_drewN | apply below_drew1 | refine below_set ?_ GE178.out) | exact HB.out)⟩⟩
        · rw [if_neg c11] at H
          have c11b0 : decide (a0_1 < 0) = false := decide_eq_false c11
          clear c11
          have H' := Aside0.mk H
          clear H
          obtain ⟨Ao12, co12, eo12⟩ := Kd.R_slice HO184.out
          subst eo12
          go_wp2
          go_meet
          case rel => exact ⟨_, (decide (a0_1 > (t181.length : Int))), (by first | rfl | (simp; done) | (simp [*]; done)), H', ⟨by first | omega | exact Nat.le_refl _⟩, ⟨by (with_reducible repeat (first | apply Kd.R_alloc | apply Kd.R_drewN | apply Kd.R_drew)); exact HO184.out⟩, ⟨by (with_reducible repeat (first | refine blk_drewN ?_ _ | refine blk_drew ?_ | refine blk_alloc ?_ _)); exact BK178.out⟩, ⟨by repeat (first | (with_reducible first | exact HB.out | apply below_alloc | apply pw_below_drewN | apply below_drew1 | refine below_set ?_ GE178.out) | exact HB.out)⟩⟩
      · rw [if_neg c10] at H
        have c10b0 : (t182 == 0) = false := beq_eq_false_iff_ne.mpr c10
        have c10b1 : (t182 != 0) = true := bne_iff_ne.mpr c10
        (first | rw [c10b0] | (simp only [i64_w, i32_w]; rw [c10b0]) | skip)
        have H' := Aside0.mk H
        clear H
        go_wp2
        go_meet
        case rel => exact ⟨_, (true), (by first | rfl | (simp; done) | (simp [*]; done)), H', ⟨by first | omega | exact Nat.le_refl _⟩, ⟨by (with_reducible repeat (first | apply Kd.R_alloc | apply Kd.R_drewN | apply Kd.R_drew)); exact HO184.out⟩, ⟨by (with_reducible repeat (first | refine blk_drewN ?_ _ | refine blk_drew ?_ | refine blk_alloc ?_ _)); exact BK178.out⟩, ⟨by repeat (first | (with_reducible first | exact HB.out | apply below_alloc | apply pw_below_drewN | apply below_drew1 | refine below_set ?_ GE178.out) | exact HB.out)⟩⟩
    case rest =>
      clear HC5
      try clear c1
      try clear c2
      try clear p2
      try clear c3
      try clear c6
      try clear c10
      try clear c10b0
      try clear c10b1
      try clear c11
      try clear c11b0
      obtain ⟨kq, x51_4, rfl, HA, HJ4, HO_7, BK178, HB⟩ := hcut
      cases kq with
      | zero => exact absurd HA.out (by simp [mutoscopelaw04_RecTorn.j0])
      | succ kj4 =>
        have H := HA.out
        clear HA
        simp only [mutoscopelaw04_RecTorn.j0] at H
        by_cases c13 : x51_4 = true
        · subst c13
          have H1 : ((mutoscopelaw04_awake.f kj4).bind fun t185 => (some t185)) = some r := by rw [if_pos rfl] at H; exact H
          clear H
          have H := H1
          clear H1
          replace H := Option.bind_eq_some_iff.mp H
          obtain ⟨t185, A140, H⟩ := H
          replace H : (some t185) = some r := H
          have A14 := Aside0.mk A140
          clear A140
          obtain rfl := Option.some.inj H
          go_wp2_with (first | ((with_reducible refine gate_callee (f := 16) rfl ?_); refine goesL_ (some 52) rfl rfl Try.func16 (by kernel_rfl) rfl #[] rfl (by (try simp only [List.map_toArray, List.map_cons, List.map_nil]); first | done | rfl | (simp only [List.length_drop, List.length_take]; rfl)) ?_; (with_reducible refine (mutoscopelaw04_awake.calls kj4  t185 _ A14.out).mono ?_); rintro e w15 ⟨rfl, hb⟩; refine ⟨_, rfl, ?_⟩; have n0_ := Aside0.mk (Kd.R_below (by (with_reducible repeat (first | apply Kd.R_alloc | apply Kd.R_drewN | apply Kd.R_drew)); exact HO_7.out) hb); have n1_ := Aside0.mk (blk_below (g := gb178) (o := .cells #[.slice A0_0 l0_0.length c0_0, .int .i64 a0_1, .int .i64 a0_2, .int .u8 a0_3] 49 (0, 0)) (by (with_reducible repeat (first | refine blk_drewN ?_ _ | refine blk_drew ?_ | refine blk_alloc ?_ _)); exact BK178.out) hb); have n2_ := Aside0.mk (below_step (by repeat (first | (with_reducible first | exact HB.out | apply below_alloc | apply pw_below_drewN | apply below_drew1 | refine below_set ?_ GE178.out) | exact HB.out)) hb); clear HO_7; clear BK178; clear HB; have HO_7 := n0_; have BK178 := n1_; have HB := n2_; clear n0_ n1_ n2_; (try clear hb); (try clear hb2); (try clear hk); (try clear hi)))
          go_ret
          exact ⟨by first | rfl | (simp [errW_none, errW_some] <;> rfl) | (simp [*, errW_none, errW_some] <;> rfl), by repeat (first | (with_reducible first | exact HB.out | apply below_alloc | apply pw_below_drewN | apply below_drew1 | refine below_set ?_ GE178.out) | exact HB.out)⟩
        · replace c13 := Bool.eq_false_iff.mpr c13
          subst c13
          have H1 : (mutoscopelaw04_RecTorn.l0 kj4 l0_0 a0_1 a0_2 a0_3 t181 0 0 l0_0 (l0_0.length : Int) 0) = some r := by rw [if_neg (show ¬ (false = true) by decide)] at H; exact H
          clear H
          have H := H1
          clear H1
          have H' := Aside0.mk H
          clear H
          go_wp2
          go_loopg [9, 10, 55] kj4 (fun kq v9 v10 v55 w' => ∃ (x9_2 : Int) (x10_2 : Int) (x55_2 : Int), v9 = .int .i64 x9_2 ∧ v10 = .int .i64 x10_2 ∧ v55 = .int .i64 x55_2 ∧ Aside0 (mutoscopelaw04_RecTorn.l0 kq l0_0 a0_1 a0_2 a0_3 t181 x9_2 x10_2 l0_0 (l0_0.length : Int) x55_2 = some r) ∧ Aside0 (kq ≤ kj4) ∧ Aside0 (Kd.R (Kd.int .u8) 5 w' w.heap.size (fun _ => True) v183 t181) ∧ Aside0 (w'.heap[gb178]? = some (.cells #[(.slice A0_0 l0_0.length c0_0), .int .i64 a0_1, .int .i64 a0_2, .int .u8 a0_3] 49 (0, 0))) ∧ Aside0 (Below w.heap.size w w'))
          case atStart => exact ⟨(0), (0), (0), (by first | rfl | (simp; done) | (simp [*]; done)), (by first | rfl | (simp; done) | (simp [*]; done)), (by first | rfl | (simp; done) | (simp [*]; done)), H', ⟨Nat.le_refl _⟩, ⟨by (with_reducible repeat (first | apply Kd.R_alloc | apply Kd.R_drewN | apply Kd.R_drew)); exact HO_7.out⟩, ⟨by (with_reducible repeat (first | refine blk_drewN ?_ _ | refine blk_drew ?_ | refine blk_alloc ?_ _)); exact BK178.out⟩, ⟨by repeat (first | (with_reducible first | exact HB.out | apply below_alloc | apply pw_below_drewN | apply below_drew1 | refine below_set ?_ GE178.out) | exact HB.out)⟩⟩
          case round =>
            clear H'
            try clear c1
            try clear c2
            try clear p2
            try clear c3
            try clear c6
            try clear c10
            try clear c10b0
            try clear c10b1
            try clear c11
            try clear c11b0
            try clear c13
            try clear c15
            try clear p2
            obtain ⟨x9_2, x10_2, x55_2, rfl, rfl, rfl, HA, HK2, HO_7, BK178, HB⟩ := hrel
            cases gk with
            | zero => exact absurd HA.out (by simp [mutoscopelaw04_RecTorn.l0])
            | succ k2 =>
              have H := HA.out
              clear HA
              simp only [mutoscopelaw04_RecTorn.l0] at H
              by_cases c16 : x55_2 < (l0_0.length : Int)
              · rw [if_pos c16] at H
                have c16b0 : decide (x55_2 < (l0_0.length : Int)) = true := decide_eq_true c16
                clear c16
                by_cases c17 : 0 ≤ x55_2
                · rw [if_pos c17] at H
                  have c17b0 : decide (0 ≤ x55_2) = true := decide_eq_true c17
                  clear c17
                  by_cases c18 : x55_2 < (l0_0.length : Int)
                  · rw [if_pos c18] at H
                    have c18b0 : decide (x55_2 < (l0_0.length : Int)) = true := decide_eq_true c18
                    clear c18
                    replace H := Option.bind_eq_some_iff.mp H
                    obtain ⟨t188, A190, H⟩ := H
                    replace H : (if (wrap64 (x10_2 + t188)) ≤ a0_1 then (mutoscopelaw04_RecTorn.l0 k2 l0_0 a0_1 a0_2 a0_3 t181 (wrap64 (x9_2 + 1)) (wrap64 (x10_2 + t188)) l0_0 (l0_0.length : Int) (wrap64 (x55_2 + 1))) else (mutoscopelaw04_RecTorn.l0 k2 l0_0 a0_1 a0_2 a0_3 t181 x9_2 (wrap64 (x10_2 + t188)) l0_0 (l0_0.length : Int) (wrap64 (x55_2 + 1)))) = some r := H
                    have A19 := Aside0.mk A190
                    clear A190
                    by_cases c20 : (wrap64 (x10_2 + t188)) ≤ a0_1
                    · rw [if_pos c20] at H
                      have c20b0 : decide ((wrap64 (x10_2 + t188)) ≤ a0_1) = true := decide_eq_true c20
                      clear c20
                      have H' := Aside0.mk H
                      clear H
                      have p186 : 0 ≤ (x55_2 : Int) := of_decide_eq_true (by first | (with_reducible assumption) | assumption)
                      have q186 : x55_2 < (l0_0.length : Int) := of_decide_eq_true (by first | (with_reducible assumption) | assumption)
                      obtain ⟨ad186, A186_1, c186_1, e186, hx186_0, hx186_1, hl186_1, hi186_1⟩ := at_T27 HR0_0.out x55_2 p186 q186
                      cases e186
                      replace hx186_0 := (HB.out.cell (World.block_lt_of_cell? w _ hx186_0)).trans hx186_0
                      replace hx186_1 := (HB.out.cell (World.block_lt_of_cell? w _ hx186_1)).trans hx186_1
                      have HR186_1 := Aside0.mk hi186_1
                      have HC186_1 := Aside0.mk hl186_1
                      clear hi186_1 hl186_1
                      replace p186 := eq_true p186
                      replace q186 := eq_true q186
                      go_wp2_with (first | ((with_reducible refine gate_dst (N := 12) rfl ?_); (try (refine gate_guard (by rfl) ?_; dsimp only)); refine box_event ?hg (N := 12) ?hd (cs := #[.int .i64 0, .slice none 0 0]) (t := 27) ?hr ?_; (case hd => rfl); (case hg => rfl); (case hr => first | (go_simp; done) | (go_simp; rfl)); intro gb187 hg w21 hbox hb; have n0_ := Aside0.mk (Kd.R_below (by (with_reducible repeat (first | apply Kd.R_alloc | apply Kd.R_drewN | apply Kd.R_drew)); exact HO_7.out) hb); have n1_ := Aside0.mk (blk_below (g := gb178) (o := .cells #[.slice (some ad186) l0_0.length c0_0, .int .i64 a0_1, .int .i64 a0_2, .int .u8 a0_3] 49 (0, 0)) (by (with_reducible repeat (first | refine blk_drewN ?_ _ | refine blk_drew ?_ | refine blk_alloc ?_ _)); exact BK178.out) hb); have n2_ := Aside0.mk (below_step (by repeat (first | (with_reducible first | exact HB.out | apply below_alloc | apply pw_below_drewN | apply below_drew1 | refine below_set ?_ GE178.out) | exact HB.out)) hb); have n3_ := Aside0.mk (hbox); have n4_ := Aside0.mk ((by rw [hg]; exact (below_size (by repeat (first | (with_reducible first | exact HB.out | apply below_alloc | apply pw_below_drewN | apply below_drew1 | refine below_set ?_ GE178.out) | exact HB.out))) : w.heap.size ≤ gb187)); have n5_ := Aside0.mk ((by rw [hg]; exact (below_size (by repeat (first | (with_reducible first | exact HB.out | apply below_alloc | apply pw_below_drewN | apply below_drew1 | refine below_set ?_ GE178.out) | exact HB.out))) : w.heap.size ≤ gb187)); have n6_ := Aside0.mk ((by rw [hg]; exact Nat.ne_of_lt (blk_lt (g := gb178) (o := .cells #[.slice (some ad186) l0_0.length c0_0, .int .i64 a0_1, .int .i64 a0_2, .int .u8 a0_3] 49 (0, 0)) (by (with_reducible repeat (first | refine blk_drewN ?_ _ | refine blk_drew ?_ | refine blk_alloc ?_ _)); exact BK178.out)) : gb178 ≠ gb187)); have n7_ := Aside0.mk ((by rw [hg]; exact Nat.ne_of_gt (blk_lt (g := gb178) (o := .cells #[.slice (some ad186) l0_0.length c0_0, .int .i64 a0_1, .int .i64 a0_2, .int .u8 a0_3] 49 (0, 0)) (by (with_reducible repeat (first | refine blk_drewN ?_ _ | refine blk_drew ?_ | refine blk_alloc ?_ _)); exact BK178.out)) : gb187 ≠ gb178)); clear HO_7; clear BK178; clear HB; have HO_7 := n0_; have BK178 := n1_; have HB := n2_; have BK187 := n3_; have GW187 := n4_; have GE187 := n5_; have NB178_187 := n6_; have NB187_178 := n7_; clear n0_ n1_ n2_ n3_ n4_ n5_ n6_ n7_; clear hb hbox hg; have hnb22 := NB187_178.out; have hnc22 := NB178_187.out; have hcz23_0 : w21.cell? ⟨gb187, 0, none⟩ = some (.int .i64 0) := (blk_cell BK187.out 0).trans rfl; have hcz23_1 : w21.cell? ⟨gb187, 1, none⟩ = some (.slice none 0 0) := (blk_cell BK187.out 1).trans rfl; have hfz23_0 := blk_frozen BK187.out 0; have hfz23_1 := blk_frozen BK187.out 1) | ((with_reducible refine gate_callee (f := 23) rfl ?_); refine goesL_ (some 63) rfl rfl Try.func23 (by kernel_rfl) rfl #[.int .i64 (((rd_T27 l0_0 x55_2).f1).length : Int)] rfl (by (try simp only [List.map_toArray, List.map_cons, List.map_nil]); first | done | rfl | (simp only [List.length_drop, List.length_take]; rfl)) ?_; (with_reducible refine (rec_Size.calls (((rd_T27 l0_0 x55_2).f1).length : Int) t188 _ A19.out).mono ?_); rintro e w' ⟨rfl, ⟨nd, rfl⟩⟩; refine ⟨_, rfl, ?_⟩))
                      go_roundg k2
                      case measure => have := HJ4.out; have := HK2.out; omega
                      case rel => exact ⟨(wrap64 (x9_2 + 1)), (wrap64 (x10_2 + t188)), (wrap64 (x55_2 + 1)), (by first | rfl | (simp; done) | (simp [*]; done)), (by first | rfl | (simp; done) | (simp [*]; done)), (by first | rfl | (simp; done) | (simp [*]; done)), H', ⟨by have := HJ4.out; have := HK2.out; omega⟩, ⟨by (with_reducible repeat (first | apply Kd.R_alloc | apply Kd.R_drewN | apply Kd.R_drew)); exact Kd.R_mono (Kd.R_far (p := ⟨gb187, 1, none⟩) (Kd.R_far (p := ⟨gb187, 0, none⟩) (Kd.R_types HO_7.out BK187.out (by decide)) (fun _ hk => hk.2) (.int .i64 ((rd_T27 l0_0 x55_2).f0))) (fun _ hk => hk.2) (.slice A186_1 ((rd_T27 l0_0 x55_2).f1).length c186_1)) (fun _ hk => trivial)⟩, ⟨by (with_reducible repeat (first | refine blk_drewN ?_ _ | refine blk_drew ?_ | refine blk_alloc ?_ _)); refine blk_far ?_ NB178_187.out _; (with_reducible repeat (first | refine blk_drewN ?_ _ | refine blk_drew ?_ | refine blk_alloc ?_ _)); refine blk_far ?_ NB178_187.out _; (with_reducible repeat (first | refine blk_drewN ?_ _ | refine blk_drew ?_ | refine blk_alloc ?_ _)); exact BK178.out⟩, ⟨by repeat (first | (with_reducible first | exact HB.out | apply below_alloc | apply pw_below_drewN | apply below_drew1 | refine below_set ?_ GE178.out | refine below_set ?_ GE187.out) | exact HB.out)⟩⟩
                    · rw [if_neg c20] at H
                      have c20b0 : decide ((wrap64 (x10_2 + t188)) ≤ a0_1) = false := decide_eq_false c20
                      clear c20
                      have H' := Aside0.mk H
                      clear H
                      have p186 : 0 ≤ (x55_2 : Int) := of_decide_eq_true (by first | (with_reducible assumption) | assumption)
                      have q186 : x55_2 < (l0_0.length : Int) := of_decide_eq_true (by first | (with_reducible assumption) | assumption)
                      obtain ⟨ad186, A186_1, c186_1, e186, hx186_0, hx186_1, hl186_1, hi186_1⟩ := at_T27 HR0_0.out x55_2 p186 q186
                      cases e186
                      replace hx186_0 := (HB.out.cell (World.block_lt_of_cell? w _ hx186_0)).trans hx186_0
                      replace hx186_1 := (HB.out.cell (World.block_lt_of_cell? w _ hx186_1)).trans hx186_1
                      have HR186_1 := Aside0.mk hi186_1
                      have HC186_1 := Aside0.mk hl186_1
                      clear hi186_1 hl186_1
                      replace p186 := eq_true p186
                      replace q186 := eq_true q186
                      go_wp2_with (first | ((with_reducible refine gate_dst (N := 12) rfl ?_); (try (refine gate_guard (by rfl) ?_; dsimp only)); refine box_event ?hg (N := 12) ?hd (cs := #[.int .i64 0, .slice none 0 0]) (t := 27) ?hr ?_; (case hd => rfl); (case hg => rfl); (case hr => first | (go_simp; done) | (go_simp; rfl)); intro gb187 hg w24 hbox hb; have n0_ := Aside0.mk (Kd.R_below (by (with_reducible repeat (first | apply Kd.R_alloc | apply Kd.R_drewN | apply Kd.R_drew)); exact HO_7.out) hb); have n1_ := Aside0.mk (blk_below (g := gb178) (o := .cells #[.slice (some ad186) l0_0.length c0_0, .int .i64 a0_1, .int .i64 a0_2, .int .u8 a0_3] 49 (0, 0)) (by (with_reducible repeat (first | refine blk_drewN ?_ _ | refine blk_drew ?_ | refine blk_alloc ?_ _)); exact BK178.out) hb); have n2_ := Aside0.mk (below_step (by repeat (first | (with_reducible first | exact HB.out | apply below_alloc | apply pw_below_drewN | apply below_drew1 | refine below_set ?_ GE178.out) | exact HB.out)) hb); have n3_ := Aside0.mk (hbox); have n4_ := Aside0.mk ((by rw [hg]; exact (below_size (by repeat (first | (with_reducible first | exact HB.out | apply below_alloc | apply pw_below_drewN | apply below_drew1 | refine below_set ?_ GE178.out) | exact HB.out))) : w.heap.size ≤ gb187)); have n5_ := Aside0.mk ((by rw [hg]; exact (below_size (by repeat (first | (with_reducible first | exact HB.out | apply below_alloc | apply pw_below_drewN | apply below_drew1 | refine below_set ?_ GE178.out) | exact HB.out))) : w.heap.size ≤ gb187)); have n6_ := Aside0.mk ((by rw [hg]; exact Nat.ne_of_lt (blk_lt (g := gb178) (o := .cells #[.slice (some ad186) l0_0.length c0_0, .int .i64 a0_1, .int .i64 a0_2, .int .u8 a0_3] 49 (0, 0)) (by (with_reducible repeat (first | refine blk_drewN ?_ _ | refine blk_drew ?_ | refine blk_alloc ?_ _)); exact BK178.out)) : gb178 ≠ gb187)); have n7_ := Aside0.mk ((by rw [hg]; exact Nat.ne_of_gt (blk_lt (g := gb178) (o := .cells #[.slice (some ad186) l0_0.length c0_0, .int .i64 a0_1, .int .i64 a0_2, .int .u8 a0_3] 49 (0, 0)) (by (with_reducible repeat (first | refine blk_drewN ?_ _ | refine blk_drew ?_ | refine blk_alloc ?_ _)); exact BK178.out)) : gb187 ≠ gb178)); clear HO_7; clear BK178; clear HB; have HO_7 := n0_; have BK178 := n1_; have HB := n2_; have BK187 := n3_; have GW187 := n4_; have GE187 := n5_; have NB178_187 := n6_; have NB187_178 := n7_; clear n0_ n1_ n2_ n3_ n4_ n5_ n6_ n7_; clear hb hbox hg; have hnb25 := NB187_178.out; have hnc25 := NB178_187.out; have hcz26_0 : w24.cell? ⟨gb187, 0, none⟩ = some (.int .i64 0) := (blk_cell BK187.out 0).trans rfl; have hcz26_1 : w24.cell? ⟨gb187, 1, none⟩ = some (.slice none 0 0) := (blk_cell BK187.out 1).trans rfl; have hfz26_0 := blk_frozen BK187.out 0; have hfz26_1 := blk_frozen BK187.out 1) | ((with_reducible refine gate_callee (f := 23) rfl ?_); refine goesL_ (some 63) rfl rfl Try.func23 (by kernel_rfl) rfl #[.int .i64 (((rd_T27 l0_0 x55_2).f1).length : Int)] rfl (by (try simp only [List.map_toArray, List.map_cons, List.map_nil]); first | done | rfl | (simp only [List.length_drop, List.length_take]; rfl)) ?_; (with_reducible refine (rec_Size.calls (((rd_T27 l0_0 x55_2).f1).length : Int) t188 _ A19.out).mono ?_); rintro e w' ⟨rfl, ⟨nd, rfl⟩⟩; refine ⟨_, rfl, ?_⟩))
                      go_roundg k2
                      case measure => have := HJ4.out; have := HK2.out; omega
                      case rel => exact ⟨(x9_2), (wrap64 (x10_2 + t188)), (wrap64 (x55_2 + 1)), (by first | rfl | (simp; done) | (simp [*]; done)), (by first | rfl | (simp; done) | (simp [*]; done)), (by first | rfl | (simp; done) | (simp [*]; done)), H', ⟨by have := HJ4.out; have := HK2.out; omega⟩, ⟨by (with_reducible repeat (first | apply Kd.R_alloc | apply Kd.R_drewN | apply Kd.R_drew)); exact Kd.R_mono (Kd.R_far (p := ⟨gb187, 1, none⟩) (Kd.R_far (p := ⟨gb187, 0, none⟩) (Kd.R_types HO_7.out BK187.out (by decide)) (fun _ hk => hk.2) (.int .i64 ((rd_T27 l0_0 x55_2).f0))) (fun _ hk => hk.2) (.slice A186_1 ((rd_T27 l0_0 x55_2).f1).length c186_1)) (fun _ hk => trivial)⟩, ⟨by (with_reducible repeat (first | refine blk_drewN ?_ _ | refine blk_drew ?_ | refine blk_alloc ?_ _)); refine blk_far ?_ NB178_187.out _; (with_reducible repeat (first | refine blk_drewN ?_ _ | refine blk_drew ?_ | refine blk_alloc ?_ _)); refine blk_far ?_ NB178_187.out _; (with_reducible repeat (first | refine blk_drewN ?_ _ | refine blk_drew ?_ | refine blk_alloc ?_ _)); exact BK178.out⟩, ⟨by repeat (first | (with_reducible first | exact HB.out | apply below_alloc | apply pw_below_drewN | apply below_drew1 | refine below_set ?_ GE178.out | refine below_set ?_ GE187.out) | exact HB.out)⟩⟩
                  · rw [if_neg c18] at H
                    exact absurd H (by simp)
                · rw [if_neg c17] at H
                  exact absurd H (by simp)
              · rw [if_neg c16] at H
                have c16b0 : decide (x55_2 < (l0_0.length : Int)) = false := decide_eq_false c16
                clear c16
                by_cases c27 : 0 ≤ a0_1
                · rw [if_pos c27] at H
                  have c27b0 := eq_true c27
                  have c27b1 : decide (0 ≤ a0_1) = true := decide_eq_true c27
                  clear c27
                  by_cases c28 : a0_1 ≤ (t181.length : Int)
                  · rw [if_pos c28] at H
                    have c28b0 := eq_true c28
                    have c28b1 : decide (a0_1 ≤ (t181.length : Int)) = true := decide_eq_true c28
                    clear c28
                    obtain ⟨y189, hy189⟩ : ∃ y_ : List Int, y_ = (t181.take (a0_1 : Int).toNat) := ⟨_, rfl⟩
                    replace H : ((rec_All.f k2 y189).bind fun bt193 => (if (bt193.1.length : Int) = x9_2 then (if bt193.2.1 > a0_1 then (mutoscopelaw04_RecTorn.j2 k2 l0_0 a0_2 a0_3 t181 bt193.1 true) else (mutoscopelaw04_RecTorn.j2 k2 l0_0 a0_2 a0_3 t181 bt193.1 ((bt193.2.2 == 0) != (bt193.2.1 == a0_1)))) else (mutoscopelaw04_RecTorn.j2 k2 l0_0 a0_2 a0_3 t181 bt193.1 true))) = some r := by first | (rw [hy189]; with_reducible exact H) | (have H2_ := (Option.bind_some _ _).symm.trans H; rw [hy189]; with_reducible exact H2_) | (have H2_ := (Option.bind_some _ _).symm.trans H; with_reducible exact H2_) | with_reducible exact H | (rw [hy189]; exact H) | exact H
                    have Ny189 := Aside0.mk hy189
                    clear hy189
                    replace H := Option.bind_eq_some_iff.mp H
                    obtain ⟨⟨t193, t194, t195⟩, A290, H⟩ := H
                    replace H : (if (t193.length : Int) = x9_2 then (if t194 > a0_1 then (mutoscopelaw04_RecTorn.j2 k2 l0_0 a0_2 a0_3 t181 t193 true) else (mutoscopelaw04_RecTorn.j2 k2 l0_0 a0_2 a0_3 t181 t193 ((t195 == 0) != (t194 == a0_1)))) else (mutoscopelaw04_RecTorn.j2 k2 l0_0 a0_2 a0_3 t181 t193 true)) = some r := H
                    have A29 := Aside0.mk A290
                    clear A290
                    have HC30 := Aside0.mk H
                    clear H
                    obtain ⟨Ao32, co32, eo32⟩ := Kd.R_slice HO_7.out
                    subst eo32
                    have q31 : (a0_1 : Int) ≤ ((t181.length : Int) : Int) := of_decide_eq_true (by first | (with_reducible assumption) | assumption)
                    obtain ⟨i031, hi031, _, hsz31, _⟩ := info_parts info5
                    have hroom31 : t181.length ≤ co32 := (Kd.R_reads' HO_7.out).2.1
                    have hC31 : Kd.C (Kd.int .u8) _ Ao32 t181.length t181 := (Kd.R_reads' HO_7.out).2.2
                    have hcut31 := cut_to (P := Try.prog) 25 5 .i64 Try.underlying25 hi031 Ao32 t181.length co32 a0_1 (of_decide_eq_true (by first | (with_reducible assumption) | assumption)) q31 hroom31
                    have hr31 := Kd.C_take (m := (a0_1 : Int).toNat) hC31 (by omega)
                    have hy31 : y189.length = (a0_1 : Int).toNat := (by rw [Ny189.out, List.length_take]; omega)
                    rw [← Ny189.out] at hr31
                    rw [← hy31] at hcut31
                    have HR192 := Aside0.mk hr31
                    have HC192 := Aside0.mk (show y189.length ≤ co32 from by omega)
                    clear hr31 hC31 hroom31 hi031 hsz31
                    have KY31 := Aside0.mk hy31
                    clear hy31
                    have KL31 := Aside0.mk (show (a0_1 : Int).toNat ≤ t181.length from by omega)
                    replace q31 := eq_true q31
                    go_upto_region 16 with (first | ((with_reducible refine gate_callee (f := 21) rfl ?_); refine goesL_ (some 75) rfl rfl Try.func21 (by kernel_rfl) rfl #[.slice Ao32 y189.length co32] rfl (by (try simp only [List.map_toArray, List.map_cons, List.map_nil]); first | done | rfl | (simp only [List.length_drop, List.length_take]; rfl)) ?_; (with_reducible refine (rec_All.calls k2 _ _ y189 t193 t194 t195 _ ?side1 ?side2 A29.out).mono ?_); (case side1 => repeat (first | exact (by repeat (first | (with_reducible exact HR192.out) | (with_reducible refine Kd.C_alloc ?_ _) | (with_reducible refine Kd.C_drewN ?_ _) | (with_reducible refine Kd.C_drew ?_) | exact HR192.out)) | (with_reducible refine Kd.C_alloc ?_ _) | (with_reducible refine Kd.C_drewN ?_ _) | (with_reducible refine Kd.C_drew ?_))); (case side2 => exact HC192.out); rintro e w33 ⟨v196, rfl, ho0, hb⟩; refine ⟨_, rfl, ?_⟩; have n0_ := Aside0.mk (Kd.R_below (by (with_reducible repeat (first | apply Kd.R_alloc | apply Kd.R_drewN | apply Kd.R_drew)); exact HO_7.out) hb); have n1_ := Aside0.mk (Kd.S_lower (Kd.S_new' ho0 (Kd.R_lt (by (with_reducible repeat (first | apply Kd.R_alloc | apply Kd.R_drewN | apply Kd.R_drew)); exact HO_7.out))) (below_size (by repeat (first | (with_reducible first | exact HB.out | apply below_alloc | apply pw_below_drewN | apply below_drew1 | refine below_set ?_ GE178.out) | exact HB.out)))); have n2_ := Aside0.mk (blk_below (g := gb178) (o := .cells #[.slice A0_0 l0_0.length c0_0, .int .i64 a0_1, .int .i64 a0_2, .int .u8 a0_3] 49 (0, 0)) (by (with_reducible repeat (first | refine blk_drewN ?_ _ | refine blk_drew ?_ | refine blk_alloc ?_ _)); exact BK178.out) hb); have n3_ := Aside0.mk (Kd.C_below (by repeat (first | (with_reducible exact HR192.out) | (with_reducible refine Kd.C_alloc ?_ _) | (with_reducible refine Kd.C_drewN ?_ _) | (with_reducible refine Kd.C_drew ?_) | exact HR192.out)) hb); have n4_ := Aside0.mk (below_step (by repeat (first | (with_reducible first | exact HB.out | apply below_alloc | apply pw_below_drewN | apply below_drew1 | refine below_set ?_ GE178.out) | exact HB.out)) hb); clear HO_7; clear BK178; clear HR192; clear HB; have HO_7 := n0_; have HO197 := n1_; have BK178 := n2_; have HR192 := n3_; have HB := n4_; clear n0_ n1_ n2_ n3_ n4_; (try clear hb); (try clear hb2); (try clear hk); (try clear hi); (try clear ho0)))
                    (try simp only [Act.put, List.setIfInBounds_toArray, List.set_cons_zero, List.set_cons_succ])
                    go_cut [95] (fun v95 wc => ∃ (kq : Nat) (x95_29 : Bool), v95 = .bool x95_29 ∧ Aside0 (mutoscopelaw04_RecTorn.j2 kq l0_0 a0_2 a0_3 t181 t193 x95_29 = some r) ∧ Aside0 (kq ≤ k2) ∧ Aside0 (Kd.R (Kd.int .u8) 5 wc w.heap.size (fun _ => True) (.slice Ao32 t181.length co32) t181) ∧ Aside0 (Kd.S k27 27 wc w.heap.size (fun k_ => some k_ ≠ ((.slice Ao32 t181.length co32) : Value).ownBlock) v196 t193) ∧ Aside0 (wc.heap[gb178]? = some (.cells #[(.slice A0_0 l0_0.length c0_0), .int .i64 a0_1, .int .i64 a0_2, .int .u8 a0_3] 49 (0, 0))) ∧ Aside0 (Kd.C (Kd.int .u8) wc Ao32 y189.length y189) ∧ Aside0 (Below w.heap.size w wc))
                    case first =>
                      have H := HC30.out
                      clear HC30
                      by_cases c34 : (t193.length : Int) = x9_2
                      · rw [if_pos c34] at H
                        have c34b0 : ((t193.length : Int) == x9_2) = true := beq_iff_eq.mpr c34
                        have c34b1 : ((t193.length : Int) != x9_2) = false := bne_eq_false_iff_eq.mpr c34
                        clear c34
                        (first | rw [c34b0] | (simp only [i64_w, i32_w]; rw [c34b0]) | skip)
                        by_cases c35 : t194 > a0_1
                        · rw [if_pos c35] at H
                          have c35b0 : decide (a0_1 < t194) = true := decide_eq_true c35
                          clear c35
                          have H' := Aside0.mk H
                          clear H
                          obtain ⟨Ao36, co36, eo36⟩ := Kd.S_slice HO197.out
                          subst eo36
                          go_wp2
                          go_meet
                          case rel => exact ⟨_, (true), (by first | rfl | (simp; done) | (simp [*]; done)), H', ⟨by have := HJ4.out; have := HK2.out; first | omega | exact Nat.le_refl _⟩, ⟨by (with_reducible repeat (first | apply Kd.R_alloc | apply Kd.R_drewN | apply Kd.R_drew)); exact HO_7.out⟩, ⟨by (with_reducible repeat (first | apply Kd.S_alloc | apply Kd.S_drewN | apply Kd.S_drew)); exact Kd.S_mono HO197.out (fun _ hk => hk.2)⟩, ⟨by (with_reducible repeat (first | refine blk_drewN ?_ _ | refine blk_drew ?_ | refine blk_alloc ?_ _)); exact BK178.out⟩, ⟨by repeat (first | (with_reducible exact HR192.out) | (with_reducible refine Kd.C_alloc ?_ _) | (with_reducible refine Kd.C_drewN ?_ _) | (with_reducible refine Kd.C_drew ?_) | exact HR192.out)⟩, ⟨by repeat (first | (with_reducible first | exact HB.out | apply below_alloc | apply pw_below_drewN | apply below_drew1 | refine below_set ?_ GE178.out) | exact HB.out)⟩⟩
                        · rw [if_neg c35] at H
                          have c35b0 : decide (a0_1 < t194) = false := decide_eq_false c35
                          clear c35
                          have H' := Aside0.mk H
                          clear H
                          obtain ⟨Ao37, co37, eo37⟩ := Kd.S_slice HO197.out
                          subst eo37
                          go_wp2
                          go_meet
                          case rel => exact ⟨_, (((t195 == 0) != (t194 == a0_1))), (by first | rfl | (simp; done) | (simp [*]; done)), H', ⟨by have := HJ4.out; have := HK2.out; first | omega | exact Nat.le_refl _⟩, ⟨by (with_reducible repeat (first | apply Kd.R_alloc | apply Kd.R_drewN | apply Kd.R_drew)); exact HO_7.out⟩, ⟨by (with_reducible repeat (first | apply Kd.S_alloc | apply Kd.S_drewN | apply Kd.S_drew)); exact Kd.S_mono HO197.out (fun _ hk => hk.2)⟩, ⟨by (with_reducible repeat (first | refine blk_drewN ?_ _ | refine blk_drew ?_ | refine blk_alloc ?_ _)); exact BK178.out⟩, ⟨by repeat (first | (with_reducible exact HR192.out) | (with_reducible refine Kd.C_alloc ?_ _) | (with_reducible refine Kd.C_drewN ?_ _) | (with_reducible refine Kd.C_drew ?_) | exact HR192.out)⟩, ⟨by repeat (first | (with_reducible first | exact HB.out | apply below_alloc | apply pw_below_drewN | apply below_drew1 | refine below_set ?_ GE178.out) | exact HB.out)⟩⟩
                      · rw [if_neg c34] at H
                        have c34b0 : ((t193.length : Int) == x9_2) = false := beq_eq_false_iff_ne.mpr c34
                        have c34b1 : ((t193.length : Int) != x9_2) = true := bne_iff_ne.mpr c34
                        (first | rw [c34b0] | (simp only [i64_w, i32_w]; rw [c34b0]) | skip)
                        have H' := Aside0.mk H
                        clear H
                        obtain ⟨Ao38, co38, eo38⟩ := Kd.S_slice HO197.out
                        subst eo38
                        go_wp2
                        go_meet
                        case rel => exact ⟨_, (true), (by first | rfl | (simp; done) | (simp [*]; done)), H', ⟨by have := HJ4.out; have := HK2.out; first | omega | exact Nat.le_refl _⟩, ⟨by (with_reducible repeat (first | apply Kd.R_alloc | apply Kd.R_drewN | apply Kd.R_drew)); exact HO_7.out⟩, ⟨by (with_reducible repeat (first | apply Kd.S_alloc | apply Kd.S_drewN | apply Kd.S_drew)); exact Kd.S_mono HO197.out (fun _ hk => hk.2)⟩, ⟨by (with_reducible repeat (first | refine blk_drewN ?_ _ | refine blk_drew ?_ | refine blk_alloc ?_ _)); exact BK178.out⟩, ⟨by repeat (first | (with_reducible exact HR192.out) | (with_reducible refine Kd.C_alloc ?_ _) | (with_reducible refine Kd.C_drewN ?_ _) | (with_reducible refine Kd.C_drew ?_) | exact HR192.out)⟩, ⟨by repeat (first | (with_reducible first | exact HB.out | apply below_alloc | apply pw_below_drewN | apply below_drew1 | refine below_set ?_ GE178.out) | exact HB.out)⟩⟩
                    case rest =>
                      clear HC30
                      try clear c1
                      try clear p1
                      try clear q1
                      try clear hx1
                      try clear c2
                      try clear p2
                      try clear c3
                      try clear q3
                      try clear c6
                      try clear p6
                      try clear c10
                      try clear c10b0
                      try clear c10b1
                      try clear c11
                      try clear c11b0
                      try clear c13
                      try clear c15
                      try clear c16
                      try clear c16b0
                      try clear c17
                      try clear c17b0
                      try clear c18
                      try clear c18b0
                      try clear p18
                      try clear q18
                      try clear hx18
                      try clear c20
                      try clear c20b0
                      try clear c21
                      try clear c22
                      try clear c23
                      try clear c25
                      try clear c27
                      try clear c27b0
                      try clear c27b1
                      try clear c28
                      try clear c28b0
                      try clear c28b1
                      try clear q31
                      try clear c34
                      try clear c34b0
                      try clear c34b1
                      try clear c35
                      try clear c35b0
                      try clear hcz23_0
                      try clear hcz23_1
                      try clear hcz26_0
                      try clear hcz26_1
                      try clear hfz23_0
                      try clear hfz23_1
                      try clear hfz26_0
                      try clear hfz26_1
                      try clear hx186_0
                      try clear hx186_1
                      try clear p186
                      try clear p2
                      try clear q186
                      try clear q31
                      obtain ⟨kq, x95_29, rfl, HA, HJ29, HO_7, HO_13, BK178, HR192, HB⟩ := hcut
                      cases kq with
                      | zero => exact absurd HA.out (by simp [mutoscopelaw04_RecTorn.j2])
                      | succ kj29 =>
                        have H := HA.out
                        clear HA
                        simp only [mutoscopelaw04_RecTorn.j2] at H
                        by_cases c39 : x95_29 = true
                        · subst c39
                          have H1 : (some false) = some r := by rw [if_pos rfl] at H; exact H
                          clear H
                          have H := H1
                          clear H1
                          exact absurd (Option.some.inj H) (by rw [HR.out]; decide)
                        · replace c39 := Bool.eq_false_iff.mpr c39
                          subst c39
                          have H1 : (mutoscopelaw04_RecTorn.l1 kj29 l0_0 a0_2 a0_3 t181 t193 (t193.length : Int) 0) = some r := by rw [if_neg (show ¬ (false = true) by decide)] at H; exact H
                          clear H
                          have H := H1
                          clear H1
                          have H' := Aside0.mk H
                          clear H
                          obtain ⟨Ao40, co40, eo40⟩ := Kd.S_slice HO_13.out
                          subst eo40
                          go_wp2
                          go_loopg [98] kj29 (fun kq v98 w' => ∃ (x98_4 : Int), v98 = .int .i64 x98_4 ∧ Aside0 (mutoscopelaw04_RecTorn.l1 kq l0_0 a0_2 a0_3 t181 t193 (t193.length : Int) x98_4 = some r) ∧ Aside0 (kq ≤ kj29) ∧ Aside0 (Kd.R (Kd.int .u8) 5 w' w.heap.size (fun _ => True) (.slice Ao32 t181.length co32) t181) ∧ Aside0 (Kd.S k27 27 w' w.heap.size (fun k_ => some k_ ≠ ((.slice Ao32 t181.length co32) : Value).ownBlock) (.slice Ao40 t193.length co40) t193) ∧ Aside0 (w'.heap[gb178]? = some (.cells #[(.slice A0_0 l0_0.length c0_0), .int .i64 a0_1, .int .i64 a0_2, .int .u8 a0_3] 49 (0, 0))) ∧ Aside0 (Below w.heap.size w w'))
                          case atStart => exact ⟨(0), (by first | rfl | (simp; done) | (simp [*]; done)), H', ⟨Nat.le_refl _⟩, ⟨by (with_reducible repeat (first | apply Kd.R_alloc | apply Kd.R_drewN | apply Kd.R_drew)); exact HO_7.out⟩, ⟨by (with_reducible repeat (first | apply Kd.S_alloc | apply Kd.S_drewN | apply Kd.S_drew)); exact HO_13.out⟩, ⟨by (with_reducible repeat (first | refine blk_drewN ?_ _ | refine blk_drew ?_ | refine blk_alloc ?_ _)); exact BK178.out⟩, ⟨by repeat (first | (with_reducible first | exact HB.out | apply below_alloc | apply pw_below_drewN | apply below_drew1 | refine below_set ?_ GE178.out) | exact HB.out)⟩⟩
                          case round =>
                            clear H'
                            try clear c1
                            try clear p1
                            try clear q1
                            try clear hx1
                            try clear c2
                            try clear p2
                            try clear c3
                            try clear q3
                            try clear c6
                            try clear p6
                            try clear c10
                            try clear c10b0
                            try clear c10b1
                            try clear c11
                            try clear c11b0
                            try clear c13
                            try clear c15
                            try clear c16
                            try clear c16b0
                            try clear c17
                            try clear c17b0
                            try clear c18
                            try clear c18b0
                            try clear p18
                            try clear q18
                            try clear hx18
                            try clear c20
                            try clear c20b0
                            try clear c21
                            try clear c22
                            try clear c23
                            try clear c25
                            try clear c27
                            try clear c27b0
                            try clear c27b1
                            try clear c28
                            try clear c28b0
                            try clear c28b1
                            try clear q31
                            try clear c34
                            try clear c34b0
                            try clear c34b1
                            try clear c35
                            try clear c35b0
                            try clear c39
                            try clear hcz23_0
                            try clear hcz23_1
                            try clear hcz26_0
                            try clear hcz26_1
                            try clear hfz23_0
                            try clear hfz23_1
                            try clear hfz26_0
                            try clear hfz26_1
                            try clear hx186_0
                            try clear hx186_1
                            try clear p1
                            try clear p18
                            try clear p186
                            try clear p2
                            try clear p6
                            try clear q1
                            try clear q18
                            try clear q186
                            try clear q3
                            try clear q31
                            obtain ⟨x98_4, rfl, HA, HK4, HO_7, HO_96, BK178, HB⟩ := hrel
                            cases gk with
                            | zero => exact absurd HA.out (by simp [mutoscopelaw04_RecTorn.l1])
                            | succ k4 =>
                              have H := HA.out
                              clear HA
                              simp only [mutoscopelaw04_RecTorn.l1] at H
                              by_cases c41 : x98_4 < (t193.length : Int)
                              · rw [if_pos c41] at H
                                have c41b0 : decide (x98_4 < (t193.length : Int)) = true := decide_eq_true c41
                                clear c41
                                by_cases c42 : 0 ≤ x98_4
                                · rw [if_pos c42] at H
                                  have c42b0 : decide (0 ≤ x98_4) = true := decide_eq_true c42
                                  clear c42
                                  by_cases c43 : x98_4 < (t193.length : Int)
                                  · rw [if_pos c43] at H
                                    have c43b0 : decide (x98_4 < (t193.length : Int)) = true := decide_eq_true c43
                                    clear c43
                                    by_cases c44 : x98_4 < (l0_0.length : Int)
                                    · rw [if_pos c44] at H
                                      have c44b0 : decide (x98_4 < (l0_0.length : Int)) = true := decide_eq_true c44
                                      clear c44
                                      replace H := Option.bind_eq_some_iff.mp H
                                      obtain ⟨t201, A450, H⟩ := H
                                      replace H : (if t201 = true then (mutoscopelaw04_RecTorn.l1 k4 l0_0 a0_2 a0_3 t181 t193 (t193.length : Int) (wrap64 (x98_4 + 1))) else (some false)) = some r := H
                                      have A45 := Aside0.mk A450
                                      clear A450
                                      by_cases c46 : t201 = true
                                      · subst c46
                                        have H1 : (mutoscopelaw04_RecTorn.l1 k4 l0_0 a0_2 a0_3 t181 t193 (t193.length : Int) (wrap64 (x98_4 + 1))) = some r := by rw [if_pos rfl] at H; exact H
                                        clear H
                                        have H := H1
                                        clear H1
                                        have H' := Aside0.mk H
                                        clear H
                                        have p198 : 0 ≤ (x98_4 : Int) := of_decide_eq_true (by first | (with_reducible assumption) | assumption)
                                        have q198 : x98_4 < (t193.length : Int) := of_decide_eq_true (by first | (with_reducible assumption) | assumption)
                                        obtain ⟨ad198, A198_1, c198_1, e198, hx198_0, hx198_1, hl198_1, hi198_1⟩ := at_T27 (Kd.S_reads' HO_96.out).2.2 x98_4 p198 q198
                                        cases e198
                                        obtain ⟨ce198, hce198, hMe198, hcc198⟩ := Kd.S_get HO_96.out z27 x98_4 p198 (by first | exact q198 | exact of_decide_eq_true (by first | (with_reducible assumption) | assumption) | (have e_ := (Kd.S_reads' HO_96.out).1; omega))
                                        obtain ⟨ve198_1, rfl, ge198_1⟩ := k27_openM hMe198
                                        have hv198_1 := hcc198 1 _ rfl
                                        rw [add_field _ _ 1 (by omega)] at hv198_1
                                        replace hv198_1 := Option.some.inj (hv198_1.symm.trans hx198_1)
                                        rw [hv198_1] at ge198_1
                                        have HL198_1 := Aside0.mk (show Kd.R (Kd.int .u8) 5 _ _ _ _ ((rd_T27 t193 x98_4).f1) from ge198_1)
                                        clear hv198_1 ge198_1
                                        clear hcc198 hce198
                                        have HR198_1 := Aside0.mk hi198_1
                                        have HC198_1 := Aside0.mk hl198_1
                                        clear hi198_1 hl198_1
                                        replace p198 := eq_true p198
                                        replace q198 := eq_true q198
                                        try go_wp2_with (first | ((with_reducible refine gate_dst (N := 17) rfl ?_); (try (refine gate_guard (by rfl) ?_; dsimp only)); refine box_event ?hg (N := 17) ?hd (cs := #[.int .i64 0, .slice none 0 0]) (t := 27) ?hr ?_; (case hd => rfl); (case hg => rfl); (case hr => first | (go_simp; done) | (go_simp; rfl)); intro gb199 hg w47 hbox hb; have n0_ := Aside0.mk (Kd.R_below (by (with_reducible repeat (first | apply Kd.R_alloc | apply Kd.R_drewN | apply Kd.R_drew)); exact HO_7.out) hb); have n1_ := Aside0.mk (Kd.S_below (Kd.S_elderB (by (with_reducible repeat (first | apply Kd.S_alloc | apply Kd.S_drewN | apply Kd.S_drew)); exact HO_96.out) gb199 (Nat.le_of_eq hg.symm)) hb); have n2_ := Aside0.mk (Kd.R_below (by (with_reducible repeat (first | apply Kd.R_alloc | apply Kd.R_drewN | apply Kd.R_drew)); exact HL198_1.out) hb); have n3_ := Aside0.mk (blk_below (g := gb178) (o := .cells #[.slice A0_0 l0_0.length c0_0, .int .i64 a0_1, .int .i64 a0_2, .int .u8 a0_3] 49 (0, 0)) (by (with_reducible repeat (first | refine blk_drewN ?_ _ | refine blk_drew ?_ | refine blk_alloc ?_ _)); exact BK178.out) hb); have n4_ := Aside0.mk (Kd.C_below (by repeat (first | (with_reducible exact HR198_1.out) | (with_reducible refine Kd.C_alloc ?_ _) | (with_reducible refine Kd.C_drewN ?_ _) | (with_reducible refine Kd.C_drew ?_) | exact HR198_1.out)) hb); have n5_ := Aside0.mk (below_step (by repeat (first | (with_reducible first | exact HB.out | apply below_alloc | apply pw_below_drewN | apply below_drew1 | refine below_set ?_ GE178.out) | exact HB.out)) hb); have n6_ := Aside0.mk (hbox); have n7_ := Aside0.mk ((by rw [hg]; exact (below_size (by repeat (first | (with_reducible first | exact HB.out | apply below_alloc | apply pw_below_drewN | apply below_drew1 | refine below_set ?_ GE178.out) | exact HB.out))) : w.heap.size ≤ gb199)); have n8_ := Aside0.mk ((by rw [hg]; exact (below_size (by repeat (first | (with_reducible first | exact HB.out | apply below_alloc | apply pw_below_drewN | apply below_drew1 | refine below_set ?_ GE178.out) | exact HB.out))) : w.heap.size ≤ gb199)); have n9_ := Aside0.mk ((by rw [hg]; exact Nat.ne_of_lt (blk_lt (g := gb178) (o := .cells #[.slice A0_0 l0_0.length c0_0, .int .i64 a0_1, .int .i64 a0_2, .int .u8 a0_3] 49 (0, 0)) (by (with_reducible repeat (first | refine blk_drewN ?_ _ | refine blk_drew ?_ | refine blk_alloc ?_ _)); exact BK178.out)) : gb178 ≠ gb199)); have n10_ := Aside0.mk ((by rw [hg]; exact Nat.ne_of_gt (blk_lt (g := gb178) (o := .cells #[.slice A0_0 l0_0.length c0_0, .int .i64 a0_1, .int .i64 a0_2, .int .u8 a0_3] 49 (0, 0)) (by (with_reducible repeat (first | refine blk_drewN ?_ _ | refine blk_drew ?_ | refine blk_alloc ?_ _)); exact BK178.out)) : gb199 ≠ gb178)); clear HO_7; clear HO_96; clear HL198_1; clear BK178; clear HR198_1; clear HB; have HO_7 := n0_; have HO_96 := n1_; have HL198_1 := n2_; have BK178 := n3_; have HR198_1 := n4_; have HB := n5_; have BK199 := n6_; have GW199 := n7_; have GE199 := n8_; have NB178_199 := n9_; have NB199_178 := n10_; clear n0_ n1_ n2_ n3_ n4_ n5_ n6_ n7_ n8_ n9_ n10_; clear hb hbox hg; have hnb48 := NB199_178.out; have hnc48 := NB178_199.out; have hcz49_0 : w47.cell? ⟨gb199, 0, none⟩ = some (.int .i64 0) := (blk_cell BK199.out 0).trans rfl; have hcz49_1 : w47.cell? ⟨gb199, 1, none⟩ = some (.slice none 0 0) := (blk_cell BK199.out 1).trans rfl; have hfz49_0 := blk_frozen BK199.out 0; have hfz49_1 := blk_frozen BK199.out 1))
                                        have n0_ : Aside0 (Kd.R (Kd.int .u8) 5 ((w47.setCell ⟨gb199, 0, none⟩ (.int .i64 ((rd_T27 t193 x98_4).f0))).setCell ⟨gb199, 1, none⟩ (.slice A198_1 ((rd_T27 t193 x98_4).f1).length c198_1)) w.heap.size (fun _ => True) (.slice Ao32 t181.length co32) t181) := ⟨by (with_reducible repeat (first | apply Kd.R_alloc | apply Kd.R_drewN | apply Kd.R_drew)); exact Kd.R_mono (Kd.R_far (p := ⟨gb199, 1, none⟩) (Kd.R_far (p := ⟨gb199, 0, none⟩) (Kd.R_types HO_7.out BK199.out (by decide)) (fun _ hk => hk.2) (.int .i64 ((rd_T27 t193 x98_4).f0))) (fun _ hk => hk.2) (.slice A198_1 ((rd_T27 t193 x98_4).f1).length c198_1)) (fun _ hk => trivial)⟩
                                        have n1_ : Aside0 (Kd.S k27 27 ((w47.setCell ⟨gb199, 0, none⟩ (.int .i64 ((rd_T27 t193 x98_4).f0))).setCell ⟨gb199, 1, none⟩ (.slice A198_1 ((rd_T27 t193 x98_4).f1).length c198_1)) w.heap.size (fun k_ => some k_ ≠ (.slice Ao32 t181.length co32 : Value).ownBlock ∧ k_ ≠ gb199) (.slice (some ad198) t193.length co40) t193) := ⟨by (with_reducible repeat (first | apply Kd.S_alloc | apply Kd.S_drewN | apply Kd.S_drew)); exact Kd.S_mono (Kd.S_far (p := ⟨gb199, 1, none⟩) (Kd.S_far (p := ⟨gb199, 0, none⟩) (Kd.S_mono HO_96.out (fun k_ hk => (⟨hk, hk.2⟩ : _ ∧ k_ ≠ gb199))) (fun _ hk => hk.2) (.int .i64 ((rd_T27 t193 x98_4).f0))) (fun _ hk => hk.2) (.slice A198_1 ((rd_T27 t193 x98_4).f1).length c198_1)) (fun _ hk => ⟨hk.1.1, hk.1.2⟩)⟩
                                        have n2_ : Aside0 (Kd.R (Kd.int .u8) 5 ((w47.setCell ⟨gb199, 0, none⟩ (.int .i64 ((rd_T27 t193 x98_4).f0))).setCell ⟨gb199, 1, none⟩ (.slice A198_1 ((rd_T27 t193 x98_4).f1).length c198_1)) w.heap.size (fun k_ => some k_ ≠ (.slice Ao32 t181.length co32 : Value).ownBlock ∧ some k_ ≠ (.slice (some ad198) t193.length co40 : Value).ownBlock) (.slice A198_1 ((rd_T27 t193 x98_4).f1).length c198_1) ((rd_T27 t193 x98_4).f1)) := ⟨by (with_reducible repeat (first | apply Kd.R_alloc | apply Kd.R_drewN | apply Kd.R_drew)); exact Kd.R_mono (Kd.R_far (p := ⟨gb199, 1, none⟩) (Kd.R_far (p := ⟨gb199, 0, none⟩) (Kd.R_types HL198_1.out BK199.out (by decide)) (fun _ hk => hk.2) (.int .i64 ((rd_T27 t193 x98_4).f0))) (fun _ hk => hk.2) (.slice A198_1 ((rd_T27 t193 x98_4).f1).length c198_1)) (fun _ hk => ⟨hk.1.1, hk.1.2⟩)⟩
                                        have n3_ : Aside0 (((w47.setCell ⟨gb199, 0, none⟩ (.int .i64 ((rd_T27 t193 x98_4).f0))).setCell ⟨gb199, 1, none⟩ (.slice A198_1 ((rd_T27 t193 x98_4).f1).length c198_1)).heap[gb178]? = some (.cells #[.slice A0_0 l0_0.length c0_0, .int .i64 a0_1, .int .i64 a0_2, .int .u8 a0_3] 49 (0, 0))) := ⟨by (with_reducible repeat (first | refine blk_drewN ?_ _ | refine blk_drew ?_ | refine blk_alloc ?_ _)); refine blk_far ?_ NB178_199.out _; (with_reducible repeat (first | refine blk_drewN ?_ _ | refine blk_drew ?_ | refine blk_alloc ?_ _)); refine blk_far ?_ NB178_199.out _; (with_reducible repeat (first | refine blk_drewN ?_ _ | refine blk_drew ?_ | refine blk_alloc ?_ _)); exact BK178.out⟩
                                        have n4_ : Aside0 (((w47.setCell ⟨gb199, 0, none⟩ (.int .i64 ((rd_T27 t193 x98_4).f0))).setCell ⟨gb199, 1, none⟩ (.slice A198_1 ((rd_T27 t193 x98_4).f1).length c198_1)).heap[gb199]? = some (.cells #[.int .i64 ((rd_T27 t193 x98_4).f0), .slice A198_1 ((rd_T27 t193 x98_4).f1).length c198_1] 27 (0, 0))) := ⟨by (with_reducible repeat (first | refine blk_drewN ?_ _ | refine blk_drew ?_ | refine blk_alloc ?_ _)); refine blk_put (cs := #[.int .i64 ((rd_T27 t193 x98_4).f0), .slice none 0 0]) ?_ 1 _ rfl; (with_reducible repeat (first | refine blk_drewN ?_ _ | refine blk_drew ?_ | refine blk_alloc ?_ _)); refine blk_put (cs := #[.int .i64 0, .slice none 0 0]) ?_ 0 _ rfl; (with_reducible repeat (first | refine blk_drewN ?_ _ | refine blk_drew ?_ | refine blk_alloc ?_ _)); exact BK199.out⟩
                                        have n5_ : Aside0 (Below w.heap.size w ((w47.setCell ⟨gb199, 0, none⟩ (.int .i64 ((rd_T27 t193 x98_4).f0))).setCell ⟨gb199, 1, none⟩ (.slice A198_1 ((rd_T27 t193 x98_4).f1).length c198_1))) := ⟨by repeat (first | (with_reducible first | exact HB.out | apply below_alloc | apply pw_below_drewN | apply below_drew1 | refine below_set ?_ GE178.out | refine below_set ?_ GE199.out) | exact HB.out)⟩
                                        (try clear HO_7)
                                        (try clear HO_96)
                                        (try clear HL198_1)
                                        (try clear BK178)
                                        (try clear BK199)
                                        (try clear HB)
                                        generalize ((w47.setCell ⟨gb199, 0, none⟩ (.int .i64 ((rd_T27 t193 x98_4).f0))).setCell ⟨gb199, 1, none⟩ (.slice A198_1 ((rd_T27 t193 x98_4).f1).length c198_1)) = w50 at n0_ n1_ n2_ n3_ n4_ n5_ ⊢
                                        have HO_7 := n0_
                                        have HO_96 := n1_
                                        have HL198_1 := n2_
                                        have BK178 := n3_
                                        have BK199 := n4_
                                        have HB := n5_
                                        clear n0_ n1_ n2_ n3_ n4_ n5_
                                        have n0_ := Aside0.mk (Kd.R_drew HO_7.out)
                                        have n1_ := Aside0.mk (Kd.S_drew HO_96.out)
                                        have n2_ := Aside0.mk (Kd.R_drew HL198_1.out)
                                        have n3_ := Aside0.mk (blk_drew BK178.out)
                                        have n4_ := Aside0.mk (blk_drew BK199.out)
                                        have n5_ := Aside0.mk (below_drew1 HB.out)
                                        clear HO_7
                                        clear HO_96
                                        clear HL198_1
                                        clear BK178
                                        clear BK199
                                        clear HB
                                        have HO_7 := n0_
                                        have HO_96 := n1_
                                        have HL198_1 := n2_
                                        have BK178 := n3_
                                        have BK199 := n4_
                                        have HB := n5_
                                        clear n0_ n1_ n2_ n3_ n4_ n5_
                                        have p200 : 0 ≤ (x98_4 : Int) := of_decide_eq_true (by first | (with_reducible assumption) | assumption)
                                        have q200 : x98_4 < (l0_0.length : Int) := of_decide_eq_true (by first | (with_reducible assumption) | assumption)
                                        obtain ⟨ad200, A200_1, c200_1, e200, hx200_0, hx200_1, hl200_1, hi200_1⟩ := at_T27 HR0_0.out x98_4 p200 q200
                                        have hw200_1 := hx200_1
                                        have hw200_0 := hx200_0
                                        cases e200
                                        replace hx200_0 := (HB.out.cell (World.block_lt_of_cell? w _ hx200_0)).trans hx200_0
                                        replace hx200_1 := (HB.out.cell (World.block_lt_of_cell? w _ hx200_1)).trans hx200_1
                                        have HR200_1 := Aside0.mk hi200_1
                                        have HC200_1 := Aside0.mk hl200_1
                                        clear hi200_1 hl200_1
                                        replace p200 := eq_true p200
                                        replace q200 := eq_true q200
                                        refine start_ (n := 7) (S := fun w' => w'.cell? ⟨gb199, 0, none⟩ = some (.int .i64 ((rd_T27 t193 x98_4).f0)) ∧ w'.cell? ⟨gb199, 1, none⟩ = some (.slice A198_1 ((rd_T27 t193 x98_4).f1).length c198_1) ∧ w'.cell? (ad200.add ((x98_4).toNat * 2)) = some (.int .i64 ((rd_T27 l0_0 x98_4).f0)) ∧ w'.cell? ⟨(ad200.add ((x98_4).toNat * 2)).block, (ad200.add ((x98_4).toNat * 2)).off + 1, none⟩ = some (.slice A200_1 ((rd_T27 l0_0 x98_4).f1).length c200_1)) (ds := []) #[false, false, false, false, false, false, false] (by kernel_rfl) rfl rfl ⟨(blk_cell BK199.out 0).trans rfl, (blk_cell BK199.out 1).trans rfl, ((HB.out.cell (World.block_lt_of_cell? w _ hw200_0)).trans hw200_0), ((HB.out.cell (World.block_lt_of_cell? w _ hw200_1)).trans hw200_1)⟩ (fun hHeld => ?_)
                                        generalize w50.drew = w51 at HO_7 HO_96 HL198_1 BK178 BK199 HB HR200_1 hx200_0 hx200_1 hHeld ⊢
                                        refine pure_ (i := 1) (N := some 104) (v := ?_) (a' := ?_) #[false, true, false, false, false, false, false] rfl rfl (by kernel_rfl) (fun _ _ _ h => h) (Or.inl ⟨by rfl, ?_⟩) ?_ ?_
                                        rotate_left
                                        · intro w'
                                          go_simp
                                          with_reducible rfl
                                        rotate_left
                                        · simp only [Act.put, List.setIfInBounds_toArray, List.set_cons_zero, List.set_cons_succ, i64_w, i32_w]
                                          rfl
                                        refine pure_ (i := 2) (N := some 105) (v := ?_) (a' := ?_) #[false, true, true, false, false, false, false] rfl rfl (by kernel_rfl) (fun _ _ _ h => h) (Or.inl ⟨by rfl, ?_⟩) ?_ ?_
                                        rotate_left
                                        · intro w'
                                          go_simp
                                          with_reducible rfl
                                        rotate_left
                                        · simp only [Act.put, List.setIfInBounds_toArray, List.set_cons_zero, List.set_cons_succ, i64_w, i32_w]
                                          rfl
                                        refine pure_ (i := 3) (N := some 106) (v := ?_) (a' := ?_) #[false, true, true, true, false, false, false] rfl rfl (by kernel_rfl) (fun _ _ _ h => h) (Or.inl ⟨by rfl, ?_⟩) ?_ ?_
                                        rotate_left
                                        · intro w'
                                          go_simp
                                          with_reducible rfl
                                        rotate_left
                                        · simp only [Act.put, List.setIfInBounds_toArray, List.set_cons_zero, List.set_cons_succ, i64_w, i32_w]
                                          rfl
                                        refine take_ (i := 0) (N := some 103) (v := ?_) (a' := ?_) #[true, true, true, true, false, false, false] rfl rfl (by kernel_rfl) (fun _ _ _ h => h) (Or.inl ⟨by rfl, ?_⟩) hHeld ?_ ?_
                                        rotate_left
                                        · rintro w' ⟨s0, s1, s2, s3⟩
                                          go_simp
                                          with_reducible rfl
                                        rotate_left
                                        · simp only [Act.put, List.setIfInBounds_toArray, List.set_cons_zero, List.set_cons_succ, i64_w, i32_w]
                                          rfl
                                        refine take_ (i := 4) (N := some 107) (v := ?_) (a' := ?_) #[true, true, true, true, true, false, false] rfl rfl (by kernel_rfl) (fun _ _ _ h => h) (Or.inl ⟨by rfl, ?_⟩) hHeld ?_ ?_
                                        rotate_left
                                        · rintro w' ⟨s0, s1, s2, s3⟩
                                          go_simp
                                          with_reducible rfl
                                        rotate_left
                                        · simp only [Act.put, List.setIfInBounds_toArray, List.set_cons_zero, List.set_cons_succ, i64_w, i32_w]
                                          rfl
                                        refine one_ (i := 5) (N := some 108) #[true, true, true, true, true, true, false] rfl rfl (by kernel_rfl) (by decide) (fun K hK => ?_)
                                        refine goes_ Try.func22 (by kernel_rfl) rfl #[.agg #[.int .i64 ((rd_T27 t193 x98_4).f0), .slice A198_1 ((rd_T27 t193 x98_4).f1).length c198_1], .agg #[.int .i64 ((rd_T27 l0_0 x98_4).f0), .slice A200_1 ((rd_T27 l0_0 x98_4).f1).length c200_1]] (by rfl) rfl rfl (by (try simp only [List.map_toArray, List.map_cons, List.map_nil]); first | done | rfl | (simp only [List.length_drop, List.length_take]; rfl)) ?_
                                        with_reducible refine (rec_Equal.calls ((rd_T27 t193 x98_4).f0) _ _ ((rd_T27 t193 x98_4).f1) ((rd_T27 l0_0 x98_4).f0) _ _ ((rd_T27 l0_0 x98_4).f1) true _ ?side1 ?side2 ?side3 ?side4 A45.out).mono ?_
                                        (case side1 => repeat (first | exact ((Kd.R_reads' (by (with_reducible repeat (first | apply Kd.R_alloc | apply Kd.R_drewN | apply Kd.R_drew)); exact HL198_1.out)).2.2) | (with_reducible refine Kd.C_alloc ?_ _) | (with_reducible refine Kd.C_drewN ?_ _) | (with_reducible refine Kd.C_drew ?_)))
                                        (case side2 => exact HC198_1.out)
                                        (case side3 => repeat (first | exact (Kd.C_below HR200_1.out HB.out) | (with_reducible refine Kd.C_alloc ?_ _) | (with_reducible refine Kd.C_drewN ?_ _) | (with_reducible refine Kd.C_drew ?_)))
                                        (case side4 => exact HC200_1.out)
                                        rintro e w52 ⟨rfl, hb⟩
                                        refine ⟨_, rfl, ?_⟩
                                        have n0_ := Aside0.mk (Kd.R_below (by (with_reducible repeat (first | apply Kd.R_alloc | apply Kd.R_drewN | apply Kd.R_drew)); exact HO_7.out) hb)
                                        have n1_ := Aside0.mk (Kd.S_below (by (with_reducible repeat (first | apply Kd.S_alloc | apply Kd.S_drewN | apply Kd.S_drew)); exact HO_96.out) hb)
                                        have n2_ := Aside0.mk (Kd.R_below (by (with_reducible repeat (first | apply Kd.R_alloc | apply Kd.R_drewN | apply Kd.R_drew)); exact HL198_1.out) hb)
                                        have n3_ := Aside0.mk (blk_below (g := gb178) (o := .cells #[.slice (some ad200) l0_0.length c0_0, .int .i64 a0_1, .int .i64 a0_2, .int .u8 a0_3] 49 (0, 0)) (by (with_reducible repeat (first | refine blk_drewN ?_ _ | refine blk_drew ?_ | refine blk_alloc ?_ _)); exact BK178.out) hb)
                                        have n4_ := Aside0.mk (blk_below (g := gb199) (o := .cells #[.int .i64 ((rd_T27 t193 x98_4).f0), .slice A198_1 ((rd_T27 t193 x98_4).f1).length c198_1] 27 (0, 0)) (by (with_reducible repeat (first | refine blk_drewN ?_ _ | refine blk_drew ?_ | refine blk_alloc ?_ _)); exact BK199.out) hb)
                                        have n5_ := Aside0.mk (below_step (by repeat (first | (with_reducible first | exact HB.out | apply below_alloc | apply pw_below_drewN | apply below_drew1 | refine below_set ?_ GE178.out | refine below_set ?_ GE199.out) | exact HB.out)) hb)
                                        clear HO_7
                                        clear HO_96
                                        clear HL198_1
                                        clear BK178
                                        clear BK199
                                        clear HB
                                        have HO_7 := n0_
                                        have HO_96 := n1_
                                        have HL198_1 := n2_
                                        have BK178 := n3_
                                        have BK199 := n4_
                                        have HB := n5_
                                        clear n0_ n1_ n2_ n3_ n4_ n5_
                                        (try clear hb)
                                        (try clear hb2)
                                        (try clear hk)
                                        (try clear hi)
                                        refine hK.out _ _ ⟨(blk_cell BK199.out 0).trans rfl, (blk_cell BK199.out 1).trans rfl, ((HB.out.cell (World.block_lt_of_cell? w _ hw200_0)).trans hw200_0), ((HB.out.cell (World.block_lt_of_cell? w _ hw200_1)).trans hw200_1)⟩ (fun hHeld => ?_)
                                        clear hK K
                                        refine norm_ (a' := ?_) ?_ ?_
                                        rotate_left
                                        · show Act.put _ (some 108) _ = _
                                          simp only [Act.put, List.setIfInBounds_toArray, List.set_cons_zero, List.set_cons_succ, i64_w, i32_w]
                                          rfl
                                        refine pure_ (i := 6) (N := some 109) (v := ?_) (a' := ?_) #[true, true, true, true, true, true, true] rfl rfl (by kernel_rfl) (fun _ _ _ h => h) (Or.inl ⟨by rfl, ?_⟩) ?_ ?_
                                        rotate_left
                                        · intro w'
                                          go_simp
                                          with_reducible rfl
                                        rotate_left
                                        · simp only [Act.put, List.setIfInBounds_toArray, List.set_cons_zero, List.set_cons_succ, i64_w, i32_w]
                                          rfl
                                        refine done_ (by kernel_rfl) ?_
                                        try go_wp2
                                        go_roundg k4
                                        case measure => have := HJ4.out; have := HK2.out; have := HJ29.out; have := HK4.out; omega
                                        case rel => exact ⟨(wrap64 (x98_4 + 1)), (by first | rfl | (simp; done) | (simp [*]; done)), H', ⟨by have := HJ4.out; have := HK2.out; have := HJ29.out; have := HK4.out; omega⟩, ⟨by (with_reducible repeat (first | apply Kd.R_alloc | apply Kd.R_drewN | apply Kd.R_drew)); exact HO_7.out⟩, ⟨by (with_reducible repeat (first | apply Kd.S_alloc | apply Kd.S_drewN | apply Kd.S_drew)); exact Kd.S_mono HO_96.out (fun _ hk => hk.1)⟩, ⟨by (with_reducible repeat (first | refine blk_drewN ?_ _ | refine blk_drew ?_ | refine blk_alloc ?_ _)); exact BK178.out⟩, ⟨by repeat (first | (with_reducible first | exact HB.out | apply below_alloc | apply pw_below_drewN | apply below_drew1 | refine below_set ?_ GE178.out | refine below_set ?_ GE199.out) | exact HB.out)⟩⟩
                                      · replace c46 := Bool.eq_false_iff.mpr c46
                                        subst c46
                                        have H1 : (some false) = some r := by rw [if_neg (show ¬ (false = true) by decide)] at H; exact H
                                        clear H
                                        have H := H1
                                        clear H1
                                        exact absurd (Option.some.inj H) (by rw [HR.out]; decide)
                                    · rw [if_neg c44] at H
                                      exact absurd H (by simp)
                                  · rw [if_neg c43] at H
                                    exact absurd H (by simp)
                                · rw [if_neg c42] at H
                                  exact absurd H (by simp)
                              · rw [if_neg c41] at H
                                have c41b0 : decide (x98_4 < (t193.length : Int)) = false := decide_eq_false c41
                                clear c41
                                have HC59 := Aside0.mk H
                                clear H
                                go_upto_region 24 with (fail)
                                go_cut [122] (fun v122 wc => ∃ (kq : Nat) (x122_58 : Bool), v122 = .bool x122_58 ∧ Aside0 (mutoscopelaw04_RecTorn.j4 kq l0_0 a0_2 a0_3 t181 x122_58 = some r) ∧ Aside0 (kq ≤ k4) ∧ Aside0 (Kd.R (Kd.int .u8) 5 wc w.heap.size (fun _ => True) (.slice Ao32 t181.length co32) t181) ∧ Aside0 (wc.heap[gb178]? = some (.cells #[(.slice A0_0 l0_0.length c0_0), .int .i64 a0_1, .int .i64 a0_2, .int .u8 a0_3] 49 (0, 0))) ∧ Aside0 (Below w.heap.size w wc))
                                case first =>
                                  have H := HC59.out
                                  clear HC59
                                  by_cases c60 : a0_2 < 0
                                  · rw [if_pos c60] at H
                                    have c60b0 : decide (a0_2 < 0) = true := decide_eq_true c60
                                    clear c60
                                    (first | rw [c60b0] | (simp only [i64_w, i32_w]; rw [c60b0]) | skip)
                                    have H' := Aside0.mk H
                                    clear H
                                    go_wp2
                                    go_meet
                                    case rel => exact ⟨_, (true), (by first | rfl | (simp; done) | (simp [*]; done)), H', ⟨by have := HJ4.out; have := HK2.out; have := HJ29.out; have := HK4.out; first | omega | exact Nat.le_refl _⟩, ⟨by (with_reducible repeat (first | apply Kd.R_alloc | apply Kd.R_drewN | apply Kd.R_drew)); exact HO_7.out⟩, ⟨by (with_reducible repeat (first | refine blk_drewN ?_ _ | refine blk_drew ?_ | refine blk_alloc ?_ _)); exact BK178.out⟩, ⟨by repeat (first | (with_reducible first | exact HB.out | apply below_alloc | apply pw_below_drewN | apply below_drew1 | refine below_set ?_ GE178.out) | exact HB.out)⟩⟩
                                  · rw [if_neg c60] at H
                                    have c60b0 : decide (a0_2 < 0) = false := decide_eq_false c60
                                    clear c60
                                    (first | rw [c60b0] | (simp only [i64_w, i32_w]; rw [c60b0]) | skip)
                                    by_cases c61 : a0_2 ≥ (t181.length : Int)
                                    · rw [if_pos c61] at H
                                      have c61b0 : decide ((t181.length : Int) ≤ a0_2) = true := decide_eq_true c61
                                      clear c61
                                      have H' := Aside0.mk H
                                      clear H
                                      go_wp2
                                      go_meet
                                      case rel => exact ⟨_, (true), (by first | rfl | (simp; done) | (simp [*]; done)), H', ⟨by have := HJ4.out; have := HK2.out; have := HJ29.out; have := HK4.out; first | omega | exact Nat.le_refl _⟩, ⟨by (with_reducible repeat (first | apply Kd.R_alloc | apply Kd.R_drewN | apply Kd.R_drew)); exact HO_7.out⟩, ⟨by (with_reducible repeat (first | refine blk_drewN ?_ _ | refine blk_drew ?_ | refine blk_alloc ?_ _)); exact BK178.out⟩, ⟨by repeat (first | (with_reducible first | exact HB.out | apply below_alloc | apply pw_below_drewN | apply below_drew1 | refine below_set ?_ GE178.out) | exact HB.out)⟩⟩
                                    · rw [if_neg c61] at H
                                      have c61b0 : decide ((t181.length : Int) ≤ a0_2) = false := decide_eq_false c61
                                      clear c61
                                      have H' := Aside0.mk H
                                      clear H
                                      go_wp2
                                      go_meet
                                      case rel => exact ⟨_, ((a0_3 == 0)), (by first | rfl | (simp; done) | (simp [*]; done)), H', ⟨by have := HJ4.out; have := HK2.out; have := HJ29.out; have := HK4.out; first | omega | exact Nat.le_refl _⟩, ⟨by (with_reducible repeat (first | apply Kd.R_alloc | apply Kd.R_drewN | apply Kd.R_drew)); exact HO_7.out⟩, ⟨by (with_reducible repeat (first | refine blk_drewN ?_ _ | refine blk_drew ?_ | refine blk_alloc ?_ _)); exact BK178.out⟩, ⟨by repeat (first | (with_reducible first | exact HB.out | apply below_alloc | apply pw_below_drewN | apply below_drew1 | refine below_set ?_ GE178.out) | exact HB.out)⟩⟩
                                case rest =>
                                  clear HC59
                                  try clear c1
                                  try clear p1
                                  try clear q1
                                  try clear hx1
                                  try clear c2
                                  try clear p2
                                  try clear q2
                                  try clear hx2
                                  try clear c3
                                  try clear q3
                                  try clear c4
                                  try clear c5
                                  try clear c6
                                  try clear p6
                                  try clear c10
                                  try clear c10b0
                                  try clear c10b1
                                  try clear c11
                                  try clear c11b0
                                  try clear c13
                                  try clear c15
                                  try clear c16
                                  try clear c16b0
                                  try clear c17
                                  try clear c17b0
                                  try clear c18
                                  try clear c18b0
                                  try clear p18
                                  try clear q18
                                  try clear hx18
                                  try clear c19
                                  try clear p19
                                  try clear q19
                                  try clear hx19
                                  try clear c20
                                  try clear c20b0
                                  try clear p20
                                  try clear q20
                                  try clear hx20
                                  try clear c21
                                  try clear c22
                                  try clear c23
                                  try clear c25
                                  try clear c27
                                  try clear c27b0
                                  try clear c27b1
                                  try clear c28
                                  try clear c28b0
                                  try clear c28b1
                                  try clear q31
                                  try clear c34
                                  try clear c34b0
                                  try clear c34b1
                                  try clear c35
                                  try clear c35b0
                                  try clear c39
                                  try clear c41
                                  try clear c41b0
                                  try clear c42
                                  try clear c42b0
                                  try clear c43
                                  try clear c43b0
                                  try clear c44
                                  try clear c44b0
                                  try clear c46
                                  try clear c48
                                  try clear c54
                                  try clear c60
                                  try clear c60b0
                                  try clear c61
                                  try clear c61b0
                                  try clear hcz23_0
                                  try clear hcz23_1
                                  try clear hcz26_0
                                  try clear hcz26_1
                                  try clear hcz49_0
                                  try clear hcz49_1
                                  try clear hcz55_0
                                  try clear hcz55_1
                                  try clear hfz23_0
                                  try clear hfz23_1
                                  try clear hfz26_0
                                  try clear hfz26_1
                                  try clear hfz49_0
                                  try clear hfz49_1
                                  try clear hfz55_0
                                  try clear hfz55_1
                                  try clear hx186_0
                                  try clear hx186_1
                                  try clear hx198_0
                                  try clear hx198_1
                                  try clear hx200_0
                                  try clear hx200_1
                                  try clear p1
                                  try clear p18
                                  try clear p186
                                  try clear p198
                                  try clear p2
                                  try clear p200
                                  try clear p6
                                  try clear q1
                                  try clear q18
                                  try clear q186
                                  try clear q198
                                  try clear q200
                                  try clear q3
                                  try clear q31
                                  obtain ⟨kq, x122_58, rfl, HA, HJ58, HO_7, BK178, HB⟩ := hcut
                                  cases kq with
                                  | zero => exact absurd HA.out (by simp [mutoscopelaw04_RecTorn.j4])
                                  | succ kj58 =>
                                    have H := HA.out
                                    clear HA
                                    simp only [mutoscopelaw04_RecTorn.j4] at H
                                    by_cases c62 : x122_58 = true
                                    · subst c62
                                      have H1 : ((mutoscopelaw04_awake.f kj58).bind fun t202 => (some t202)) = some r := by rw [if_pos rfl] at H; exact H
                                      clear H
                                      have H := H1
                                      clear H1
                                      replace H := Option.bind_eq_some_iff.mp H
                                      obtain ⟨t202, A630, H⟩ := H
                                      replace H : (some t202) = some r := H
                                      have A63 := Aside0.mk A630
                                      clear A630
                                      obtain rfl := Option.some.inj H
                                      go_wp2_with (first | ((with_reducible refine gate_callee (f := 16) rfl ?_); refine goesL_ (some 123) rfl rfl Try.func16 (by kernel_rfl) rfl #[] rfl (by (try simp only [List.map_toArray, List.map_cons, List.map_nil]); first | done | rfl | (simp only [List.length_drop, List.length_take]; rfl)) ?_; (with_reducible refine (mutoscopelaw04_awake.calls kj58  t202 _ A63.out).mono ?_); rintro e w64 ⟨rfl, hb⟩; refine ⟨_, rfl, ?_⟩; have n0_ := Aside0.mk (Kd.R_below (by (with_reducible repeat (first | apply Kd.R_alloc | apply Kd.R_drewN | apply Kd.R_drew)); exact HO_7.out) hb); have n1_ := Aside0.mk (blk_below (g := gb178) (o := .cells #[.slice A0_0 l0_0.length c0_0, .int .i64 a0_1, .int .i64 a0_2, .int .u8 a0_3] 49 (0, 0)) (by (with_reducible repeat (first | refine blk_drewN ?_ _ | refine blk_drew ?_ | refine blk_alloc ?_ _)); exact BK178.out) hb); have n2_ := Aside0.mk (below_step (by repeat (first | (with_reducible first | exact HB.out | apply below_alloc | apply pw_below_drewN | apply below_drew1 | refine below_set ?_ GE178.out) | exact HB.out)) hb); clear HO_7; clear BK178; clear HB; have HO_7 := n0_; have BK178 := n1_; have HB := n2_; clear n0_ n1_ n2_; (try clear hb); (try clear hb2); (try clear hk); (try clear hi)))
                                      go_ret
                                      exact ⟨by first | rfl | (simp [errW_none, errW_some] <;> rfl) | (simp [*, errW_none, errW_some] <;> rfl), by repeat (first | (with_reducible first | exact HB.out | apply below_alloc | apply pw_below_drewN | apply below_drew1 | refine below_set ?_ GE178.out) | exact HB.out)⟩
                                    · replace c62 := Bool.eq_false_iff.mpr c62
                                      subst c62
                                      have H1 : (if 0 ≤ a0_2 then (if a0_2 < (t181.length : Int) then (mutoscopelaw04_RecTorn.l2 kj58 l0_0 a0_2 (t181.set (a0_2 : Int).toNat (Go.bits .xor .u8 (rd t181 a0_2) a0_3)) 0 0 l0_0 (l0_0.length : Int) 0) else (none)) else (none)) = some r := by rw [if_neg (show ¬ (false = true) by decide)] at H; exact H
                                      clear H
                                      have H := H1
                                      clear H1
                                      by_cases c65 : 0 ≤ a0_2
                                      · rw [if_pos c65] at H
                                        have c65b0 : decide (0 ≤ a0_2) = true := decide_eq_true c65
                                        clear c65
                                        by_cases c66 : a0_2 < (t181.length : Int)
                                        · rw [if_pos c66] at H
                                          have c66b0 : decide (a0_2 < (t181.length : Int)) = true := decide_eq_true c66
                                          clear c66
                                          obtain ⟨y204, hy204⟩ : ∃ y_ : List Int, y_ = (t181.set (a0_2 : Int).toNat (Go.bits .xor .u8 (rd t181 a0_2) a0_3)) := ⟨_, rfl⟩
                                          replace H : (mutoscopelaw04_RecTorn.l2 kj58 l0_0 a0_2 y204 0 0 l0_0 (l0_0.length : Int) 0) = some r := by first | (rw [hy204]; with_reducible exact H) | (have H2_ := (Option.bind_some _ _).symm.trans H; rw [hy204]; with_reducible exact H2_) | (have H2_ := (Option.bind_some _ _).symm.trans H; with_reducible exact H2_) | with_reducible exact H | (rw [hy204]; exact H) | exact H
                                          have Ny204 := Aside0.mk hy204
                                          clear hy204
                                          have H' := Aside0.mk H
                                          clear H
                                          have p203 : 0 ≤ (a0_2 : Int) := of_decide_eq_true (by first | (with_reducible assumption) | assumption)
                                          have q203 : a0_2 < (t181.length : Int) := of_decide_eq_true (by first | (with_reducible assumption) | assumption)
                                          obtain ⟨ad203, e203, hx203_0⟩ := Kd.at_int (Kd.R_reads' HO_7.out).2.2 a0_2 p203 q203
                                          cases e203
                                          replace p203 := eq_true p203
                                          replace q203 := eq_true q203
                                          have p67 : 0 ≤ (a0_2 : Int) := of_decide_eq_true (by first | (with_reducible assumption) | assumption)
                                          have q67 : (a0_2 : Int) < ((t181.length : Int) : Int) := of_decide_eq_true (by first | (with_reducible assumption) | assumption)
                                          obtain ⟨go67, co67, eo67, gb67, gl67, cl67, HG67⟩ := Kd.R_form HO_7.out (by omega)
                                          (first | cases eo67 | (injection eo67 with ea_ en_ ec_; (first | subst ea_ | (injection ea_ with ea_; subst ea_)); subst ec_; clear en_))
                                          have GB67 := Aside0.mk gb67
                                          have GG67 := Aside0.mk HG67
                                          clear gb67 gl67 HG67
                                          (first | simp only [add_plain] at hx203_0 | skip)
                                          obtain ⟨hx67_0, hf67_0⟩ := Kd.R_celln 0 HO_7.out (a0_2 : Int) p67 q67
                                          replace p67 := eq_true p67
                                          replace q67 := eq_true q67
                                          have HP68 := Kd.R_putg HO_7.out (a0_2 : Int) (Go.bits .xor .u8 (rd t181 a0_2) a0_3)
                                          go_wp2_with (first | ((with_reducible refine gate_store (t := 5) (p := 130) rfl ?_); refine store_event (t := 5) (p := 130) (v := ?vo_w69) (w1 := (wc.setCell ⟨go67, (a0_2 : Int).toNat, none⟩ (.int .u8 (Go.bits .xor .u8 (rd t181 a0_2) a0_3)))) ?hg ?ho ?hn ?hr ?_; (case ho => rfl); (case hg => rfl); (case hn => rfl); (case hr => first | (go_simp; done) | (go_simp; rfl)); intro w69 hw; have hg : wc.grownBy w69 (some go67) := (by rw [hw]; exact HP68.2); have hp_ : Kd.R (Kd.int .u8) 5 w69 w.heap.size (fun _ => True) (.slice (some ⟨go67, 0, none⟩) t181.length co32) y204 := (by rw [hw, Ny204.out]; exact HP68.1); clear HP68; have n0_ := Aside0.mk (hp_); have n1_ := Aside0.mk (blk_grown (g := gb178) (o := .cells #[.slice A0_0 l0_0.length c0_0, .int .i64 a0_1, .int .i64 a0_2, .int .u8 a0_3] 49 (0, 0)) (by (with_reducible repeat (first | refine blk_drewN ?_ _ | refine blk_drew ?_ | refine blk_alloc ?_ _)); exact BK178.out) hg (Kd.R_ne HO_7.out BK178.out (by decide))); have n2_ := Aside0.mk ((by rw [hw]; exact below_set (HB.out) GB67.out : Below w.heap.size w w69)); clear HO_7; clear BK178; clear HB; have HO_7 := n0_; have BK178 := n1_; have HB := n2_; clear n0_ n1_ n2_; clear hg hw hp_))
                                          go_loopg [18, 19, 133] kj58 (fun kq v18 v19 v133 w' => ∃ (x18_6 : Int) (x19_6 : Int) (x133_6 : Int), v18 = .int .i64 x18_6 ∧ v19 = .int .i64 x19_6 ∧ v133 = .int .i64 x133_6 ∧ Aside0 (mutoscopelaw04_RecTorn.l2 kq l0_0 a0_2 y204 x18_6 x19_6 l0_0 (l0_0.length : Int) x133_6 = some r) ∧ Aside0 (kq ≤ kj58) ∧ Aside0 (Kd.R (Kd.int .u8) 5 w' w.heap.size (fun _ => True) (.slice (some ⟨go67, 0, none⟩) t181.length co32) y204) ∧ Aside0 (w'.heap[gb178]? = some (.cells #[(.slice A0_0 l0_0.length c0_0), .int .i64 a0_1, .int .i64 a0_2, .int .u8 a0_3] 49 (0, 0))) ∧ Aside0 (Below w.heap.size w w'))
                                          case atStart => exact ⟨(0), (0), (0), (by first | rfl | (simp; done) | (simp [*]; done)), (by first | rfl | (simp; done) | (simp [*]; done)), (by first | rfl | (simp; done) | (simp [*]; done)), H', ⟨Nat.le_refl _⟩, ⟨by (with_reducible repeat (first | apply Kd.R_alloc | apply Kd.R_drewN | apply Kd.R_drew)); exact HO_7.out⟩, ⟨by (with_reducible repeat (first | refine blk_drewN ?_ _ | refine blk_drew ?_ | refine blk_alloc ?_ _)); exact BK178.out⟩, ⟨by repeat (first | (with_reducible first | exact HB.out | apply below_alloc | apply pw_below_drewN | apply below_drew1 | refine below_set ?_ GE178.out) | exact HB.out)⟩⟩
                                          case round =>
                                            clear H'
                                            try clear c1
                                            try clear p1
                                            try clear q1
                                            try clear hx1
                                            try clear c2
                                            try clear p2
                                            try clear q2
                                            try clear hx2
                                            try clear c3
                                            try clear q3
                                            try clear c4
                                            try clear c5
                                            try clear c6
                                            try clear p6
                                            try clear q6
                                            try clear hx6
                                            try clear hf6
                                            try clear c10
                                            try clear c10b0
                                            try clear c10b1
                                            try clear c11
                                            try clear c11b0
                                            try clear c13
                                            try clear c15
                                            try clear c16
                                            try clear c16b0
                                            try clear c17
                                            try clear c17b0
                                            try clear c18
                                            try clear c18b0
                                            try clear p18
                                            try clear q18
                                            try clear hx18
                                            try clear c19
                                            try clear p19
                                            try clear q19
                                            try clear hx19
                                            try clear c20
                                            try clear c20b0
                                            try clear p20
                                            try clear q20
                                            try clear hx20
                                            try clear c21
                                            try clear c22
                                            try clear c23
                                            try clear c25
                                            try clear c27
                                            try clear c27b0
                                            try clear c27b1
                                            try clear c28
                                            try clear c28b0
                                            try clear c28b1
                                            try clear q31
                                            try clear c34
                                            try clear c34b0
                                            try clear c34b1
                                            try clear c35
                                            try clear c35b0
                                            try clear c39
                                            try clear c41
                                            try clear c41b0
                                            try clear c42
                                            try clear c42b0
                                            try clear c43
                                            try clear c43b0
                                            try clear c44
                                            try clear c44b0
                                            try clear c46
                                            try clear c48
                                            try clear c54
                                            try clear c60
                                            try clear c60b0
                                            try clear c61
                                            try clear c61b0
                                            try clear c62
                                            try clear p64
                                            try clear c65
                                            try clear c65b0
                                            try clear c66
                                            try clear c66b0
                                            try clear p67
                                            try clear q67
                                            try clear hx67
                                            try clear hf67
                                            try clear hcz23_0
                                            try clear hcz23_1
                                            try clear hcz26_0
                                            try clear hcz26_1
                                            try clear hcz49_0
                                            try clear hcz49_1
                                            try clear hcz55_0
                                            try clear hcz55_1
                                            try clear hfz23_0
                                            try clear hfz23_1
                                            try clear hfz26_0
                                            try clear hfz26_1
                                            try clear hfz49_0
                                            try clear hfz49_1
                                            try clear hfz55_0
                                            try clear hfz55_1
                                            try clear hx186_0
                                            try clear hx186_1
                                            try clear hx198_0
                                            try clear hx198_1
                                            try clear hx200_0
                                            try clear hx200_1
                                            try clear hx203_0
                                            try clear hx67_0
                                            try clear p1
                                            try clear p18
                                            try clear p186
                                            try clear p19
                                            try clear p198
                                            try clear p2
                                            try clear p20
                                            try clear p200
                                            try clear p203
                                            try clear p6
                                            try clear p67
                                            try clear q1
                                            try clear q18
                                            try clear q186
                                            try clear q19
                                            try clear q198
                                            try clear q2
                                            try clear q20
                                            try clear q200
                                            try clear q203
                                            try clear q3
                                            try clear q31
                                            try clear q67
                                            obtain ⟨x18_6, x19_6, x133_6, rfl, rfl, rfl, HA, HK6, HO_7, BK178, HB⟩ := hrel
                                            have hl7_6 := (Kd.R_reads' HO_7.out).1
                                            rw [hl7_6] at HO_7
                                            (try simp only [hl7_6])
                                            (try simp only [hl7_6] at BK178)
                                            cases gk with
                                            | zero => exact absurd HA.out (by simp [mutoscopelaw04_RecTorn.l2])
                                            | succ k6 =>
                                              have H := HA.out
                                              clear HA
                                              simp only [mutoscopelaw04_RecTorn.l2] at H
                                              by_cases c70 : x133_6 < (l0_0.length : Int)
                                              · rw [if_pos c70] at H
                                                have c70b0 : decide (x133_6 < (l0_0.length : Int)) = true := decide_eq_true c70
                                                clear c70
                                                by_cases c71 : 0 ≤ x133_6
                                                · rw [if_pos c71] at H
                                                  have c71b0 : decide (0 ≤ x133_6) = true := decide_eq_true c71
                                                  clear c71
                                                  by_cases c72 : x133_6 < (l0_0.length : Int)
                                                  · rw [if_pos c72] at H
                                                    have c72b0 : decide (x133_6 < (l0_0.length : Int)) = true := decide_eq_true c72
                                                    clear c72
                                                    replace H := Option.bind_eq_some_iff.mp H
                                                    obtain ⟨t207, A730, H⟩ := H
                                                    replace H : (if (wrap64 (x19_6 + t207)) ≤ a0_2 then (mutoscopelaw04_RecTorn.l2 k6 l0_0 a0_2 y204 (wrap64 (x18_6 + 1)) (wrap64 (x19_6 + t207)) l0_0 (l0_0.length : Int) (wrap64 (x133_6 + 1))) else (mutoscopelaw04_RecTorn.l2 k6 l0_0 a0_2 y204 x18_6 (wrap64 (x19_6 + t207)) l0_0 (l0_0.length : Int) (wrap64 (x133_6 + 1)))) = some r := H
                                                    have A73 := Aside0.mk A730
                                                    clear A730
                                                    by_cases c74 : (wrap64 (x19_6 + t207)) ≤ a0_2
                                                    · rw [if_pos c74] at H
                                                      have c74b0 : decide ((wrap64 (x19_6 + t207)) ≤ a0_2) = true := decide_eq_true c74
                                                      clear c74
                                                      have H' := Aside0.mk H
                                                      clear H
                                                      have p205 : 0 ≤ (x133_6 : Int) := of_decide_eq_true (by first | (with_reducible assumption) | assumption)
                                                      have q205 : x133_6 < (l0_0.length : Int) := of_decide_eq_true (by first | (with_reducible assumption) | assumption)
                                                      obtain ⟨ad205, A205_1, c205_1, e205, hx205_0, hx205_1, hl205_1, hi205_1⟩ := at_T27 HR0_0.out x133_6 p205 q205
                                                      cases e205
                                                      replace hx205_0 := (HB.out.cell (World.block_lt_of_cell? w _ hx205_0)).trans hx205_0
                                                      replace hx205_1 := (HB.out.cell (World.block_lt_of_cell? w _ hx205_1)).trans hx205_1
                                                      have HR205_1 := Aside0.mk hi205_1
                                                      have HC205_1 := Aside0.mk hl205_1
                                                      clear hi205_1 hl205_1
                                                      replace p205 := eq_true p205
                                                      replace q205 := eq_true q205
                                                      go_wp2_with (first | ((with_reducible refine gate_dst (N := 21) rfl ?_); (try (refine gate_guard (by rfl) ?_; dsimp only)); refine box_event ?hg (N := 21) ?hd (cs := #[.int .i64 0, .slice none 0 0]) (t := 27) ?hr ?_; (case hd => rfl); (case hg => rfl); (case hr => first | (go_simp; done) | (go_simp; rfl)); intro gb206 hg w75 hbox hb; have n0_ := Aside0.mk (Kd.R_below (by (with_reducible repeat (first | apply Kd.R_alloc | apply Kd.R_drewN | apply Kd.R_drew)); exact HO_7.out) hb); have n1_ := Aside0.mk (blk_below (g := gb178) (o := .cells #[.slice (some ad205) l0_0.length c0_0, .int .i64 a0_1, .int .i64 a0_2, .int .u8 a0_3] 49 (0, 0)) (by (with_reducible repeat (first | refine blk_drewN ?_ _ | refine blk_drew ?_ | refine blk_alloc ?_ _)); exact BK178.out) hb); have n2_ := Aside0.mk (below_step (by repeat (first | (with_reducible first | exact HB.out | apply below_alloc | apply pw_below_drewN | apply below_drew1 | refine below_set ?_ GE178.out) | exact HB.out)) hb); have n3_ := Aside0.mk (hbox); have n4_ := Aside0.mk ((by rw [hg]; exact (below_size (by repeat (first | (with_reducible first | exact HB.out | apply below_alloc | apply pw_below_drewN | apply below_drew1 | refine below_set ?_ GE178.out) | exact HB.out))) : w.heap.size ≤ gb206)); have n5_ := Aside0.mk ((by rw [hg]; exact (below_size (by repeat (first | (with_reducible first | exact HB.out | apply below_alloc | apply pw_below_drewN | apply below_drew1 | refine below_set ?_ GE178.out) | exact HB.out))) : w.heap.size ≤ gb206)); have n6_ := Aside0.mk ((by rw [hg]; exact Nat.ne_of_lt (blk_lt (g := gb178) (o := .cells #[.slice (some ad205) l0_0.length c0_0, .int .i64 a0_1, .int .i64 a0_2, .int .u8 a0_3] 49 (0, 0)) (by (with_reducible repeat (first | refine blk_drewN ?_ _ | refine blk_drew ?_ | refine blk_alloc ?_ _)); exact BK178.out)) : gb178 ≠ gb206)); have n7_ := Aside0.mk ((by rw [hg]; exact Nat.ne_of_gt (blk_lt (g := gb178) (o := .cells #[.slice (some ad205) l0_0.length c0_0, .int .i64 a0_1, .int .i64 a0_2, .int .u8 a0_3] 49 (0, 0)) (by (with_reducible repeat (first | refine blk_drewN ?_ _ | refine blk_drew ?_ | refine blk_alloc ?_ _)); exact BK178.out)) : gb206 ≠ gb178)); clear HO_7; clear BK178; clear HB; have HO_7 := n0_; have BK178 := n1_; have HB := n2_; have BK206 := n3_; have GW206 := n4_; have GE206 := n5_; have NB178_206 := n6_; have NB206_178 := n7_; clear n0_ n1_ n2_ n3_ n4_ n5_ n6_ n7_; clear hb hbox hg; have hnb76 := NB206_178.out; have hnc76 := NB178_206.out; have hcz77_0 : w75.cell? ⟨gb206, 0, none⟩ = some (.int .i64 0) := (blk_cell BK206.out 0).trans rfl; have hcz77_1 : w75.cell? ⟨gb206, 1, none⟩ = some (.slice none 0 0) := (blk_cell BK206.out 1).trans rfl; have hfz77_0 := blk_frozen BK206.out 0; have hfz77_1 := blk_frozen BK206.out 1) | ((with_reducible refine gate_callee (f := 23) rfl ?_); refine goesL_ (some 141) rfl rfl Try.func23 (by kernel_rfl) rfl #[.int .i64 (((rd_T27 l0_0 x133_6).f1).length : Int)] rfl (by (try simp only [List.map_toArray, List.map_cons, List.map_nil]); first | done | rfl | (simp only [List.length_drop, List.length_take]; rfl)) ?_; (with_reducible refine (rec_Size.calls (((rd_T27 l0_0 x133_6).f1).length : Int) t207 _ A73.out).mono ?_); rintro e w' ⟨rfl, ⟨nd, rfl⟩⟩; refine ⟨_, rfl, ?_⟩))
                                                      (try simp only [← hl7_6])
                                                      go_roundg k6
                                                      case measure => have := HJ4.out; have := HK2.out; have := HJ29.out; have := HK4.out; have := HJ58.out; have := HK6.out; omega
                                                      case rel => exact ⟨(wrap64 (x18_6 + 1)), (wrap64 (x19_6 + t207)), (wrap64 (x133_6 + 1)), (by first | rfl | (simp; done) | (simp [*]; done)), (by first | rfl | (simp; done) | (simp [*]; done)), (by first | rfl | (simp; done) | (simp [*]; done)), H', ⟨by have := HJ4.out; have := HK2.out; have := HJ29.out; have := HK4.out; have := HJ58.out; have := HK6.out; omega⟩, ⟨by (try simp only [hl7_6]); (with_reducible repeat (first | apply Kd.R_alloc | apply Kd.R_drewN | apply Kd.R_drew)); exact Kd.R_mono (Kd.R_far (p := ⟨gb206, 1, none⟩) (Kd.R_far (p := ⟨gb206, 0, none⟩) (Kd.R_types HO_7.out BK206.out (by decide)) (fun _ hk => hk.2) (.int .i64 ((rd_T27 l0_0 x133_6).f0))) (fun _ hk => hk.2) (.slice A205_1 ((rd_T27 l0_0 x133_6).f1).length c205_1)) (fun _ hk => trivial)⟩, ⟨by (try simp only [hl7_6]); (with_reducible repeat (first | refine blk_drewN ?_ _ | refine blk_drew ?_ | refine blk_alloc ?_ _)); refine blk_far ?_ NB178_206.out _; (with_reducible repeat (first | refine blk_drewN ?_ _ | refine blk_drew ?_ | refine blk_alloc ?_ _)); refine blk_far ?_ NB178_206.out _; (with_reducible repeat (first | refine blk_drewN ?_ _ | refine blk_drew ?_ | refine blk_alloc ?_ _)); exact BK178.out⟩, ⟨by repeat (first | (with_reducible first | exact HB.out | apply below_alloc | apply pw_below_drewN | apply below_drew1 | refine below_set ?_ GE178.out | refine below_set ?_ GE206.out) | exact HB.out)⟩⟩
                                                    · rw [if_neg c74] at H
                                                      have c74b0 : decide ((wrap64 (x19_6 + t207)) ≤ a0_2) = false := decide_eq_false c74
                                                      clear c74
                                                      have H' := Aside0.mk H
                                                      clear H
                                                      have p205 : 0 ≤ (x133_6 : Int) := of_decide_eq_true (by first | (with_reducible assumption) | assumption)
                                                      have q205 : x133_6 < (l0_0.length : Int) := of_decide_eq_true (by first | (with_reducible assumption) | assumption)
                                                      obtain ⟨ad205, A205_1, c205_1, e205, hx205_0, hx205_1, hl205_1, hi205_1⟩ := at_T27 HR0_0.out x133_6 p205 q205
                                                      cases e205
                                                      replace hx205_0 := (HB.out.cell (World.block_lt_of_cell? w _ hx205_0)).trans hx205_0
                                                      replace hx205_1 := (HB.out.cell (World.block_lt_of_cell? w _ hx205_1)).trans hx205_1
                                                      have HR205_1 := Aside0.mk hi205_1
                                                      have HC205_1 := Aside0.mk hl205_1
                                                      clear hi205_1 hl205_1
                                                      replace p205 := eq_true p205
                                                      replace q205 := eq_true q205
                                                      go_wp2_with (first | ((with_reducible refine gate_dst (N := 21) rfl ?_); (try (refine gate_guard (by rfl) ?_; dsimp only)); refine box_event ?hg (N := 21) ?hd (cs := #[.int .i64 0, .slice none 0 0]) (t := 27) ?hr ?_; (case hd => rfl); (case hg => rfl); (case hr => first | (go_simp; done) | (go_simp; rfl)); intro gb206 hg w78 hbox hb; have n0_ := Aside0.mk (Kd.R_below (by (with_reducible repeat (first | apply Kd.R_alloc | apply Kd.R_drewN | apply Kd.R_drew)); exact HO_7.out) hb); have n1_ := Aside0.mk (blk_below (g := gb178) (o := .cells #[.slice (some ad205) l0_0.length c0_0, .int .i64 a0_1, .int .i64 a0_2, .int .u8 a0_3] 49 (0, 0)) (by (with_reducible repeat (first | refine blk_drewN ?_ _ | refine blk_drew ?_ | refine blk_alloc ?_ _)); exact BK178.out) hb); have n2_ := Aside0.mk (below_step (by repeat (first | (with_reducible first | exact HB.out | apply below_alloc | apply pw_below_drewN | apply below_drew1 | refine below_set ?_ GE178.out) | exact HB.out)) hb); have n3_ := Aside0.mk (hbox); have n4_ := Aside0.mk ((by rw [hg]; exact (below_size (by repeat (first | (with_reducible first | exact HB.out | apply below_alloc | apply pw_below_drewN | apply below_drew1 | refine below_set ?_ GE178.out) | exact HB.out))) : w.heap.size ≤ gb206)); have n5_ := Aside0.mk ((by rw [hg]; exact (below_size (by repeat (first | (with_reducible first | exact HB.out | apply below_alloc | apply pw_below_drewN | apply below_drew1 | refine below_set ?_ GE178.out) | exact HB.out))) : w.heap.size ≤ gb206)); have n6_ := Aside0.mk ((by rw [hg]; exact Nat.ne_of_lt (blk_lt (g := gb178) (o := .cells #[.slice (some ad205) l0_0.length c0_0, .int .i64 a0_1, .int .i64 a0_2, .int .u8 a0_3] 49 (0, 0)) (by (with_reducible repeat (first | refine blk_drewN ?_ _ | refine blk_drew ?_ | refine blk_alloc ?_ _)); exact BK178.out)) : gb178 ≠ gb206)); have n7_ := Aside0.mk ((by rw [hg]; exact Nat.ne_of_gt (blk_lt (g := gb178) (o := .cells #[.slice (some ad205) l0_0.length c0_0, .int .i64 a0_1, .int .i64 a0_2, .int .u8 a0_3] 49 (0, 0)) (by (with_reducible repeat (first | refine blk_drewN ?_ _ | refine blk_drew ?_ | refine blk_alloc ?_ _)); exact BK178.out)) : gb206 ≠ gb178)); clear HO_7; clear BK178; clear HB; have HO_7 := n0_; have BK178 := n1_; have HB := n2_; have BK206 := n3_; have GW206 := n4_; have GE206 := n5_; have NB178_206 := n6_; have NB206_178 := n7_; clear n0_ n1_ n2_ n3_ n4_ n5_ n6_ n7_; clear hb hbox hg; have hnb79 := NB206_178.out; have hnc79 := NB178_206.out; have hcz80_0 : w78.cell? ⟨gb206, 0, none⟩ = some (.int .i64 0) := (blk_cell BK206.out 0).trans rfl; have hcz80_1 : w78.cell? ⟨gb206, 1, none⟩ = some (.slice none 0 0) := (blk_cell BK206.out 1).trans rfl; have hfz80_0 := blk_frozen BK206.out 0; have hfz80_1 := blk_frozen BK206.out 1) | ((with_reducible refine gate_callee (f := 23) rfl ?_); refine goesL_ (some 141) rfl rfl Try.func23 (by kernel_rfl) rfl #[.int .i64 (((rd_T27 l0_0 x133_6).f1).length : Int)] rfl (by (try simp only [List.map_toArray, List.map_cons, List.map_nil]); first | done | rfl | (simp only [List.length_drop, List.length_take]; rfl)) ?_; (with_reducible refine (rec_Size.calls (((rd_T27 l0_0 x133_6).f1).length : Int) t207 _ A73.out).mono ?_); rintro e w' ⟨rfl, ⟨nd, rfl⟩⟩; refine ⟨_, rfl, ?_⟩))
                                                      (try simp only [← hl7_6])
                                                      go_roundg k6
                                                      case measure => have := HJ4.out; have := HK2.out; have := HJ29.out; have := HK4.out; have := HJ58.out; have := HK6.out; omega
                                                      case rel => exact ⟨(x18_6), (wrap64 (x19_6 + t207)), (wrap64 (x133_6 + 1)), (by first | rfl | (simp; done) | (simp [*]; done)), (by first | rfl | (simp; done) | (simp [*]; done)), (by first | rfl | (simp; done) | (simp [*]; done)), H', ⟨by have := HJ4.out; have := HK2.out; have := HJ29.out; have := HK4.out; have := HJ58.out; have := HK6.out; omega⟩, ⟨by (try simp only [hl7_6]); (with_reducible repeat (first | apply Kd.R_alloc | apply Kd.R_drewN | apply Kd.R_drew)); exact Kd.R_mono (Kd.R_far (p := ⟨gb206, 1, none⟩) (Kd.R_far (p := ⟨gb206, 0, none⟩) (Kd.R_types HO_7.out BK206.out (by decide)) (fun _ hk => hk.2) (.int .i64 ((rd_T27 l0_0 x133_6).f0))) (fun _ hk => hk.2) (.slice A205_1 ((rd_T27 l0_0 x133_6).f1).length c205_1)) (fun _ hk => trivial)⟩, ⟨by (try simp only [hl7_6]); (with_reducible repeat (first | refine blk_drewN ?_ _ | refine blk_drew ?_ | refine blk_alloc ?_ _)); refine blk_far ?_ NB178_206.out _; (with_reducible repeat (first | refine blk_drewN ?_ _ | refine blk_drew ?_ | refine blk_alloc ?_ _)); refine blk_far ?_ NB178_206.out _; (with_reducible repeat (first | refine blk_drewN ?_ _ | refine blk_drew ?_ | refine blk_alloc ?_ _)); exact BK178.out⟩, ⟨by repeat (first | (with_reducible first | exact HB.out | apply below_alloc | apply pw_below_drewN | apply below_drew1 | refine below_set ?_ GE178.out | refine below_set ?_ GE206.out) | exact HB.out)⟩⟩
                                                  · rw [if_neg c72] at H
                                                    exact absurd H (by simp)
                                                · rw [if_neg c71] at H
                                                  exact absurd H (by simp)
                                              · rw [if_neg c70] at H
                                                have c70b0 : decide (x133_6 < (l0_0.length : Int)) = false := decide_eq_false c70
                                                clear c70
                                                replace H := Option.bind_eq_some_iff.mp H
                                                obtain ⟨⟨t208, t209, t210⟩, A810, H⟩ := H
                                                replace H : (if (t208.length : Int) = x18_6 then (mutoscopelaw04_RecTorn.j6 k6 l0_0 t208 x18_6 (t210 == 0)) else (mutoscopelaw04_RecTorn.j6 k6 l0_0 t208 x18_6 true)) = some r := H
                                                have A81 := Aside0.mk A810
                                                clear A810
                                                have HC82 := Aside0.mk H
                                                clear H
                                                go_upto_region 36 with (first | ((with_reducible refine gate_callee (f := 21) rfl ?_); refine goesL_ (some 151) rfl rfl Try.func21 (by kernel_rfl) rfl #[.slice (some ⟨go67, 0, none⟩) y204.length co32] rfl (by (try simp only [List.map_toArray, List.map_cons, List.map_nil]); first | done | rfl | (simp only [List.length_drop, List.length_take]; rfl)) ?_; (with_reducible refine (rec_All.calls k6 _ _ y204 t208 t209 t210 _ ?side1 ?side2 A81.out).mono ?_); (case side1 => repeat (first | exact (Kd.R_reads' HO_7.out).2.2 | (with_reducible refine Kd.C_alloc ?_ _) | (with_reducible refine Kd.C_drewN ?_ _) | (with_reducible refine Kd.C_drew ?_))); (case side2 => exact (Kd.R_reads' HO_7.out).2.1); rintro e w83 ⟨v211, rfl, ho0, hb⟩; refine ⟨_, rfl, ?_⟩; have n0_ := Aside0.mk (Kd.R_below (by (with_reducible repeat (first | apply Kd.R_alloc | apply Kd.R_drewN | apply Kd.R_drew)); exact HO_7.out) hb); have n1_ := Aside0.mk (Kd.S_lower (Kd.S_new' ho0 (Kd.R_lt (by (with_reducible repeat (first | apply Kd.R_alloc | apply Kd.R_drewN | apply Kd.R_drew)); exact HO_7.out))) (below_size (by repeat (first | (with_reducible first | exact HB.out | apply below_alloc | apply pw_below_drewN | apply below_drew1 | refine below_set ?_ GE178.out) | exact HB.out)))); have n2_ := Aside0.mk (blk_below (g := gb178) (o := .cells #[.slice A0_0 l0_0.length c0_0, .int .i64 a0_1, .int .i64 a0_2, .int .u8 a0_3] 49 (0, 0)) (by (with_reducible repeat (first | refine blk_drewN ?_ _ | refine blk_drew ?_ | refine blk_alloc ?_ _)); exact BK178.out) hb); have n3_ := Aside0.mk (below_step (by repeat (first | (with_reducible first | exact HB.out | apply below_alloc | apply pw_below_drewN | apply below_drew1 | refine below_set ?_ GE178.out) | exact HB.out)) hb); clear HO_7; clear BK178; clear HB; have HO_7 := n0_; have HO212 := n1_; have BK178 := n2_; have HB := n3_; clear n0_ n1_ n2_ n3_; (try clear hb); (try clear hb2); (try clear hk); (try clear hi); (try clear ho0)))
                                                (try simp only [Act.put, List.setIfInBounds_toArray, List.set_cons_zero, List.set_cons_succ])
                                                go_cut [162] (fun v162 wc => ∃ (kq : Nat) (x162_81 : Bool), v162 = .bool x162_81 ∧ Aside0 (mutoscopelaw04_RecTorn.j6 kq l0_0 t208 x18_6 x162_81 = some r) ∧ Aside0 (kq ≤ k6) ∧ Aside0 (Kd.S k27 27 wc w.heap.size (fun _ => True) v211 t208) ∧ Aside0 (wc.heap[gb178]? = some (.cells #[(.slice A0_0 l0_0.length c0_0), .int .i64 a0_1, .int .i64 a0_2, .int .u8 a0_3] 49 (0, 0))) ∧ Aside0 (Below w.heap.size w wc))
                                                case first =>
                                                  have H := HC82.out
                                                  clear HC82
                                                  by_cases c84 : (t208.length : Int) = x18_6
                                                  · rw [if_pos c84] at H
                                                    have c84b0 : ((t208.length : Int) == x18_6) = true := beq_iff_eq.mpr c84
                                                    have c84b1 : ((t208.length : Int) != x18_6) = false := bne_eq_false_iff_eq.mpr c84
                                                    clear c84
                                                    (first | rw [c84b0] | (simp only [i64_w, i32_w]; rw [c84b0]) | skip)
                                                    have H' := Aside0.mk H
                                                    clear H
                                                    obtain ⟨Ao85, co85, eo85⟩ := Kd.S_slice HO212.out
                                                    subst eo85
                                                    go_wp2
                                                    go_meet
                                                    case rel => exact ⟨_, ((t210 == 0)), (by first | rfl | (simp; done) | (simp [*]; done)), H', ⟨by have := HJ4.out; have := HK2.out; have := HJ29.out; have := HK4.out; have := HJ58.out; have := HK6.out; first | omega | exact Nat.le_refl _⟩, ⟨by (try simp only [hl7_6]); (with_reducible repeat (first | apply Kd.S_alloc | apply Kd.S_drewN | apply Kd.S_drew)); exact Kd.S_mono HO212.out (fun _ hk => trivial)⟩, ⟨by (try simp only [hl7_6]); (with_reducible repeat (first | refine blk_drewN ?_ _ | refine blk_drew ?_ | refine blk_alloc ?_ _)); exact BK178.out⟩, ⟨by repeat (first | (with_reducible first | exact HB.out | apply below_alloc | apply pw_below_drewN | apply below_drew1 | refine below_set ?_ GE178.out) | exact HB.out)⟩⟩
                                                  · rw [if_neg c84] at H
                                                    have c84b0 : ((t208.length : Int) == x18_6) = false := beq_eq_false_iff_ne.mpr c84
                                                    have c84b1 : ((t208.length : Int) != x18_6) = true := bne_iff_ne.mpr c84
                                                    (first | rw [c84b0] | (simp only [i64_w, i32_w]; rw [c84b0]) | skip)
                                                    have H' := Aside0.mk H
                                                    clear H
                                                    obtain ⟨Ao86, co86, eo86⟩ := Kd.S_slice HO212.out
                                                    subst eo86
                                                    go_wp2
                                                    go_meet
                                                    case rel => exact ⟨_, (true), (by first | rfl | (simp; done) | (simp [*]; done)), H', ⟨by have := HJ4.out; have := HK2.out; have := HJ29.out; have := HK4.out; have := HJ58.out; have := HK6.out; first | omega | exact Nat.le_refl _⟩, ⟨by (try simp only [hl7_6]); (with_reducible repeat (first | apply Kd.S_alloc | apply Kd.S_drewN | apply Kd.S_drew)); exact Kd.S_mono HO212.out (fun _ hk => trivial)⟩, ⟨by (try simp only [hl7_6]); (with_reducible repeat (first | refine blk_drewN ?_ _ | refine blk_drew ?_ | refine blk_alloc ?_ _)); exact BK178.out⟩, ⟨by repeat (first | (with_reducible first | exact HB.out | apply below_alloc | apply pw_below_drewN | apply below_drew1 | refine below_set ?_ GE178.out) | exact HB.out)⟩⟩
                                                case rest =>
                                                  clear HC82
                                                  try clear c1
                                                  try clear p1
                                                  try clear q1
                                                  try clear hx1
                                                  try clear c2
                                                  try clear p2
                                                  try clear q2
                                                  try clear hx2
                                                  try clear c3
                                                  try clear q3
                                                  try clear c4
                                                  try clear c5
                                                  try clear c6
                                                  try clear p6
                                                  try clear q6
                                                  try clear hx6
                                                  try clear hf6
                                                  try clear c7
                                                  try clear c8
                                                  try clear c10
                                                  try clear c10b0
                                                  try clear c10b1
                                                  try clear c11
                                                  try clear c11b0
                                                  try clear c13
                                                  try clear c15
                                                  try clear c16
                                                  try clear c16b0
                                                  try clear c17
                                                  try clear c17b0
                                                  try clear c18
                                                  try clear c18b0
                                                  try clear p18
                                                  try clear q18
                                                  try clear hx18
                                                  try clear c19
                                                  try clear p19
                                                  try clear q19
                                                  try clear hx19
                                                  try clear c20
                                                  try clear c20b0
                                                  try clear p20
                                                  try clear q20
                                                  try clear hx20
                                                  try clear c21
                                                  try clear c22
                                                  try clear c23
                                                  try clear c25
                                                  try clear c27
                                                  try clear c27b0
                                                  try clear c27b1
                                                  try clear c28
                                                  try clear c28b0
                                                  try clear c28b1
                                                  try clear q31
                                                  try clear c34
                                                  try clear c34b0
                                                  try clear c34b1
                                                  try clear c35
                                                  try clear c35b0
                                                  try clear c39
                                                  try clear c41
                                                  try clear c41b0
                                                  try clear c42
                                                  try clear c42b0
                                                  try clear c43
                                                  try clear c43b0
                                                  try clear c44
                                                  try clear c44b0
                                                  try clear c46
                                                  try clear c48
                                                  try clear c54
                                                  try clear c60
                                                  try clear c60b0
                                                  try clear c61
                                                  try clear c61b0
                                                  try clear c62
                                                  try clear p64
                                                  try clear c65
                                                  try clear c65b0
                                                  try clear c66
                                                  try clear c66b0
                                                  try clear p67
                                                  try clear q67
                                                  try clear hx67
                                                  try clear hf67
                                                  try clear c70
                                                  try clear c70b0
                                                  try clear c71
                                                  try clear c71b0
                                                  try clear c72
                                                  try clear c72b0
                                                  try clear c74
                                                  try clear c74b0
                                                  try clear c76
                                                  try clear c79
                                                  try clear c84
                                                  try clear c84b0
                                                  try clear c84b1
                                                  try clear hcz23_0
                                                  try clear hcz23_1
                                                  try clear hcz26_0
                                                  try clear hcz26_1
                                                  try clear hcz49_0
                                                  try clear hcz49_1
                                                  try clear hcz55_0
                                                  try clear hcz55_1
                                                  try clear hcz77_0
                                                  try clear hcz77_1
                                                  try clear hcz80_0
                                                  try clear hcz80_1
                                                  try clear hfz23_0
                                                  try clear hfz23_1
                                                  try clear hfz26_0
                                                  try clear hfz26_1
                                                  try clear hfz49_0
                                                  try clear hfz49_1
                                                  try clear hfz55_0
                                                  try clear hfz55_1
                                                  try clear hfz77_0
                                                  try clear hfz77_1
                                                  try clear hfz80_0
                                                  try clear hfz80_1
                                                  try clear hx186_0
                                                  try clear hx186_1
                                                  try clear hx198_0
                                                  try clear hx198_1
                                                  try clear hx200_0
                                                  try clear hx200_1
                                                  try clear hx203_0
                                                  try clear hx205_0
                                                  try clear hx205_1
                                                  try clear hx67_0
                                                  try clear p1
                                                  try clear p18
                                                  try clear p186
                                                  try clear p19
                                                  try clear p198
                                                  try clear p2
                                                  try clear p20
                                                  try clear p200
                                                  try clear p203
                                                  try clear p205
                                                  try clear p6
                                                  try clear p64
                                                  try clear p67
                                                  try clear q1
                                                  try clear q18
                                                  try clear q186
                                                  try clear q19
                                                  try clear q198
                                                  try clear q2
                                                  try clear q20
                                                  try clear q200
                                                  try clear q203
                                                  try clear q205
                                                  try clear q3
                                                  try clear q31
                                                  try clear q6
                                                  try clear q67
                                                  obtain ⟨kq, x162_81, rfl, HA, HJ81, HO_13, BK178, HB⟩ := hcut
                                                  cases kq with
                                                  | zero => exact absurd HA.out (by simp [mutoscopelaw04_RecTorn.j6])
                                                  | succ kj81 =>
                                                    have H := HA.out
                                                    clear HA
                                                    simp only [mutoscopelaw04_RecTorn.j6] at H
                                                    by_cases c87 : x162_81 = true
                                                    · subst c87
                                                      have H1 : (some false) = some r := by rw [if_pos rfl] at H; exact H
                                                      clear H
                                                      have H := H1
                                                      clear H1
                                                      exact absurd (Option.some.inj H) (by rw [HR.out]; decide)
                                                    · replace c87 := Bool.eq_false_iff.mpr c87
                                                      subst c87
                                                      have H1 : (mutoscopelaw04_RecTorn.l3 kj81 l0_0 t208 x18_6 0) = some r := by rw [if_neg (show ¬ (false = true) by decide)] at H; exact H
                                                      clear H
                                                      have H := H1
                                                      clear H1
                                                      have H' := Aside0.mk H
                                                      clear H
                                                      go_wp2
                                                      go_loopg [164] kj81 (fun kq v164 w' => ∃ (x164_8 : Int), v164 = .int .i64 x164_8 ∧ Aside0 (mutoscopelaw04_RecTorn.l3 kq l0_0 t208 x18_6 x164_8 = some r) ∧ Aside0 (kq ≤ kj81) ∧ Aside0 (Kd.S k27 27 w' w.heap.size (fun _ => True) v211 t208) ∧ Aside0 (w'.heap[gb178]? = some (.cells #[(.slice A0_0 l0_0.length c0_0), .int .i64 a0_1, .int .i64 a0_2, .int .u8 a0_3] 49 (0, 0))) ∧ Aside0 (Below w.heap.size w w'))
                                                      case atStart => exact ⟨(0), (by first | rfl | (simp; done) | (simp [*]; done)), H', ⟨Nat.le_refl _⟩, ⟨by (try simp only [hl7_6]); (with_reducible repeat (first | apply Kd.S_alloc | apply Kd.S_drewN | apply Kd.S_drew)); exact HO_13.out⟩, ⟨by (try simp only [hl7_6]); (with_reducible repeat (first | refine blk_drewN ?_ _ | refine blk_drew ?_ | refine blk_alloc ?_ _)); exact BK178.out⟩, ⟨by repeat (first | (with_reducible first | exact HB.out | apply below_alloc | apply pw_below_drewN | apply below_drew1 | refine below_set ?_ GE178.out) | exact HB.out)⟩⟩
                                                      case round =>
                                                        clear H'
                                                        try clear c1
                                                        try clear p1
                                                        try clear q1
                                                        try clear hx1
                                                        try clear c2
                                                        try clear p2
                                                        try clear q2
                                                        try clear hx2
                                                        try clear c3
                                                        try clear q3
                                                        try clear c4
                                                        try clear c5
                                                        try clear c6
                                                        try clear p6
                                                        try clear q6
                                                        try clear hx6
                                                        try clear hf6
                                                        try clear c7
                                                        try clear c8
                                                        try clear c10
                                                        try clear c10b0
                                                        try clear c10b1
                                                        try clear c11
                                                        try clear c11b0
                                                        try clear c13
                                                        try clear c15
                                                        try clear c16
                                                        try clear c16b0
                                                        try clear c17
                                                        try clear c17b0
                                                        try clear c18
                                                        try clear c18b0
                                                        try clear p18
                                                        try clear q18
                                                        try clear hx18
                                                        try clear c19
                                                        try clear p19
                                                        try clear q19
                                                        try clear hx19
                                                        try clear c20
                                                        try clear c20b0
                                                        try clear p20
                                                        try clear q20
                                                        try clear hx20
                                                        try clear c21
                                                        try clear c22
                                                        try clear c23
                                                        try clear c25
                                                        try clear c27
                                                        try clear c27b0
                                                        try clear c27b1
                                                        try clear c28
                                                        try clear c28b0
                                                        try clear c28b1
                                                        try clear q31
                                                        try clear c34
                                                        try clear c34b0
                                                        try clear c34b1
                                                        try clear c35
                                                        try clear c35b0
                                                        try clear c39
                                                        try clear c41
                                                        try clear c41b0
                                                        try clear c42
                                                        try clear c42b0
                                                        try clear c43
                                                        try clear c43b0
                                                        try clear c44
                                                        try clear c44b0
                                                        try clear c46
                                                        try clear c48
                                                        try clear c54
                                                        try clear c60
                                                        try clear c60b0
                                                        try clear c61
                                                        try clear c61b0
                                                        try clear c62
                                                        try clear p64
                                                        try clear c65
                                                        try clear c65b0
                                                        try clear c66
                                                        try clear c66b0
                                                        try clear p67
                                                        try clear q67
                                                        try clear hx67
                                                        try clear hf67
                                                        try clear c70
                                                        try clear c70b0
                                                        try clear c71
                                                        try clear c71b0
                                                        try clear c72
                                                        try clear c72b0
                                                        try clear c74
                                                        try clear c74b0
                                                        try clear c76
                                                        try clear c79
                                                        try clear c84
                                                        try clear c84b0
                                                        try clear c84b1
                                                        try clear c87
                                                        try clear hcz23_0
                                                        try clear hcz23_1
                                                        try clear hcz26_0
                                                        try clear hcz26_1
                                                        try clear hcz49_0
                                                        try clear hcz49_1
                                                        try clear hcz55_0
                                                        try clear hcz55_1
                                                        try clear hcz77_0
                                                        try clear hcz77_1
                                                        try clear hcz80_0
                                                        try clear hcz80_1
                                                        try clear hfz23_0
                                                        try clear hfz23_1
                                                        try clear hfz26_0
                                                        try clear hfz26_1
                                                        try clear hfz49_0
                                                        try clear hfz49_1
                                                        try clear hfz55_0
                                                        try clear hfz55_1
                                                        try clear hfz77_0
                                                        try clear hfz77_1
                                                        try clear hfz80_0
                                                        try clear hfz80_1
                                                        try clear hx186_0
                                                        try clear hx186_1
                                                        try clear hx198_0
                                                        try clear hx198_1
                                                        try clear hx200_0
                                                        try clear hx200_1
                                                        try clear hx203_0
                                                        try clear hx205_0
                                                        try clear hx205_1
                                                        try clear hx67_0
                                                        try clear p1
                                                        try clear p18
                                                        try clear p186
                                                        try clear p19
                                                        try clear p198
                                                        try clear p2
                                                        try clear p20
                                                        try clear p200
                                                        try clear p203
                                                        try clear p205
                                                        try clear p6
                                                        try clear p64
                                                        try clear p67
                                                        try clear q1
                                                        try clear q18
                                                        try clear q186
                                                        try clear q19
                                                        try clear q198
                                                        try clear q2
                                                        try clear q20
                                                        try clear q200
                                                        try clear q203
                                                        try clear q205
                                                        try clear q3
                                                        try clear q31
                                                        try clear q6
                                                        try clear q67
                                                        obtain ⟨x164_8, rfl, HA, HK8, HO_13, BK178, HB⟩ := hrel
                                                        cases gk with
                                                        | zero => exact absurd HA.out (by simp [mutoscopelaw04_RecTorn.l3])
                                                        | succ k8 =>
                                                          have H := HA.out
                                                          clear HA
                                                          simp only [mutoscopelaw04_RecTorn.l3] at H
                                                          by_cases c88 : x164_8 < x18_6
                                                          · rw [if_pos c88] at H
                                                            have c88b0 : decide (x164_8 < x18_6) = true := decide_eq_true c88
                                                            clear c88
                                                            by_cases c89 : 0 ≤ x164_8
                                                            · rw [if_pos c89] at H
                                                              have c89b0 : decide (0 ≤ x164_8) = true := decide_eq_true c89
                                                              clear c89
                                                              by_cases c90 : x164_8 < (t208.length : Int)
                                                              · rw [if_pos c90] at H
                                                                have c90b0 : decide (x164_8 < (t208.length : Int)) = true := decide_eq_true c90
                                                                clear c90
                                                                by_cases c91 : x164_8 < (l0_0.length : Int)
                                                                · rw [if_pos c91] at H
                                                                  have c91b0 : decide (x164_8 < (l0_0.length : Int)) = true := decide_eq_true c91
                                                                  clear c91
                                                                  replace H := Option.bind_eq_some_iff.mp H
                                                                  obtain ⟨t215, A920, H⟩ := H
                                                                  replace H : (if t215 = true then (mutoscopelaw04_RecTorn.l3 k8 l0_0 t208 x18_6 (wrap64 (x164_8 + 1))) else (some false)) = some r := H
                                                                  have A92 := Aside0.mk A920
                                                                  clear A920
                                                                  by_cases c93 : t215 = true
                                                                  · subst c93
                                                                    have H1 : (mutoscopelaw04_RecTorn.l3 k8 l0_0 t208 x18_6 (wrap64 (x164_8 + 1))) = some r := by rw [if_pos rfl] at H; exact H
                                                                    clear H
                                                                    have H := H1
                                                                    clear H1
                                                                    have H' := Aside0.mk H
                                                                    clear H
                                                                    try go_wp2
                                                                    have n0_ := Aside0.mk (Kd.S_drew HO_13.out)
                                                                    have n1_ := Aside0.mk (blk_drew BK178.out)
                                                                    have n2_ := Aside0.mk (below_drew1 HB.out)
                                                                    clear HO_13
                                                                    clear BK178
                                                                    clear HB
                                                                    have HO_13 := n0_
                                                                    have BK178 := n1_
                                                                    have HB := n2_
                                                                    clear n0_ n1_ n2_
                                                                    obtain ⟨Ao95, co95, eo95⟩ := Kd.S_slice HO_13.out
                                                                    (first | subst eo95 | (injection eo95 with f1_ f2_ f3_; have f4_ := f1_.symm; have f5_ := f3_.symm; clear f1_ f2_ f3_; subst f4_; subst f5_))
                                                                    have p213 : 0 ≤ (x164_8 : Int) := of_decide_eq_true (by first | (with_reducible assumption) | assumption)
                                                                    have q213 : x164_8 < (t208.length : Int) := of_decide_eq_true (by first | (with_reducible assumption) | assumption)
                                                                    obtain ⟨ad213, A213_1, c213_1, e213, hx213_0, hx213_1, hl213_1, hi213_1⟩ := at_T27 (Kd.S_reads' HO_13.out).2.2 x164_8 p213 q213
                                                                    cases e213
                                                                    obtain ⟨ce213, hce213, hMe213, hcc213⟩ := Kd.S_get HO_13.out z27 x164_8 p213 (by first | exact q213 | exact of_decide_eq_true (by first | (with_reducible assumption) | assumption) | (have e_ := (Kd.S_reads' HO_13.out).1; omega))
                                                                    obtain ⟨ve213_1, rfl, ge213_1⟩ := k27_openM hMe213
                                                                    have hv213_1 := hcc213 1 _ rfl
                                                                    rw [add_field _ _ 1 (by omega)] at hv213_1
                                                                    replace hv213_1 := Option.some.inj (hv213_1.symm.trans hx213_1)
                                                                    rw [hv213_1] at ge213_1
                                                                    have HL213_1 := Aside0.mk (show Kd.R (Kd.int .u8) 5 _ _ _ _ ((rd_T27 t208 x164_8).f1) from ge213_1)
                                                                    clear hv213_1 ge213_1
                                                                    clear hcc213 hce213
                                                                    have HR213_1 := Aside0.mk hi213_1
                                                                    have HC213_1 := Aside0.mk hl213_1
                                                                    clear hi213_1 hl213_1
                                                                    replace p213 := eq_true p213
                                                                    replace q213 := eq_true q213
                                                                    have p214 : 0 ≤ (x164_8 : Int) := of_decide_eq_true (by first | (with_reducible assumption) | assumption)
                                                                    have q214 : x164_8 < (l0_0.length : Int) := of_decide_eq_true (by first | (with_reducible assumption) | assumption)
                                                                    obtain ⟨ad214, A214_1, c214_1, e214, hx214_0, hx214_1, hl214_1, hi214_1⟩ := at_T27 HR0_0.out x164_8 p214 q214
                                                                    have hw214_1 := hx214_1
                                                                    have hw214_0 := hx214_0
                                                                    cases e214
                                                                    replace hx214_0 := (HB.out.cell (World.block_lt_of_cell? w _ hx214_0)).trans hx214_0
                                                                    replace hx214_1 := (HB.out.cell (World.block_lt_of_cell? w _ hx214_1)).trans hx214_1
                                                                    have HR214_1 := Aside0.mk hi214_1
                                                                    have HC214_1 := Aside0.mk hl214_1
                                                                    clear hi214_1 hl214_1
                                                                    replace p214 := eq_true p214
                                                                    replace q214 := eq_true q214
                                                                    refine start_ (n := 10) (S := fun w' => w'.cell? (ad213.add ((x164_8).toNat * 2)) = some (.int .i64 ((rd_T27 t208 x164_8).f0)) ∧ w'.cell? ⟨(ad213.add ((x164_8).toNat * 2)).block, (ad213.add ((x164_8).toNat * 2)).off + 1, none⟩ = some (.slice A213_1 ((rd_T27 t208 x164_8).f1).length c213_1) ∧ w'.cell? (ad214.add ((x164_8).toNat * 2)) = some (.int .i64 ((rd_T27 l0_0 x164_8).f0)) ∧ w'.cell? ⟨(ad214.add ((x164_8).toNat * 2)).block, (ad214.add ((x164_8).toNat * 2)).off + 1, none⟩ = some (.slice A214_1 ((rd_T27 l0_0 x164_8).f1).length c214_1)) (ds := []) #[false, false, false, false, false, false, false, false, false, false] (by kernel_rfl) rfl rfl ⟨hx213_0, hx213_1, ((HB.out.cell (World.block_lt_of_cell? w _ hw214_0)).trans hw214_0), ((HB.out.cell (World.block_lt_of_cell? w _ hw214_1)).trans hw214_1)⟩ (fun hHeld => ?_); refine with_tabW mutoscopelaw04_RecTorn.tab41 mutoscopelaw04_RecTorn.bits41 (fun HT_ HW_ => ?_)
                                                                    generalize wr.drew = w94 at HO_13 BK178 HB HL213_1 HR213_1 HR214_1 hx213_0 hx213_1 hx214_0 hx214_1 hHeld ⊢
                                                                    refine pure_ (i := 0) (N := some 167) (v := ?_) (a' := ?_) #[true, false, false, false, false, false, false, false, false, false] rfl rfl (any_of HT_.out (by kernel_rfl)) (fun _ _ _ h => h) (Or.inl ⟨by rfl, ?_⟩) ?_ ?_
                                                                    rotate_left
                                                                    · intro w'
                                                                      go_simp
                                                                      with_reducible rfl
                                                                    rotate_left
                                                                    · simp only [Act.put, List.setIfInBounds_toArray, List.set_cons_zero, List.set_cons_succ, i64_w, i32_w]
                                                                      rfl
                                                                    refine pure_ (i := 1) (N := some 168) (v := ?_) (a' := ?_) #[true, true, false, false, false, false, false, false, false, false] rfl rfl (any_of HT_.out (by kernel_rfl)) (fun _ _ _ h => h) (Or.inl ⟨by rfl, ?_⟩) ?_ ?_
                                                                    rotate_left
                                                                    · intro w'
                                                                      go_simp
                                                                      with_reducible rfl
                                                                    rotate_left
                                                                    · simp only [Act.put, List.setIfInBounds_toArray, List.set_cons_zero, List.set_cons_succ, i64_w, i32_w]
                                                                      rfl
                                                                    refine pure_ (i := 2) (N := some 169) (v := ?_) (a' := ?_) #[true, true, true, false, false, false, false, false, false, false] rfl rfl (any_of HT_.out (by kernel_rfl)) (fun _ _ _ h => h) (Or.inl ⟨by rfl, ?_⟩) ?_ ?_
                                                                    rotate_left
                                                                    · intro w'
                                                                      go_simp
                                                                      with_reducible rfl
                                                                    rotate_left
                                                                    · simp only [Act.put, List.setIfInBounds_toArray, List.set_cons_zero, List.set_cons_succ, i64_w, i32_w]
                                                                      rfl
                                                                    refine pure_ (i := 4) (N := some 171) (v := ?_) (a' := ?_) #[true, true, true, false, true, false, false, false, false, false] rfl rfl (any_of HT_.out (by kernel_rfl)) (fun _ _ _ h => h) (Or.inl ⟨by rfl, ?_⟩) ?_ ?_
                                                                    rotate_left
                                                                    · intro w'
                                                                      go_simp
                                                                      with_reducible rfl
                                                                    rotate_left
                                                                    · simp only [Act.put, List.setIfInBounds_toArray, List.set_cons_zero, List.set_cons_succ, i64_w, i32_w]
                                                                      rfl
                                                                    refine pure_ (i := 5) (N := some 172) (v := ?_) (a' := ?_) #[true, true, true, false, true, true, false, false, false, false] rfl rfl (any_of HT_.out (by kernel_rfl)) (fun _ _ _ h => h) (Or.inl ⟨by rfl, ?_⟩) ?_ ?_
                                                                    rotate_left
                                                                    · intro w'
                                                                      go_simp
                                                                      with_reducible rfl
                                                                    rotate_left
                                                                    · simp only [Act.put, List.setIfInBounds_toArray, List.set_cons_zero, List.set_cons_succ, i64_w, i32_w]
                                                                      rfl
                                                                    refine pure_ (i := 6) (N := some 173) (v := ?_) (a' := ?_) #[true, true, true, false, true, true, true, false, false, false] rfl rfl (any_of HT_.out (by kernel_rfl)) (fun _ _ _ h => h) (Or.inl ⟨by rfl, ?_⟩) ?_ ?_
                                                                    rotate_left
                                                                    · intro w'
                                                                      go_simp
                                                                      with_reducible rfl
                                                                    rotate_left
                                                                    · simp only [Act.put, List.setIfInBounds_toArray, List.set_cons_zero, List.set_cons_succ, i64_w, i32_w]
                                                                      rfl
                                                                    refine take_ (i := 3) (N := some 170) (v := ?_) (a' := ?_) #[true, true, true, true, true, true, true, false, false, false] rfl rfl (take_ofW HT_.out HW_.out (by kernel_rfl)) (fun _ _ _ h => h) (Or.inl ⟨by rfl, ?_⟩) hHeld ?_ ?_
                                                                    rotate_left
                                                                    · rintro w' ⟨s0, s1, s2, s3⟩
                                                                      go_simp
                                                                      with_reducible rfl
                                                                    rotate_left
                                                                    · simp only [Act.put, List.setIfInBounds_toArray, List.set_cons_zero, List.set_cons_succ, i64_w, i32_w]
                                                                      rfl
                                                                    refine take_ (i := 7) (N := some 174) (v := ?_) (a' := ?_) #[true, true, true, true, true, true, true, true, false, false] rfl rfl (take_ofW HT_.out HW_.out (by kernel_rfl)) (fun _ _ _ h => h) (Or.inl ⟨by rfl, ?_⟩) hHeld ?_ ?_
                                                                    rotate_left
                                                                    · rintro w' ⟨s0, s1, s2, s3⟩
                                                                      go_simp
                                                                      with_reducible rfl
                                                                    rotate_left
                                                                    · simp only [Act.put, List.setIfInBounds_toArray, List.set_cons_zero, List.set_cons_succ, i64_w, i32_w]
                                                                      rfl
                                                                    refine one_ (i := 8) (N := some 175) #[true, true, true, true, true, true, true, true, true, false] rfl rfl (one_of HT_.out (by kernel_rfl)) (by decide) (fun K hK => ?_)
                                                                    refine goes_ Try.func22 (by kernel_rfl) rfl #[.agg #[.int .i64 ((rd_T27 t208 x164_8).f0), .slice A213_1 ((rd_T27 t208 x164_8).f1).length c213_1], .agg #[.int .i64 ((rd_T27 l0_0 x164_8).f0), .slice A214_1 ((rd_T27 l0_0 x164_8).f1).length c214_1]] (by rfl) rfl rfl (by (try simp only [List.map_toArray, List.map_cons, List.map_nil]); first | done | rfl | (simp only [List.length_drop, List.length_take]; rfl)) ?_
                                                                    with_reducible refine (rec_Equal.calls ((rd_T27 t208 x164_8).f0) _ _ ((rd_T27 t208 x164_8).f1) ((rd_T27 l0_0 x164_8).f0) _ _ ((rd_T27 l0_0 x164_8).f1) true _ ?side1 ?side2 ?side3 ?side4 A92.out).mono ?_
                                                                    (case side1 => repeat (first | exact (by repeat (first | (with_reducible exact HR213_1.out) | (with_reducible refine Kd.C_alloc ?_ _) | (with_reducible refine Kd.C_drewN ?_ _) | (with_reducible refine Kd.C_drew ?_) | exact HR213_1.out)) | (with_reducible refine Kd.C_alloc ?_ _) | (with_reducible refine Kd.C_drewN ?_ _) | (with_reducible refine Kd.C_drew ?_)))
                                                                    (case side2 => exact HC213_1.out)
                                                                    (case side3 => repeat (first | exact (Kd.C_below HR214_1.out HB.out) | (with_reducible refine Kd.C_alloc ?_ _) | (with_reducible refine Kd.C_drewN ?_ _) | (with_reducible refine Kd.C_drew ?_)))
                                                                    (case side4 => exact HC214_1.out)
                                                                    rintro e w96 ⟨rfl, hb⟩
                                                                    have HS0_ := (hb.cell (World.block_lt_of_cell? _ _ (hHeld.1))).trans (hHeld.1)
                                                                    have HS1_ := (hb.cell (World.block_lt_of_cell? _ _ (hHeld.2.1))).trans (hHeld.2.1)
                                                                    refine ⟨_, rfl, ?_⟩
                                                                    have n0_ := Aside0.mk (Kd.S_below (by (with_reducible repeat (first | apply Kd.S_alloc | apply Kd.S_drewN | apply Kd.S_drew)); exact HO_13.out) hb)
                                                                    have n1_ := Aside0.mk (Kd.R_below (by (with_reducible repeat (first | apply Kd.R_alloc | apply Kd.R_drewN | apply Kd.R_drew)); exact HL213_1.out) hb)
                                                                    have n2_ := Aside0.mk (blk_below (g := gb178) (o := .cells #[.slice (some ad214) l0_0.length c0_0, .int .i64 a0_1, .int .i64 a0_2, .int .u8 a0_3] 49 (0, 0)) (by (with_reducible repeat (first | refine blk_drewN ?_ _ | refine blk_drew ?_ | refine blk_alloc ?_ _)); exact BK178.out) hb)
                                                                    have n3_ := Aside0.mk (Kd.C_below (by repeat (first | (with_reducible exact HR213_1.out) | (with_reducible refine Kd.C_alloc ?_ _) | (with_reducible refine Kd.C_drewN ?_ _) | (with_reducible refine Kd.C_drew ?_) | exact HR213_1.out)) hb)
                                                                    have n4_ := Aside0.mk (below_step (by repeat (first | (with_reducible first | exact HB.out | apply below_alloc | apply pw_below_drewN | apply below_drew1 | refine below_set ?_ GE178.out) | exact HB.out)) hb)
                                                                    clear HO_13
                                                                    clear HL213_1
                                                                    clear BK178
                                                                    clear HR213_1
                                                                    clear HB
                                                                    have HO_13 := n0_
                                                                    have HL213_1 := n1_
                                                                    have BK178 := n2_
                                                                    have HR213_1 := n3_
                                                                    have HB := n4_
                                                                    clear n0_ n1_ n2_ n3_ n4_
                                                                    (try clear hb)
                                                                    (try clear hb2)
                                                                    (try clear hk)
                                                                    (try clear hi)
                                                                    refine hK.out _ _ ⟨HS0_, HS1_, ((HB.out.cell (World.block_lt_of_cell? w _ hw214_0)).trans hw214_0), ((HB.out.cell (World.block_lt_of_cell? w _ hw214_1)).trans hw214_1)⟩ (fun hHeld => ?_)
                                                                    clear hK K
                                                                    refine norm_ (a' := ?_) ?_ ?_
                                                                    rotate_left
                                                                    · show Act.put _ (some 175) _ = _
                                                                      simp only [Act.put, List.setIfInBounds_toArray, List.set_cons_zero, List.set_cons_succ, i64_w, i32_w]
                                                                      rfl
                                                                    refine pure_ (i := 9) (N := some 176) (v := ?_) (a' := ?_) #[true, true, true, true, true, true, true, true, true, true] rfl rfl (any_of HT_.out (by kernel_rfl)) (fun _ _ _ h => h) (Or.inl ⟨by rfl, ?_⟩) ?_ ?_
                                                                    rotate_left
                                                                    · intro w'
                                                                      go_simp
                                                                      with_reducible rfl
                                                                    rotate_left
                                                                    · simp only [Act.put, List.setIfInBounds_toArray, List.set_cons_zero, List.set_cons_succ, i64_w, i32_w]
                                                                      rfl
                                                                    refine done_ (done_of HT_.out (by kernel_rfl)) ?_
                                                                    try go_wp2
                                                                    go_roundg k8
                                                                    case measure => have := HJ4.out; have := HK2.out; have := HJ29.out; have := HK4.out; have := HJ58.out; have := HK6.out; have := HJ81.out; have := HK8.out; omega
                                                                    case rel => exact ⟨(wrap64 (x164_8 + 1)), (by first | rfl | (simp; done) | (simp [*]; done)), H', ⟨by have := HJ4.out; have := HK2.out; have := HJ29.out; have := HK4.out; have := HJ58.out; have := HK6.out; have := HJ81.out; have := HK8.out; omega⟩, ⟨by (try simp only [hl7_6]); (with_reducible repeat (first | apply Kd.S_alloc | apply Kd.S_drewN | apply Kd.S_drew)); exact HO_13.out⟩, ⟨by (try simp only [hl7_6]); (with_reducible repeat (first | refine blk_drewN ?_ _ | refine blk_drew ?_ | refine blk_alloc ?_ _)); exact BK178.out⟩, ⟨by repeat (first | (with_reducible first | exact HB.out | apply below_alloc | apply pw_below_drewN | apply below_drew1 | refine below_set ?_ GE178.out) | exact HB.out)⟩⟩
                                                                  · replace c93 := Bool.eq_false_iff.mpr c93
                                                                    subst c93
                                                                    have H1 : (some false) = some r := by rw [if_neg (show ¬ (false = true) by decide)] at H; exact H
                                                                    clear H
                                                                    have H := H1
                                                                    clear H1
                                                                    exact absurd (Option.some.inj H) (by rw [HR.out]; decide)
                                                                · rw [if_neg c91] at H
                                                                  exact absurd H (by simp)
                                                              · rw [if_neg c90] at H
                                                                exact absurd H (by simp)
                                                            · rw [if_neg c89] at H
                                                              exact absurd H (by simp)
                                                          · rw [if_neg c88] at H
                                                            have c88b0 : decide (x164_8 < x18_6) = false := decide_eq_false c88
                                                            clear c88
                                                            replace H := Option.bind_eq_some_iff.mp H
                                                            obtain ⟨t216, A1000, H⟩ := H
                                                            replace H : (some t216) = some r := H
                                                            have A100 := Aside0.mk A1000
                                                            clear A1000
                                                            obtain rfl := Option.some.inj H
                                                            go_wp2_with (first | ((with_reducible refine gate_callee (f := 16) rfl ?_); refine goesL_ (some 178) rfl rfl Try.func16 (by kernel_rfl) rfl #[] rfl (by (try simp only [List.map_toArray, List.map_cons, List.map_nil]); first | done | rfl | (simp only [List.length_drop, List.length_take]; rfl)) ?_; (with_reducible refine (mutoscopelaw04_awake.calls k8  t216 _ A100.out).mono ?_); rintro e w101 ⟨rfl, hb⟩; refine ⟨_, rfl, ?_⟩; have n0_ := Aside0.mk (Kd.S_below (by (with_reducible repeat (first | apply Kd.S_alloc | apply Kd.S_drewN | apply Kd.S_drew)); exact HO_13.out) hb); have n1_ := Aside0.mk (blk_below (g := gb178) (o := .cells #[.slice A0_0 l0_0.length c0_0, .int .i64 a0_1, .int .i64 a0_2, .int .u8 a0_3] 49 (0, 0)) (by (with_reducible repeat (first | refine blk_drewN ?_ _ | refine blk_drew ?_ | refine blk_alloc ?_ _)); exact BK178.out) hb); have n2_ := Aside0.mk (below_step (by repeat (first | (with_reducible first | exact HB.out | apply below_alloc | apply pw_below_drewN | apply below_drew1 | refine below_set ?_ GE178.out) | exact HB.out)) hb); clear HO_13; clear BK178; clear HB; have HO_13 := n0_; have BK178 := n1_; have HB := n2_; clear n0_ n1_ n2_; (try clear hb); (try clear hb2); (try clear hk); (try clear hi)))
                                                            go_ret
                                                            exact ⟨by first | rfl | (simp [errW_none, errW_some] <;> rfl) | (simp [*, errW_none, errW_some] <;> rfl), by repeat (first | (with_reducible first | exact HB.out | apply below_alloc | apply pw_below_drewN | apply below_drew1 | refine below_set ?_ GE178.out) | exact HB.out)⟩
                                        · rw [if_neg c66] at H
                                          exact absurd H (by simp)
                                      · rw [if_neg c65] at H
                                        exact absurd H (by simp)
                  · rw [if_neg c28] at H
                    exact absurd H (by simp)
                · rw [if_neg c27] at H
                  exact absurd H (by simp)
  · replace c3 := Bool.eq_false_iff.mpr c3
    subst c3
    have H1 : ((mutoscopelaw04_awake.f k).bind fun t180 => (some t180)) = some r := by rw [if_neg (show ¬ (false = true) by decide)] at H; exact H
    clear H
    have H := H1
    clear H1
    replace H := Option.bind_eq_some_iff.mp H
    obtain ⟨t180, A1020, H⟩ := H
    replace H : (some t180) = some r := H
    have A102 := Aside0.mk A1020
    clear A1020
    obtain rfl := Option.some.inj H
    go_enter Try.func6, Try.ntmps6
    try go_wp2_with (first | ((with_reducible refine gate_dst (N := 1) rfl ?_); (try (refine gate_guard (by rfl) ?_; dsimp only)); refine box_event ?hg (N := 1) ?hd (cs := #[.slice A0_0 l0_0.length c0_0, .int .i64 a0_1, .int .i64 a0_2, .int .u8 a0_3]) (t := 49) ?hr ?_; (case hd => rfl); (case hg => rfl); (case hr => first | (go_simp; done) | (go_simp; rfl)); intro gb178 hg w103 hbox hb; have n0_ := Aside0.mk (below_step (by repeat (first | (with_reducible first | exact HB.out | apply below_alloc | apply pw_below_drewN | apply below_drew1) | exact HB.out)) hb); have n1_ := Aside0.mk (hbox); have n2_ := Aside0.mk ((by rw [hg]; exact (below_size (by repeat (first | (with_reducible first | exact HB.out | apply below_alloc | apply pw_below_drewN | apply below_drew1) | exact HB.out))) : w.heap.size ≤ gb178)); have n3_ := Aside0.mk ((by rw [hg]; exact (below_size (by repeat (first | (with_reducible first | exact HB.out | apply below_alloc | apply pw_below_drewN | apply below_drew1) | exact HB.out))) : w.heap.size ≤ gb178)); clear HB; have HB := n0_; have BK178 := n1_; have GW178 := n2_; have GE178 := n3_; clear n0_ n1_ n2_ n3_; clear hb hbox hg))
    have n0_ := Aside0.mk (blk_drew BK178.out)
    have n1_ := Aside0.mk (below_drew1 HB.out)
    clear BK178
    clear HB
    have BK178 := n0_
    have HB := n1_
    clear n0_ n1_
    refine start_ (n := 12) (S := fun w' => w'.cell? ⟨gb178, 0, none⟩ = some (.slice A0_0 l0_0.length c0_0) ∧ w'.cell? ⟨gb178, 1, none⟩ = some (.int .i64 a0_1) ∧ w'.cell? ⟨gb178, 2, none⟩ = some (.int .i64 a0_2) ∧ w'.cell? ⟨gb178, 3, none⟩ = some (.int .u8 a0_3)) (ds := []) #[false, false, false, false, false, false, false, false, false, false, false, false] (by kernel_rfl) rfl rfl ⟨(blk_cell BK178.out 0).trans rfl, (blk_cell BK178.out 1).trans rfl, (blk_cell BK178.out 2).trans rfl, (blk_cell BK178.out 3).trans rfl⟩ (fun hHeld => ?_); refine with_tabW mutoscopelaw04_RecTorn.tab1 mutoscopelaw04_RecTorn.bits1 (fun HT_ HW_ => ?_)
    generalize w103.drew = w104 at BK178 HB hHeld ⊢
    refine pure_ (i := 0) (N := some 23) (v := ?_) (a' := ?_) #[true, false, false, false, false, false, false, false, false, false, false, false] rfl rfl (any_of HT_.out (by kernel_rfl)) (fun _ _ _ h => h) (Or.inl ⟨by rfl, ?_⟩) ?_ ?_
    rotate_left
    · intro w'
      go_simp
      with_reducible rfl
    rotate_left
    · simp only [Act.put, List.setIfInBounds_toArray, List.set_cons_zero, List.set_cons_succ, i64_w, i32_w]
      rfl
    refine pure_ (i := 2) (N := some 25) (v := ?_) (a' := ?_) #[true, false, true, false, false, false, false, false, false, false, false, false] rfl rfl (any_of HT_.out (by kernel_rfl)) (fun _ _ _ h => h) (Or.inl ⟨by rfl, ?_⟩) ?_ ?_
    rotate_left
    · intro w'
      go_simp
      with_reducible rfl
    rotate_left
    · simp only [Act.put, List.setIfInBounds_toArray, List.set_cons_zero, List.set_cons_succ, i64_w, i32_w]
      rfl
    refine pure_ (i := 4) (N := some 27) (v := ?_) (a' := ?_) #[true, false, true, false, true, false, false, false, false, false, false, false] rfl rfl (any_of HT_.out (by kernel_rfl)) (fun _ _ _ h => h) (Or.inl ⟨by rfl, ?_⟩) ?_ ?_
    rotate_left
    · intro w'
      go_simp
      with_reducible rfl
    rotate_left
    · simp only [Act.put, List.setIfInBounds_toArray, List.set_cons_zero, List.set_cons_succ, i64_w, i32_w]
      rfl
    refine pure_ (i := 6) (N := some 29) (v := ?_) (a' := ?_) #[true, false, true, false, true, false, true, false, false, false, false, false] rfl rfl (any_of HT_.out (by kernel_rfl)) (fun _ _ _ h => h) (Or.inl ⟨by rfl, ?_⟩) ?_ ?_
    rotate_left
    · intro w'
      go_simp
      with_reducible rfl
    rotate_left
    · simp only [Act.put, List.setIfInBounds_toArray, List.set_cons_zero, List.set_cons_succ, i64_w, i32_w]
      rfl
    refine take_ (i := 1) (N := some 24) (v := ?_) (a' := ?_) #[true, true, true, false, true, false, true, false, false, false, false, false] rfl rfl (take_ofW HT_.out HW_.out (by kernel_rfl)) (fun _ _ _ h => h) (Or.inl ⟨by rfl, ?_⟩) hHeld ?_ ?_
    rotate_left
    · rintro w' ⟨s0, s1, s2, s3⟩
      go_simp
      with_reducible rfl
    rotate_left
    · simp only [Act.put, List.setIfInBounds_toArray, List.set_cons_zero, List.set_cons_succ, i64_w, i32_w]
      rfl
    refine pure_ (i := 8) (N := some 3) (v := ?_) (a' := ?_) #[true, true, true, false, true, false, true, false, true, false, false, false] rfl rfl (any_of HT_.out (by kernel_rfl)) (fun _ _ _ h => h) (Or.inl ⟨by rfl, ?_⟩) ?_ ?_
    rotate_left
    · intro w'
      go_simp
      with_reducible rfl
    rotate_left
    · simp only [Act.put, List.setIfInBounds_toArray, List.set_cons_zero, List.set_cons_succ, i64_w, i32_w]
      rfl
    refine take_ (i := 3) (N := some 26) (v := ?_) (a' := ?_) #[true, true, true, true, true, false, true, false, true, false, false, false] rfl rfl (take_ofW HT_.out HW_.out (by kernel_rfl)) (fun _ _ _ h => h) (Or.inl ⟨by rfl, ?_⟩) hHeld ?_ ?_
    rotate_left
    · rintro w' ⟨s0, s1, s2, s3⟩
      go_simp
      with_reducible rfl
    rotate_left
    · simp only [Act.put, List.setIfInBounds_toArray, List.set_cons_zero, List.set_cons_succ, i64_w, i32_w]
      rfl
    refine pure_ (i := 9) (N := some 4) (v := ?_) (a' := ?_) #[true, true, true, true, true, false, true, false, true, true, false, false] rfl rfl (any_of HT_.out (by kernel_rfl)) (fun _ _ _ h => h) (Or.inl ⟨by rfl, ?_⟩) ?_ ?_
    rotate_left
    · intro w'
      go_simp
      with_reducible rfl
    rotate_left
    · simp only [Act.put, List.setIfInBounds_toArray, List.set_cons_zero, List.set_cons_succ, i64_w, i32_w]
      rfl
    refine take_ (i := 5) (N := some 28) (v := ?_) (a' := ?_) #[true, true, true, true, true, true, true, false, true, true, false, false] rfl rfl (take_ofW HT_.out HW_.out (by kernel_rfl)) (fun _ _ _ h => h) (Or.inl ⟨by rfl, ?_⟩) hHeld ?_ ?_
    rotate_left
    · rintro w' ⟨s0, s1, s2, s3⟩
      go_simp
      with_reducible rfl
    rotate_left
    · simp only [Act.put, List.setIfInBounds_toArray, List.set_cons_zero, List.set_cons_succ, i64_w, i32_w]
      rfl
    refine pure_ (i := 10) (N := some 5) (v := ?_) (a' := ?_) #[true, true, true, true, true, true, true, false, true, true, true, false] rfl rfl (any_of HT_.out (by kernel_rfl)) (fun _ _ _ h => h) (Or.inl ⟨by rfl, ?_⟩) ?_ ?_
    rotate_left
    · intro w'
      go_simp
      with_reducible rfl
    rotate_left
    · simp only [Act.put, List.setIfInBounds_toArray, List.set_cons_zero, List.set_cons_succ, i64_w, i32_w]
      rfl
    refine take_ (i := 7) (N := some 30) (v := ?_) (a' := ?_) #[true, true, true, true, true, true, true, true, true, true, true, false] rfl rfl (take_ofW HT_.out HW_.out (by kernel_rfl)) (fun _ _ _ h => h) (Or.inl ⟨by rfl, ?_⟩) hHeld ?_ ?_
    rotate_left
    · rintro w' ⟨s0, s1, s2, s3⟩
      go_simp
      with_reducible rfl
    rotate_left
    · simp only [Act.put, List.setIfInBounds_toArray, List.set_cons_zero, List.set_cons_succ, i64_w, i32_w]
      rfl
    refine pure_ (i := 11) (N := some 6) (v := ?_) (a' := ?_) #[true, true, true, true, true, true, true, true, true, true, true, true] rfl rfl (any_of HT_.out (by kernel_rfl)) (fun _ _ _ h => h) (Or.inl ⟨by rfl, ?_⟩) ?_ ?_
    rotate_left
    · intro w'
      go_simp
      with_reducible rfl
    rotate_left
    · simp only [Act.put, List.setIfInBounds_toArray, List.set_cons_zero, List.set_cons_succ, i64_w, i32_w]
      rfl
    refine done_ (done_of HT_.out (by kernel_rfl)) ?_
    try go_wp2_with (first | ((with_reducible refine gate_callee (f := 15) rfl ?_); refine goesL_ (some 32) rfl rfl Try.func15 (by kernel_rfl) rfl #[.slice A0_0 l0_0.length c0_0] rfl (by (try simp only [List.map_toArray, List.map_cons, List.map_nil]); first | done | rfl | (simp only [List.length_drop, List.length_take]; rfl)) ?_; (with_reducible refine (mutoscopelaw04_small.calls k _ _ l0_0 false _ ?side1 ?side2 A2.out).mono ?_); (case side1 => repeat (first | exact (Kd.C_below HR0_0.out HB.out) | (with_reducible refine Kd.C_alloc ?_ _) | (with_reducible refine Kd.C_drewN ?_ _) | (with_reducible refine Kd.C_drew ?_))); (case side2 => exact HC0_0.out); rintro e w105 ⟨rfl, hb⟩; refine ⟨_, rfl, ?_⟩; have n0_ := Aside0.mk (blk_below (g := gb178) (o := .cells #[.slice A0_0 l0_0.length c0_0, .int .i64 a0_1, .int .i64 a0_2, .int .u8 a0_3] 49 (0, 0)) (by (with_reducible repeat (first | refine blk_drewN ?_ _ | refine blk_drew ?_ | refine blk_alloc ?_ _)); exact BK178.out) hb); have n1_ := Aside0.mk (below_step (by repeat (first | (with_reducible first | exact HB.out | apply below_alloc | apply pw_below_drewN | apply below_drew1 | refine below_set ?_ GE178.out) | exact HB.out)) hb); clear BK178; clear HB; have BK178 := n0_; have HB := n1_; clear n0_ n1_; (try clear hb); (try clear hb2); (try clear hk); (try clear hi)) | ((with_reducible refine gate_callee (f := 16) rfl ?_); refine goesL_ (some 34) rfl rfl Try.func16 (by kernel_rfl) rfl #[] rfl (by (try simp only [List.map_toArray, List.map_cons, List.map_nil]); first | done | rfl | (simp only [List.length_drop, List.length_take]; rfl)) ?_; (with_reducible refine (mutoscopelaw04_awake.calls k  t180 _ A102.out).mono ?_); rintro e w106 ⟨rfl, hb⟩; refine ⟨_, rfl, ?_⟩; have n0_ := Aside0.mk (blk_below (g := gb178) (o := .cells #[.slice A0_0 l0_0.length c0_0, .int .i64 a0_1, .int .i64 a0_2, .int .u8 a0_3] 49 (0, 0)) (by (with_reducible repeat (first | refine blk_drewN ?_ _ | refine blk_drew ?_ | refine blk_alloc ?_ _)); exact BK178.out) hb); have n1_ := Aside0.mk (below_step (by repeat (first | (with_reducible first | exact HB.out | apply below_alloc | apply pw_below_drewN | apply below_drew1 | refine below_set ?_ GE178.out) | exact HB.out)) hb); clear BK178; clear HB; have BK178 := n0_; have HB := n1_; clear n0_ n1_; (try clear hb); (try clear hb2); (try clear hk); (try clear hi)))
    go_ret
    exact ⟨by first | rfl | (simp [errW_none, errW_some] <;> rfl) | (simp [*, errW_none, errW_some] <;> rfl), by repeat (first | (with_reducible first | exact HB.out | apply below_alloc | apply pw_below_drewN | apply below_drew1 | refine below_set ?_ GE178.out) | exact HB.out)⟩


end Go.Proofs.Ytcpakbppnkknlaa.QRecTorn
