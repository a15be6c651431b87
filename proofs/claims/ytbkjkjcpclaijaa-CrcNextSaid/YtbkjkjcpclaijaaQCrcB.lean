-- Written for this claim by a program of this session (wip/tools/mprint.sh)
import Derived.Test.YtbkjkjcpclaijaaQCrcA
import Derived.Lib.SlBytesConst
import Derived.Lib.SmallJoins
namespace Go.Proofs.Ytbkjkjcpclaijaa.QCrc
open Go.RowKit Go.Proofs.YtbkjkjcpclaijaaW.PrintWords Go.Proofs.YtbkjkjcpclaijaaW.PrintLast Go.Proofs.YtbkjkjcpclaijaaW.PrintMore
attribute [local go_sem] max2_int min2_int max_two min_two max_three min_three max_four min_four   -- for this text's walks alone
set_option linter.unusedVariables false
set_option linter.unusedSimpArgs false

/-! ### mutoscopelaw01_awake: function 15 -/
def mutoscopelaw01_awake.f (k : Nat)  : Option (Bool) := (crc_Sum.f k (([(([49, 50, 51, 52, 53, 54, 55, 56, 57] : List Int))] : List (List Int)))).bind fun t113 => (if t113 = 3421780262 then ((crc_Sum.f k ([] : List (List Int))).bind fun t114 => (if t114 = 0 then ((crc_Next.f k 0 49).bind fun t115 => ((crc_Sum.f k (([(([49] : List Int))] : List (List Int)))).bind fun t122 => (some (t115 == t122)))) else (some false))) else (some false))
theorem mutoscopelaw01_awake.mono : ∀ k, LeO (mutoscopelaw01_awake.f k ) (mutoscopelaw01_awake.f (k + 1) ) := by
  intro  k
  unfold mutoscopelaw01_awake.f
  repeat' first
      | (with_reducible exact crc_Next.mono _ _ _)
      | (with_reducible exact crc_Sum.mono _ _)
      | (with_reducible exact LeO.refl _)
      | (with_reducible exact LeO.none _)
      | (with_reducible refine LeO.ite ?_ ?_)
      | (with_reducible refine LeO.bind ?_ (fun _ => ?_))
      | exact crc_Next.mono _ _ _
      | exact crc_Sum.mono _ _
      | exact LeO.none _
      | refine LeO.ite ?_ ?_
      | refine LeO.bind ?_ (fun _ => ?_)
/-! Rows that are read off a known block. -/
theorem heap_new (W : World) (o : Obj) : (W.alloc o).heap[W.heap.size]? = some o := by
  show (W.heap.push o)[W.heap.size]? = _
  simp
theorem heap_at {W : World} {b : Nat} (o : Obj) (h : b = W.heap.size) : (W.alloc o).heap[b]? = some o := h ▸ heap_new W o
theorem heap_old {W : World} {i : Nat} {x : Obj} (h : W.heap[i]? = some x) (o : Obj) : (W.alloc o).heap[i]? = some x := by
  have hlt : i < W.heap.size := (Array.getElem?_eq_some_iff.1 h).1
  show (W.heap.push o)[i]? = _
  rw [Array.getElem?_push, if_neg (by omega)]
  exact h
theorem heap_drewN {W : World} {i : Nat} {x : Obj} (h : W.heap[i]? = some x) (n : Nat) : (W.drewN n).heap[i]? = some x := h
theorem cell_block {W : World} {b j : Nat} {C : Array Value} {e : TypeId} {fr : Nat × Nat} {v : Value} (h : W.heap[b]? = some (.cells C e fr)) (hv : C[j]? = some v) : W.cell? ⟨b, j, none⟩ = some v := by
  unfold World.cell?
  simp only [h, hv]
  rfl
/-- A row of integers in a known block. -/
theorem C_ints {W : World} {b : Nat} {C : Array Value} {e : TypeId} {fr : Nat × Nat} {k : IntKind} {xs : List Int} (h : W.heap[b]? = some (.cells C e fr)) (hC : C.toList = xs.map (Value.int k)) (hl : xs.length ≤ 9223372036854775807) :
    Kd.C (Kd.int k) W (some ⟨b, 0, none⟩) xs.length xs := by
  refine ⟨rfl, hl, fun _ => ⟨_, rfl, fun j p hj => ⟨[.int k p], rfl, rfl, fun i u hi => ?_⟩⟩⟩
  have hi0 : i = 0 ∧ u = .int k p := by
    rcases i with _ | i
    · simp at hi; exact ⟨rfl, hi.symm⟩
    · simp at hi
  obtain ⟨rfl, rfl⟩ := hi0
  have : C[j]? = some (.int k p) := by
    rw [← Array.getElem?_toList, hC, List.getElem?_map, hj]; rfl
  show W.cell? ((⟨b, 0, none⟩ : Addr).add (j * 1 + 0)) = _
  have e1 : (⟨b, 0, none⟩ : Addr).add (j * 1 + 0) = ⟨b, j, none⟩ := by simp [Addr.add]; omega
  rw [e1]
  exact cell_block h this
/-- A row of rows of integers in a known block: each of the block's cells is a row that is read. -/
theorem C_rows {W : World} {b e' : Nat} {C : Array Value} {e : TypeId} {fr : Nat × Nat} {k : IntKind} {xs : List (List Int)} (h : W.heap[b]? = some (.cells C e fr)) (hl : xs.length ≤ 9223372036854775807)
    (hC : ∀ (j : Nat) (x : List Int), xs[j]? = some x → ∃ (A : Option Addr) (c : Nat), C[j]? = some (.slice A x.length c) ∧ x.length ≤ c ∧ Kd.C (Kd.int k) W A x.length x) :
    Kd.C (Kd.slice e' (Kd.int k)) W (some ⟨b, 0, none⟩) xs.length xs := by
  refine ⟨rfl, hl, fun _ => ⟨_, rfl, fun j p hj => ?_⟩⟩
  obtain ⟨A, c, hc, hlc, hr⟩ := hC j p hj
  refine ⟨[.slice A p.length c], rfl, ⟨A, c, rfl, hlc, hr⟩, fun i u hi => ?_⟩
  have hi0 : i = 0 ∧ u = .slice A p.length c := by
    rcases i with _ | i
    · simp at hi; exact ⟨rfl, hi.symm⟩
    · simp at hi
  obtain ⟨rfl, rfl⟩ := hi0
  show W.cell? ((⟨b, 0, none⟩ : Addr).add (j * 1 + 0)) = _
  have e1 : (⟨b, 0, none⟩ : Addr).add (j * 1 + 0) = ⟨b, j, none⟩ := by simp [Addr.add]; omega
  rw [e1]
  exact cell_block h hc
theorem row_one {W : World} {C : Array Value} {k : IntKind} {x : List Int} {A : Option Addr} {c : Nat} (hC : C = #[.slice A x.length c]) (hc : x.length ≤ c) (hr : Kd.C (Kd.int k) W A x.length x) :
    ∀ (j : Nat) (y : List Int), [x][j]? = some y → ∃ (A : Option Addr) (c : Nat), C[j]? = some (.slice A y.length c) ∧ y.length ≤ c ∧ Kd.C (Kd.int k) W A y.length y := by
  intro j y hj
  rcases j with _ | j
  · simp at hj; subst hj; subst hC; exact ⟨A, c, rfl, hc, hr⟩
  · simp at hj
/-- The fixed answer. -/
theorem awake_sum9 : ∃ k, crc_Sum.f k [[49, 50, 51, 52, 53, 54, 55, 56, 57]] = some 3421780262 := ⟨30, by decide +kernel⟩
theorem awake_sum0 : ∃ k, crc_Sum.f k [] = some 0 := ⟨30, by decide +kernel⟩
theorem awake_next : ∃ k, crc_Next.f k 0 49 = some 2212294583 := ⟨30, by decide +kernel⟩
theorem awake_sum1 : ∃ k, crc_Sum.f k [[49]] = some 2212294583 := ⟨30, by decide +kernel⟩
set_option maxHeartbeats 8000000 in
set_option maxRecDepth 100000 in
theorem awake_calls (w : World) :
    Calls Try.prog 15 #[] w fun e w' => e = .returned (.bool true) ∧ Below w.heap.size w w' := by
  obtain ⟨k1, h1⟩ := awake_sum9
  obtain ⟨k2, h2⟩ := awake_sum0
  obtain ⟨k3, h3⟩ := awake_next
  obtain ⟨k4, h4⟩ := awake_sum1
  have H1 := Aside0.mk h1
  have H2 := Aside0.mk h2
  have H3 := Aside0.mk h3
  have H4 := Aside0.mk h4
  clear h1 h2 h3 h4
  have kc := fun (w : World) (C : Array Value) (n c : Nat) => Lib.run_convert_bytes_const (P := Try.prog) w 22 5 C n c Try.underlying22 Try.underlying5
  go_enter Try.func15, Try.ntmps15
  go_wp2_with (fail)
  refine (crc_Sum.calls k1 _ _ [[49, 50, 51, 52, 53, 54, 55, 56, 57]] _ _ ?a1 ?a2 H1.out).mono ?_
  case a1 => exact C_rows (heap_at _ (by simp)) (by simp) (row_one rfl (by simp) (C_ints (heap_old (heap_at _ rfl) _) rfl (by simp)))
  case a2 => exact Nat.le_refl _
  rintro e w' ⟨rfl, ⟨nd1, rfl⟩⟩
  go_wp2_with (fail)
  refine (crc_Sum.calls k2 _ _ [] _ _ (Kd.C_nil _ _) (Nat.le_refl _) H2.out).mono ?_
  rintro e w' ⟨rfl, ⟨nd2, rfl⟩⟩
  go_wp2_with (fail)
  refine (crc_Next.calls k3 _ _ _ _ H3.out).mono ?_
  rintro e w' ⟨rfl, ⟨nd3, rfl⟩⟩
  go_wp2_with (fail)
  rw [Go.Joins.run_convert_bytes_const_at (P := Try.prog) _ 22 5 _ 1 1 _ (by simp) Try.underlying22 Try.underlying5]
  go_wp2_with (fail)
  refine (crc_Sum.calls k4 _ _ [[49]] _ _ ?a3 ?a4 H4.out).mono ?_
  case a3 => exact C_rows (heap_at _ (by simp)) (by simp) (row_one rfl (by simp) (C_ints (heap_old (heap_at _ (by simp)) _) rfl (by simp)))
  case a4 => exact Nat.le_refl _
  rintro e w' ⟨rfl, ⟨nd4, rfl⟩⟩
  go_wp2_with (fail)
  go_ret
  exact ⟨rfl, by repeat (first | exact Below.refl _ _ | apply below_alloc | apply pw_below_drewN)⟩
theorem mutoscopelaw01_awake.calls (k : Nat) (r : Bool) (w : World) (h : mutoscopelaw01_awake.f k = some r) :
    Calls Try.prog 15 #[] w fun e w' => e = .returned (.bool r) ∧ Below w.heap.size w w' := by
  have h1 : mutoscopelaw01_awake.f (k + 30) = some true := at_rounds mutoscopelaw01_awake.mono (k := 30) (by omega) (by decide +kernel)
  have h2 : mutoscopelaw01_awake.f (k + 30) = some r := at_rounds mutoscopelaw01_awake.mono (by omega) h
  rw [h1] at h2
  injection h2 with h2
  subst h2
  exact awake_calls w

end Go.Proofs.Ytbkjkjcpclaijaa.QCrc
