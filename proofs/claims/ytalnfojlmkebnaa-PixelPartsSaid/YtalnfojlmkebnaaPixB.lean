/- Written for this claim -/
import Derived.Test.YtalnfojlmkebnaaAIJ
namespace Go.Proofs.Ytalnfojlmkebnaa.AI
open Go Go.RowKit
set_option linter.all false
open Go.IntWalk
set_option maxRecDepth 100000
def F21 : List AV → List (Bool × Out) := fun args => match args with | [] => [(true, tt)] | _ => []
theorem t21 : run (look []) 21 [] = some tt := by kernel_rfl
theorem f21 (args : List AV) (o : Out) (h : alts (F21 args) some = some o) : Snd Try.prog 21 args o := by
  unfold F21 at h
  split at h
  · obtain ⟨_, rfl⟩ := alts_one h; exact run_ok look_nil t21
  · cases h
def S1 : Spec := look [(21, F21)]
theorem S1_ok : SpecOk Try.prog S1 := look_cons f21 look_nil
theorem t4 (p q : Int) : run S1 4 [int p, int q] = bif decide (p < 0) == false then bif decide (p > 255) == false then bif decide (q < 0) == false then bif decide (q > 255) then some (SV.v (AV.c (AC.s (Value.bool true))), []) else bif decide (IntKind.i64.wrap (2 * IntKind.i64.wrap (IntKind.i64.wrap (p * q) - IntKind.i64.wrap (255 * IntKind.i64.wrap ((IntKind.i64.wrap (p * q)).tdiv 255)))) > 255) then bif ((IntKind.i64.wrap (IntKind.i64.wrap (IntKind.i64.wrap (IntKind.i64.wrap (p * q) + 127) + 1) + (IntKind.i64.wrap (IntKind.i64.wrap (IntKind.i64.wrap (p * q) + 127) + 1)).fdiv 256)).fdiv 256 == IntKind.i64.wrap (IntKind.i64.wrap ((IntKind.i64.wrap (p * q)).tdiv 255) + 1)) == true then bif ((IntKind.i64.wrap (IntKind.i64.wrap (IntKind.i64.wrap (IntKind.i64.wrap (q * p) + 127) + 1) + (IntKind.i64.wrap (IntKind.i64.wrap (IntKind.i64.wrap (q * p) + 127) + 1)).fdiv 256)).fdiv 256 == (IntKind.i64.wrap (IntKind.i64.wrap (IntKind.i64.wrap (IntKind.i64.wrap (p * q) + 127) + 1) + (IntKind.i64.wrap (IntKind.i64.wrap (IntKind.i64.wrap (p * q) + 127) + 1)).fdiv 256)).fdiv 256) == true then bif ((IntKind.i64.wrap (IntKind.i64.wrap (IntKind.i64.wrap (IntKind.i64.wrap (p * 255) + 127) + 1) + (IntKind.i64.wrap (IntKind.i64.wrap (IntKind.i64.wrap (p * 255) + 127) + 1)).fdiv 256)).fdiv 256 == p) == true then bif ((IntKind.i64.wrap (IntKind.i64.wrap (IntKind.i64.wrap (IntKind.i64.wrap (p * 0) + 127) + 1) + (IntKind.i64.wrap (IntKind.i64.wrap (IntKind.i64.wrap (p * 0) + 127) + 1)).fdiv 256)).fdiv 256 == 0) == true then some (SV.v (AV.c (AC.s (Value.bool true))), []) else some (SV.v (AV.c (AC.s (Value.bool false))), []) else some (SV.v (AV.c (AC.s (Value.bool false))), []) else some (SV.v (AV.c (AC.s (Value.bool false))), []) else some (SV.v (AV.c (AC.s (Value.bool false))), []) else bif ((IntKind.i64.wrap (IntKind.i64.wrap (IntKind.i64.wrap (IntKind.i64.wrap (p * q) + 127) + 1) + (IntKind.i64.wrap (IntKind.i64.wrap (IntKind.i64.wrap (p * q) + 127) + 1)).fdiv 256)).fdiv 256 == IntKind.i64.wrap ((IntKind.i64.wrap (p * q)).tdiv 255)) == true then bif ((IntKind.i64.wrap (IntKind.i64.wrap (IntKind.i64.wrap (IntKind.i64.wrap (q * p) + 127) + 1) + (IntKind.i64.wrap (IntKind.i64.wrap (IntKind.i64.wrap (q * p) + 127) + 1)).fdiv 256)).fdiv 256 == (IntKind.i64.wrap (IntKind.i64.wrap (IntKind.i64.wrap (IntKind.i64.wrap (p * q) + 127) + 1) + (IntKind.i64.wrap (IntKind.i64.wrap (IntKind.i64.wrap (p * q) + 127) + 1)).fdiv 256)).fdiv 256) == true then bif ((IntKind.i64.wrap (IntKind.i64.wrap (IntKind.i64.wrap (IntKind.i64.wrap (p * 255) + 127) + 1) + (IntKind.i64.wrap (IntKind.i64.wrap (IntKind.i64.wrap (p * 255) + 127) + 1)).fdiv 256)).fdiv 256 == p) == true then bif ((IntKind.i64.wrap (IntKind.i64.wrap (IntKind.i64.wrap (IntKind.i64.wrap (p * 0) + 127) + 1) + (IntKind.i64.wrap (IntKind.i64.wrap (IntKind.i64.wrap (p * 0) + 127) + 1)).fdiv 256)).fdiv 256 == 0) == true then some (SV.v (AV.c (AC.s (Value.bool true))), []) else some (SV.v (AV.c (AC.s (Value.bool false))), []) else some (SV.v (AV.c (AC.s (Value.bool false))), []) else some (SV.v (AV.c (AC.s (Value.bool false))), []) else some (SV.v (AV.c (AC.s (Value.bool false))), []) else some (SV.v (AV.c (AC.s (Value.bool true))), []) else some (SV.v (AV.c (AC.s (Value.bool true))), []) else some (SV.v (AV.c (AC.s (Value.bool true))), []) := by kernel_rfl
theorem by_key (n : Int) (h0 : 0 ≤ n) (h1 : n ≤ 65025) : (n + 127 + 1 + (n + 127 + 1) / 256) / 256 = if 2 * (n - 255 * (n / 255)) > 255 then n / 255 + 1 else n / 255 := by
  split <;> omega
theorem by_raw (n : Int) (h0 : 0 ≤ n) (h1 : n ≤ 65025) : (IntKind.i64.wrap (IntKind.i64.wrap (IntKind.i64.wrap (IntKind.i64.wrap n + 127) + 1) + (IntKind.i64.wrap (IntKind.i64.wrap (IntKind.i64.wrap n + 127) + 1)).fdiv 256)).fdiv 256 = (n + 127 + 1 + (n + 127 + 1) / 256) / 256 := by
  have e1 : IntKind.i64.wrap n = n := i64_in n (by omega)
  have e2 : IntKind.i64.wrap (n + 127) = n + 127 := i64_in _ (by omega)
  have e3 : IntKind.i64.wrap (n + 127 + 1) = n + 127 + 1 := i64_in _ (by omega)
  rw [e1, e2, e3, Int.fdiv_eq_ediv_of_nonneg (n + 127 + 1) (by omega)]
  have e4 : IntKind.i64.wrap (n + 127 + 1 + (n + 127 + 1) / 256) = n + 127 + 1 + (n + 127 + 1) / 256 := i64_in _ (by omega)
  rw [e4, Int.fdiv_eq_ediv_of_nonneg _ (by omega)]
theorem mul_le {p q : Int} (hp : 0 ≤ p ∧ p ≤ 255) (hq : 0 ≤ q ∧ q ≤ 255) : 0 ≤ p * q ∧ p * q ≤ 65025 := by
  refine ⟨Int.mul_nonneg hp.1 hq.1, ?_⟩
  have := Int.mul_le_mul hp.2 hq.2 hq.1 (by omega : (0 : Int) ≤ 255)
  omega
theorem l4 (p q : Int) : run S1 4 [int p, int q] = some tt := by
  rw [t4]
  by_cases h1 : p < 0
  · simp [h1]
  by_cases h2 : p > 255
  · simp [h1, h2]
  by_cases h3 : q < 0
  · simp [h1, h2, h3]
  by_cases h4 : q > 255
  · simp [h1, h2, h3, h4]
  obtain ⟨b0, b1⟩ := mul_le (p := p) (q := q) (by omega) (by omega)
  have k1 := by_raw (p * q) b0 b1
  have k3 := by_raw (p * 255) (by omega) (by omega)
  have k4 := by_raw (p * 0) (by omega) (by omega)
  rw [by_key _ (by omega) (by omega)] at k1 k3 k4
  rw [Int.mul_comm q p]
  generalize p * q = n at *
  have e1 : IntKind.i64.wrap n = n := i64_in n (by omega)
  have e2 : n.tdiv 255 = n / 255 := Int.tdiv_eq_ediv_of_nonneg b0
  have e3 : IntKind.i64.wrap (n / 255) = n / 255 := i64_in _ (by omega)
  have e4 : IntKind.i64.wrap (255 * (n / 255)) = 255 * (n / 255) := i64_in _ (by omega)
  have e5 : IntKind.i64.wrap (n - 255 * (n / 255)) = n - 255 * (n / 255) := i64_in _ (by omega)
  have e6 : IntKind.i64.wrap (2 * (n - 255 * (n / 255))) = 2 * (n - 255 * (n / 255)) := i64_in _ (by omega)
  have e7 : IntKind.i64.wrap (n / 255 + 1) = n / 255 + 1 := i64_in _ (by omega)
  have k3' : (if 2 * (p * 255 - 255 * (p * 255 / 255)) > 255 then p * 255 / 255 + 1 else p * 255 / 255) = p := by split <;> omega
  have k4' : (if 2 * (p * 0 - 255 * (p * 0 / 255)) > 255 then p * 0 / 255 + 1 else p * 0 / 255) = 0 := by split <;> omega
  rw [k1, k3, k4, k3', k4', e1, e2, e3, e4, e5, e6, e7]
  by_cases h5 : 2 * (n - 255 * (n / 255)) > 255 <;> simp [h1, h2, h3, h4, h5]
theorem lawPixelBys (s0 s1 : List PC) (h0 : Sh Try.prog 7 3 s0) (h1 : Sh Try.prog 7 3 s1) : ∃ B, Snd Try.prog 4 [argAV Try.prog 3 s0, argAV Try.prog 3 s1] (.v (.c (.s (.bool true))), B) := by
  obtain ⟨p, rfl, _⟩ := sh_int Try.underlying3 h0
  obtain ⟨q, rfl, _⟩ := sh_int Try.underlying3 h1
  rw [arg_one (by kernel_rfl), arg_one (by kernel_rfl)]
  exact ⟨_, run_ok S1_ok (l4 p q)⟩
end Go.Proofs.Ytalnfojlmkebnaa.AI
