/- Written for this claim -/
import Derived.Test.YtalnfojlmkebnaaPixC
namespace Go.Proofs.Ytalnfojlmkebnaa.AI
open Go Go.RowKit
set_option linter.all false
open Go.IntWalk
set_option maxRecDepth 100000
theorem t3 (a b c d n : Int) : run S2 3 [.agg [.s (.int .i64 a), .s (.int .i64 b), .s (.int .i64 c), .s (.int .i64 d)], u32 n] = bif (!ofB a b c d == rtB a b c d) == false then bif (!ofB a b c d) == true then bif (ofV a b c d != 0) == false then bif ofB a b c d == true then bif inB a && inB b && inB c && inB d then bif ofV a b c d != num a b c d then some (SV.v (AV.c (AC.s (Value.bool false))), []) else bif inU n then bif inU n then bif (n / 16777216 == n / 16777216 && (n / 65536 % 256 == n / 65536 % 256 && (n / 256 % 256 == n / 256 % 256 && n % 256 == n % 256))) == true then bif inU n then bif (rtB (n / 16777216) (n / 65536 % 256) (n / 256 % 256) (n % 256) == rtB (n / 16777216) (n / 65536 % 256) (n / 256 % 256) (n % 256)) == true then some (SV.v (AV.c (AC.s (Value.bool true))), []) else some (SV.v (AV.c (AC.s (Value.bool false))), []) else none else some (SV.v (AV.c (AC.s (Value.bool false))), []) else none else none else none else bif inU n then bif inU n then bif (n / 16777216 == n / 16777216 && (n / 65536 % 256 == n / 65536 % 256 && (n / 256 % 256 == n / 256 % 256 && n % 256 == n % 256))) == true then bif inU n then bif (rtB (n / 16777216) (n / 65536 % 256) (n / 256 % 256) (n % 256) == rtB (n / 16777216) (n / 65536 % 256) (n / 256 % 256) (n % 256)) == true then some (SV.v (AV.c (AC.s (Value.bool true))), []) else some (SV.v (AV.c (AC.s (Value.bool false))), []) else none else some (SV.v (AV.c (AC.s (Value.bool false))), []) else none else none else none else bif ofB a b c d == true then bif inB a && inB b && inB c && inB d then bif ofV a b c d != num a b c d then some (SV.v (AV.c (AC.s (Value.bool false))), []) else bif inU n then bif inU n then bif (n / 16777216 == n / 16777216 && (n / 65536 % 256 == n / 65536 % 256 && (n / 256 % 256 == n / 256 % 256 && n % 256 == n % 256))) == true then bif inU n then bif (rtB (n / 16777216) (n / 65536 % 256) (n / 256 % 256) (n % 256) == rtB (n / 16777216) (n / 65536 % 256) (n / 256 % 256) (n % 256)) == true then some (SV.v (AV.c (AC.s (Value.bool true))), []) else some (SV.v (AV.c (AC.s (Value.bool false))), []) else none else some (SV.v (AV.c (AC.s (Value.bool false))), []) else none else none else none else bif inU n then bif inU n then bif (n / 16777216 == n / 16777216 && (n / 65536 % 256 == n / 65536 % 256 && (n / 256 % 256 == n / 256 % 256 && n % 256 == n % 256))) == true then bif inU n then bif (rtB (n / 16777216) (n / 65536 % 256) (n / 256 % 256) (n % 256) == rtB (n / 16777216) (n / 65536 % 256) (n / 256 % 256) (n % 256)) == true then some (SV.v (AV.c (AC.s (Value.bool true))), []) else some (SV.v (AV.c (AC.s (Value.bool false))), []) else none else some (SV.v (AV.c (AC.s (Value.bool false))), []) else none else none else none := by kernel_rfl
theorem ofB_rtB (r g b a : Int) : ofB r g b a = rtB r g b a := by
  simp only [ofB, rtB, decide_eq_decide]; omega
theorem l3 (a b c d n : Int) (hn : inU n = true) : run S2 3 [.agg [.s (.int .i64 a), .s (.int .i64 b), .s (.int .i64 c), .s (.int .i64 d)], u32 n] = some tt := by
  rw [t3, ← ofB_rtB a b c d]
  cases h : ofB a b c d
  · simp [h, hn, ofV]
  · have h' := h
    simp only [ofB, decide_eq_true_eq] at h'
    have h1 : inB a = true := inB_iff.2 (by omega)
    have h2 : inB b = true := inB_iff.2 (by omega)
    have h3 : inB c = true := inB_iff.2 (by omega)
    have h4 : inB d = true := inB_iff.2 (by omega)
    simp [h, hn, ofV, h1, h2, h3, h4]
theorem one_of {l : List PC} {v : PC} {d t : Nat} (h : (l.drop d).take t = [v]) : l[d]? = some v := by
  have := congrArg (·[0]?) h
  by_cases ht : t = 0
  · subst ht; simp at h
  · rw [List.getElem?_take_of_lt (by omega), List.getElem?_drop] at this
    simpa using this
theorem four_of {α : Type} {l : List α} {a b c d : α} (hl : l.length = 4) (h0 : l[0]? = some a) (h1 : l[1]? = some b) (h2 : l[2]? = some c) (h3 : l[3]? = some d) : l = [a, b, c, d] := by
  match l, hl with
  | [x, y, z, w], _ => simp at h0 h1 h2 h3; simp [h0, h1, h2, h3]
theorem u32_wf {n : Int} (h : (Lit.int .u32 n).wf = true) : 0 ≤ n ∧ n < 4294967296 := by
  simp only [Lit.wf, Bool.and_eq_true, decide_eq_true_eq] at h
  have e1 : IntKind.u32.min = 0 := by decide +kernel
  have e2 : IntKind.u32.max = 4294967295 := by decide +kernel
  omega
theorem lawPixelParts (s0 s1 : List PC) (h0 : Sh Try.prog 7 22 s0) (h1 : Sh Try.prog 7 23 s1) : ∃ B, Snd Try.prog 3 [argAV Try.prog 22 s0, argAV Try.prog 23 s1] (.v (.c (.s (.bool true))), B) := by
  obtain ⟨hl, hs⟩ := sh_array Try.underlying22 h0
  obtain ⟨n, rfl, hn⟩ := sh_int Try.underlying23 h1
  have e3 : Try.prog.cellsOf 3 = 1 := by kernel_rfl
  have e22 : Try.prog.cellsOf 22 = 4 := by kernel_rfl
  rw [e3] at hs
  rw [e22] at hl
  obtain ⟨a, ha, _⟩ := sh_int Try.underlying3 (hs 0 (by omega))
  obtain ⟨b, hb, _⟩ := sh_int Try.underlying3 (hs 1 (by omega))
  obtain ⟨c, hc, _⟩ := sh_int Try.underlying3 (hs 2 (by omega))
  obtain ⟨d, hd, _⟩ := sh_int Try.underlying3 (hs 3 (by omega))
  obtain rfl := four_of hl (one_of ha) (one_of hb) (one_of hc) (one_of hd)
  rw [arg_agg (by kernel_rfl), arg_one (by kernel_rfl)]
  exact ⟨_, run_ok S2_ok (l3 a b c d n (inU_iff.2 (u32_wf hn)))⟩
end Go.Proofs.Ytalnfojlmkebnaa.AI
