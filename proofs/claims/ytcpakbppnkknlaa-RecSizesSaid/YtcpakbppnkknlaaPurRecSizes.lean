/- The plain law of RecSizes: Size gives the encoded size for any data length. -/
import Derived.Test.YtcpakbppnkknlaaQRecSizesc
import Derived.Laws.BitsLemmas
namespace Go.Proofs.Ytcpakbppnkknlaa.PureRecSizes
open Go Go.RowKit Go.Proofs.Ytcpakbppnkknlaa.QRecSizes Go.Proofs.YtcpakbppnkknlaaW.PrintWords Go.Proofs.YtcpakbppnkknlaaW.PrintLast Go.Proofs.YtcpakbppnkknlaaW.PrintMore
theorem wrap_in {n : Int} (h : -9223372036854775808 ≤ n) (h' : n ≤ 9223372036854775807) : wrap64 n = n := by unfold wrap64; omega
theorem RecSizes (a0 : Int) : ∃ k, mutoscopelaw04_RecSizes.f k a0 = some true := by
  refine ⟨1, ?_⟩
  have hj : mutoscopelaw04_RecSizes.j0 1 a0 0 true = some true := by
    simp only [mutoscopelaw04_RecSizes.j0]; rw [if_pos trivial, if_pos trivial]; rfl
  unfold mutoscopelaw04_RecSizes.f rec_Size.f
  by_cases h1 : a0 < 0
  · rw [if_pos h1, Option.bind_some, if_pos h1]; exact hj
  · rw [if_neg h1]
    by_cases h2 : a0 > 1048576
    · rw [if_pos h2, Option.bind_some, if_neg h1, decide_eq_true h2]; exact hj
    · rw [if_neg h2, Option.bind_some, if_neg h1, decide_eq_false h2]
      simp only [mutoscopelaw04_RecSizes.j0]
      rw [if_neg (by simp), wrap_in (n := 7 + a0) (by omega) (by omega), wrap_in (n := 7 + a0 + 4) (by omega) (by omega), wrap_in (n := a0 + 11) (by omega) (by omega), if_pos (by omega)]
      rfl

end Go.Proofs.Ytcpakbppnkknlaa.PureRecSizes
