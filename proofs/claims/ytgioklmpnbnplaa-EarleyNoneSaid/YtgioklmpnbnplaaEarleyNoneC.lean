/- The closed facts of the row EarleyNone, reckoned by the kernel. Conditions: none. -/
import Derived.Test.YtgioklmpnbnplaaRows
import Derived.WalkKit
import Derived.ProofKit
import Derived.OpenShut
namespace Go.Proofs.Ytgioklmpnbnplaa.earleyNone
set_option maxHeartbeats 0 in
theorem closed : joinedFacts Try.pinned.checked.prog 9 Try.f9 Rows.earleyNoneSpec Rows.earleyNoneRow = true := by
  unfold joinedFacts
  simp only [Bool.and_eq_true]
  repeat' apply And.intro
  all_goals (as_aux_lemma => kernel_rfl)
end Go.Proofs.Ytgioklmpnbnplaa.earleyNone
