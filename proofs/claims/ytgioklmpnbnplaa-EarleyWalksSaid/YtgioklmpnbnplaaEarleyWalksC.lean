/- The closed facts of the row EarleyWalks, reckoned by the kernel. Conditions: none. -/
import Derived.Test.YtgioklmpnbnplaaRows
import Derived.WalkKit
import Derived.ProofKit
import Derived.OpenShut
namespace Go.Proofs.Ytgioklmpnbnplaa.earleyWalks
set_option maxHeartbeats 0 in
theorem closed : joinedFacts Try.pinned.checked.prog 8 Try.f8 Rows.earleyWalksSpec Rows.earleyWalksRow = true := by
  unfold joinedFacts
  simp only [Bool.and_eq_true]
  repeat' apply And.intro
  all_goals (as_aux_lemma => kernel_rfl)
end Go.Proofs.Ytgioklmpnbnplaa.earleyWalks
