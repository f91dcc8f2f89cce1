/- The closed facts of the row of PieceProgress, one by one (together they want more memory than a run may take). -/
import Derived.Test.YtmmonehfnfbpbaaGreatDoorTie
import Derived.Test.YtmmonehfnfbpbaaGreatDoorCards
import Derived.JoinedOf
import Derived.KernelRfl
namespace Go.Proofs.YtmmonehfnfbpbaaGreatDoor
open Go

set_option maxHeartbeats 8000000 in
theorem PieceProgress_closed : joinedFacts Tryz.prog 4 Tryz.f4 Rows.pieceProgressSpec Rows.pieceProgressRow = true := by
  unfold joinedFacts
  simp only [Bool.and_eq_true]
  repeat' apply And.intro
  all_goals as_aux_lemma => kernel_rfl
end Go.Proofs.YtmmonehfnfbpbaaGreatDoor
