/- The closed facts of the row of PieceStays, one by one (together they want more memory than a run may take). -/
import Derived.Test.YtmmonehfnfbpbaaGreatDoorTie
import Derived.Test.YtmmonehfnfbpbaaGreatDoorCards
import Derived.JoinedOf
import Derived.KernelRfl
namespace Go.Proofs.YtmmonehfnfbpbaaGreatDoor
open Go

set_option maxHeartbeats 8000000 in
theorem PieceStays_closed : joinedFacts Tryz.prog 5 Tryz.f5 Rows.pieceStaysSpec Rows.pieceStaysRow = true := by
  unfold joinedFacts
  simp only [Bool.and_eq_true]
  repeat' apply And.intro
  all_goals as_aux_lemma => kernel_rfl
end Go.Proofs.YtmmonehfnfbpbaaGreatDoor
