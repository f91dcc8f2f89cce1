/- The closed facts of the row of EncodeDiffers, one by one (together they want more memory than a run may take). -/
import Derived.Test.YticphebaflnedaaGreatDoorTie
import Derived.Test.YticphebaflnedaaGreatDoorCards
import Derived.JoinedOf
import Derived.KernelRfl
namespace Go.Proofs.YticphebaflnedaaGreatDoor
open Go

set_option maxHeartbeats 8000000 in
theorem EncodeDiffers_closed : joinedFacts Tryz.prog 4 Tryz.f4 Rows.encodeDiffersSpec Rows.encodeDiffersRow = true := by
  unfold joinedFacts
  simp only [Bool.and_eq_true]
  repeat' apply And.intro
  all_goals as_aux_lemma => kernel_rfl
end Go.Proofs.YticphebaflnedaaGreatDoor
