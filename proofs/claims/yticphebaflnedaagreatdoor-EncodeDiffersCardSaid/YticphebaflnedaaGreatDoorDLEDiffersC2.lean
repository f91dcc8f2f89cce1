/- The closed facts of the card of EncodeDiffers, one by one. -/
import Derived.Test.YticphebaflnedaaGreatDoorTie
import Derived.Test.YticphebaflnedaaGreatDoorCards
import Derived.SevenTiedAt
import Derived.JoinedOf
import Derived.KernelRfl
namespace Go.Proofs.YticphebaflnedaaGreatDoor
open Go

theorem EncodeDiffers_wft : Rows.encodeDiffersRow.wfByText (OpenSpec.ofChange Rows.encodeDiffersSpec) = true := by kernel_rfl
theorem EncodeDiffers_main : Tryz.pinned.checked.prog.mainIs = some ("1bbaecd7858a41279382c4170c5d9ed6c5e863eaa616a6caf21a598e2bb8aeec" |> fun s => (true, s.toList)) := by kernel_rfl
theorem EncodeDiffers_named : Tryz.prog.funcNamed "tsblock/tsblocklaw17.EncodeDiffers" = some 4 := by kernel_rfl
theorem EncodeDiffers_looks : true = Tryz.prog.looks [] := by kernel_rfl
theorem EncodeDiffers_stand : ([22, 22].all fun u => !Tryz.prog.wantsStandIn u) = true := by kernel_rfl
theorem EncodeDiffers_goes : false = Rows.encodeDiffersRow.goesBy Tryz.pinned.checked.prog := by kernel_rfl
end Go.Proofs.YticphebaflnedaaGreatDoor
