/- The closed facts of the card of PieceStays, one by one. -/
import Derived.Test.YtmmonehfnfbpbaaGreatDoorTie
import Derived.Test.YtmmonehfnfbpbaaGreatDoorCards
import Derived.SevenTiedAt
import Derived.JoinedOf
import Derived.KernelRfl
namespace Go.Proofs.YtmmonehfnfbpbaaGreatDoor
open Go

theorem PieceStays_wft : Rows.pieceStaysRow.wfByText (OpenSpec.ofChange Rows.pieceStaysSpec) = true := by kernel_rfl
theorem PieceStays_main : Tryz.pinned.checked.prog.mainIs = some ("f2b3690cd565456ed4971bda7e32960ed27eea662069963facf1617f361c8801" |> fun s => (true, s.toList)) := by kernel_rfl
theorem PieceStays_named : Tryz.prog.funcNamed "tsblock/tsblocklaw19.PieceStays" = some 5 := by kernel_rfl
theorem PieceStays_looks : true = Tryz.prog.looks [] := by kernel_rfl
theorem PieceStays_stand : ([22, 23].all fun u => !Tryz.prog.wantsStandIn u) = true := by kernel_rfl
theorem PieceStays_goes : false = Rows.pieceStaysRow.goesBy Tryz.pinned.checked.prog := by kernel_rfl
end Go.Proofs.YtmmonehfnfbpbaaGreatDoor
