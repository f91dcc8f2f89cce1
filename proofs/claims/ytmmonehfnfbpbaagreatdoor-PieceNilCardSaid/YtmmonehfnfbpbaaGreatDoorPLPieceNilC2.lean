/- The closed facts of the card of PieceNil, one by one. -/
import Derived.Test.YtmmonehfnfbpbaaGreatDoorTie
import Derived.Test.YtmmonehfnfbpbaaGreatDoorCards
import Derived.SevenTiedAt
import Derived.JoinedOf
import Derived.KernelRfl
namespace Go.Proofs.YtmmonehfnfbpbaaGreatDoor
open Go

theorem PieceNil_wft : Rows.pieceNilRow.wfByText (OpenSpec.ofChange Rows.pieceNilSpec) = true := by kernel_rfl
theorem PieceNil_main : Tryz.pinned.checked.prog.mainIs = some ("f2b3690cd565456ed4971bda7e32960ed27eea662069963facf1617f361c8801" |> fun s => (true, s.toList)) := by kernel_rfl
theorem PieceNil_named : Tryz.prog.funcNamed "tsblock/tsblocklaw19.PieceNil" = some 8 := by kernel_rfl
theorem PieceNil_looks : true = Tryz.prog.looks [] := by kernel_rfl
theorem PieceNil_stand : ([22].all fun u => !Tryz.prog.wantsStandIn u) = true := by kernel_rfl
theorem PieceNil_goes : false = Rows.pieceNilRow.goesBy Tryz.pinned.checked.prog := by kernel_rfl
end Go.Proofs.YtmmonehfnfbpbaaGreatDoor
