/-
  DERIVED. GIVEN WITH THE SEED: THE CARDS: each row of YtjepaneniodbpaaDoorRows.lean that lists a variable, with what it lists TIED to the program's text (the seventh form; the later family's looks); each row that meets fmt, with fmt's text TOLD by the authors' own Lean function (tested against real Go, not proved from fmt's source: count such statements apart). THE CARD IS WHAT COUNTS. Prove the row's statement (the work); the ties are given (YtjepaneniodbpaaDoorTie.lean); close each card by the builder's one call (the guide's Derived/Test/ToyasCard.lean, 'card_holds'). Laid BY PROGRAM, IN A SANDBOX (cutbox-door.mjs). By AI agents, Wed Nov 11 2026. No macro, syntax, notation, axiom, sorry.
-/
import Derived.Test.YtjepaneniodbpaaDoorRows
import GoSem.ClaimSeven
namespace Go.Proofs.YtjepaneniodbpaaDoor
namespace Rows

/-- THE TIED CARD OF 'tsblocklaw09.ChunkChooses'. -/
def chunkChoosesCard : Claim7 := { stood := { row := chunkChoosesRow, standIns := [], harness := (true, "d850849d56096a613cd1da5de40daa37d392cd3535a8b6dec4eac43994b83435"), looks := false }, kinds := [], alts := [], laidByText := true, laidKinds := [.data, .data], laidTests := true, laidLooks := .later }
def ChunkChoosesCardSaid : Prop := Claim7.holds Tryd.pinned (.plain (OpenSpec.ofChange chunkChoosesSpec)) chunkChoosesCard

/-- THE TIED CARD OF 'tsblocklaw09.ChunkRoundTrip'. -/
def chunkRoundTripCard : Claim7 := { stood := { row := chunkRoundTripRow, standIns := [], harness := (true, "d850849d56096a613cd1da5de40daa37d392cd3535a8b6dec4eac43994b83435"), looks := false }, kinds := [], alts := [], laidByText := true, laidKinds := [.data, .data], laidTests := true, laidLooks := .later }
def ChunkRoundTripCardSaid : Prop := Claim7.holds Tryd.pinned (.plain (OpenSpec.ofChange chunkRoundTripSpec)) chunkRoundTripCard

/-- THE TIED CARD OF 'tsblocklaw09.ChunkIsCanonical'. -/
def chunkIsCanonicalCard : Claim7 := { stood := { row := chunkIsCanonicalRow, standIns := [], harness := (true, "d850849d56096a613cd1da5de40daa37d392cd3535a8b6dec4eac43994b83435"), looks := false }, kinds := [], alts := [], laidByText := true, laidKinds := [.data, .data], laidTests := true, laidLooks := .later }
def ChunkIsCanonicalCardSaid : Prop := Claim7.holds Tryd.pinned (.plain (OpenSpec.ofChange chunkIsCanonicalSpec)) chunkIsCanonicalCard

/-- THE TIED CARD OF 'tsblocklaw09.ChunkSplits'. -/
def chunkSplitsCard : Claim7 := { stood := { row := chunkSplitsRow, standIns := [], harness := (true, "d850849d56096a613cd1da5de40daa37d392cd3535a8b6dec4eac43994b83435"), looks := false }, kinds := [], alts := [], laidByText := true, laidKinds := [.data, .data], laidTests := true, laidLooks := .later }
def ChunkSplitsCardSaid : Prop := Claim7.holds Tryd.pinned (.plain (OpenSpec.ofChange chunkSplitsSpec)) chunkSplitsCard

/-- THE SECOND FORM's CARD OF 'tsblocklaw09.ChunkChooses'. -/
def chunkChoosesUptoCard : Claim7 := { stood := { row := chunkChoosesUptoRow, standIns := [], harness := (true, "d850849d56096a613cd1da5de40daa37d392cd3535a8b6dec4eac43994b83435"), looks := false }, kinds := [], alts := [], laidByText := true, laidKinds := [.data, .data], laidTests := true, laidLooks := .later }
def ChunkChoosesUptoCardSaid : Prop := Claim7.holds Tryd.pinned (.plain (OpenSpec.upto chunkChoosesSpec)) chunkChoosesUptoCard

/-- THE SECOND FORM's CARD OF 'tsblocklaw09.ChunkRoundTrip'. -/
def chunkRoundTripUptoCard : Claim7 := { stood := { row := chunkRoundTripUptoRow, standIns := [], harness := (true, "d850849d56096a613cd1da5de40daa37d392cd3535a8b6dec4eac43994b83435"), looks := false }, kinds := [], alts := [], laidByText := true, laidKinds := [.data, .data], laidTests := true, laidLooks := .later }
def ChunkRoundTripUptoCardSaid : Prop := Claim7.holds Tryd.pinned (.plain (OpenSpec.upto chunkRoundTripSpec)) chunkRoundTripUptoCard

/-- THE SECOND FORM's CARD OF 'tsblocklaw09.ChunkIsCanonical'. -/
def chunkIsCanonicalUptoCard : Claim7 := { stood := { row := chunkIsCanonicalUptoRow, standIns := [], harness := (true, "d850849d56096a613cd1da5de40daa37d392cd3535a8b6dec4eac43994b83435"), looks := false }, kinds := [], alts := [], laidByText := true, laidKinds := [.data, .data], laidTests := true, laidLooks := .later }
def ChunkIsCanonicalUptoCardSaid : Prop := Claim7.holds Tryd.pinned (.plain (OpenSpec.upto chunkIsCanonicalSpec)) chunkIsCanonicalUptoCard

/-- THE SECOND FORM's CARD OF 'tsblocklaw09.ChunkSplits'. -/
def chunkSplitsUptoCard : Claim7 := { stood := { row := chunkSplitsUptoRow, standIns := [], harness := (true, "d850849d56096a613cd1da5de40daa37d392cd3535a8b6dec4eac43994b83435"), looks := false }, kinds := [], alts := [], laidByText := true, laidKinds := [.data, .data], laidTests := true, laidLooks := .later }
def ChunkSplitsUptoCardSaid : Prop := Claim7.holds Tryd.pinned (.plain (OpenSpec.upto chunkSplitsSpec)) chunkSplitsUptoCard
end Rows
end Go.Proofs.YtjepaneniodbpaaDoor
