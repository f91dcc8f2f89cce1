/-
  DERIVED. GIVEN WITH THE SEED: THE CARDS: each row of YtmmonehfnfbpbaaGreatDoorRows.lean that lists a variable, with what it lists TIED to the program's text (the seventh form; the later family's looks); each row that meets fmt, with fmt's text TOLD by the authors' own Lean function (tested against real Go, not proved from fmt's source: count such statements apart). THE CARD IS WHAT COUNTS. Prove the row's statement (the work); the ties are given (YtmmonehfnfbpbaaGreatDoorTie.lean); close each card by the builder's one call (the guide's Derived/Test/ToyasCard.lean, 'card_holds'). Laid BY PROGRAM, IN A SANDBOX (cutbox-door.mjs). By AI agents, Wed Nov 11 2026. No macro, syntax, notation, axiom, sorry.
-/
import Derived.Test.YtmmonehfnfbpbaaGreatDoorRows
import GoSem.ClaimSeven
namespace Go.Proofs.YtmmonehfnfbpbaaGreatDoor
namespace Rows

/-- THE TIED CARD OF 'tsblocklaw19.PieceCloses'. -/
def pieceClosesCard : Claim7 := { stood := { row := pieceClosesRow, standIns := [], harness := (true, "f2b3690cd565456ed4971bda7e32960ed27eea662069963facf1617f361c8801"), looks := true }, kinds := [], alts := [], laidByText := true, laidKinds := [.data, .data, .data], laidTests := true, laidLooks := .later }
def PieceClosesCardSaid : Prop := Claim7.holds Tryz.pinned (.plain (OpenSpec.ofChange pieceClosesSpec)) pieceClosesCard

/-- THE TIED CARD OF 'tsblocklaw19.PieceProgress'. -/
def pieceProgressCard : Claim7 := { stood := { row := pieceProgressRow, standIns := [], harness := (true, "f2b3690cd565456ed4971bda7e32960ed27eea662069963facf1617f361c8801"), looks := true }, kinds := [], alts := [], laidByText := true, laidKinds := [.data, .data, .data], laidTests := true, laidLooks := .later }
def PieceProgressCardSaid : Prop := Claim7.holds Tryz.pinned (.plain (OpenSpec.ofChange pieceProgressSpec)) pieceProgressCard

/-- THE TIED CARD OF 'tsblocklaw19.PieceStays'. -/
def pieceStaysCard : Claim7 := { stood := { row := pieceStaysRow, standIns := [], harness := (true, "f2b3690cd565456ed4971bda7e32960ed27eea662069963facf1617f361c8801"), looks := true }, kinds := [], alts := [], laidByText := true, laidKinds := [.data, .data, .data], laidTests := true, laidLooks := .later }
def PieceStaysCardSaid : Prop := Claim7.holds Tryz.pinned (.plain (OpenSpec.ofChange pieceStaysSpec)) pieceStaysCard

/-- THE TIED CARD OF 'tsblocklaw19.PieceCopies'. -/
def pieceCopiesCard : Claim7 := { stood := { row := pieceCopiesRow, standIns := [], harness := (true, "f2b3690cd565456ed4971bda7e32960ed27eea662069963facf1617f361c8801"), looks := true }, kinds := [], alts := [], laidByText := true, laidKinds := [.data, .data, .data], laidTests := true, laidLooks := .later }
def PieceCopiesCardSaid : Prop := Claim7.holds Tryz.pinned (.plain (OpenSpec.ofChange pieceCopiesSpec)) pieceCopiesCard

/-- THE TIED CARD OF 'tsblocklaw19.PiecePrefixes'. -/
def piecePrefixesCard : Claim7 := { stood := { row := piecePrefixesRow, standIns := [], harness := (true, "f2b3690cd565456ed4971bda7e32960ed27eea662069963facf1617f361c8801"), looks := true }, kinds := [], alts := [], laidByText := true, laidKinds := [.data, .data, .data], laidTests := true, laidLooks := .later }
def PiecePrefixesCardSaid : Prop := Claim7.holds Tryz.pinned (.plain (OpenSpec.ofChange piecePrefixesSpec)) piecePrefixesCard

/-- THE TIED CARD OF 'tsblocklaw19.PieceNil'. -/
def pieceNilCard : Claim7 := { stood := { row := pieceNilRow, standIns := [], harness := (true, "f2b3690cd565456ed4971bda7e32960ed27eea662069963facf1617f361c8801"), looks := true }, kinds := [], alts := [], laidByText := true, laidKinds := [.data, .data, .data], laidTests := true, laidLooks := .later }
def PieceNilCardSaid : Prop := Claim7.holds Tryz.pinned (.plain (OpenSpec.ofChange pieceNilSpec)) pieceNilCard

/-- THE TIED CARD OF 'tsblocklaw18.DecodeMatchesReference'. -/
def decodeMatchesReferenceCard : Claim7 := { stood := { row := decodeMatchesReferenceRow, standIns := [], harness := (true, "f2b3690cd565456ed4971bda7e32960ed27eea662069963facf1617f361c8801"), looks := true }, kinds := [], alts := [], laidByText := true, laidKinds := [.data, .data, .data], laidTests := true, laidLooks := .later }
def DecodeMatchesReferenceCardSaid : Prop := Claim7.holds Tryz.pinned (.plain (OpenSpec.ofChange decodeMatchesReferenceSpec)) decodeMatchesReferenceCard

/-- THE TIED CARD OF 'tsblocklaw18.DecodeSections'. -/
def decodeSectionsCard : Claim7 := { stood := { row := decodeSectionsRow, standIns := [], harness := (true, "f2b3690cd565456ed4971bda7e32960ed27eea662069963facf1617f361c8801"), looks := true }, kinds := [], alts := [], laidByText := true, laidKinds := [.data, .data, .data], laidTests := true, laidLooks := .later }
def DecodeSectionsCardSaid : Prop := Claim7.holds Tryz.pinned (.plain (OpenSpec.ofChange decodeSectionsSpec)) decodeSectionsCard

/-- THE TIED CARD OF 'tsblocklaw18.DecodeChunks'. -/
def decodeChunksCard : Claim7 := { stood := { row := decodeChunksRow, standIns := [], harness := (true, "f2b3690cd565456ed4971bda7e32960ed27eea662069963facf1617f361c8801"), looks := true }, kinds := [], alts := [], laidByText := true, laidKinds := [.data, .data, .data], laidTests := true, laidLooks := .later }
def DecodeChunksCardSaid : Prop := Claim7.holds Tryz.pinned (.plain (OpenSpec.ofChange decodeChunksSpec)) decodeChunksCard

/-- THE TIED CARD OF 'tsblocklaw18.DecodeRoundTrip'. -/
def decodeRoundTripCard : Claim7 := { stood := { row := decodeRoundTripRow, standIns := [], harness := (true, "f2b3690cd565456ed4971bda7e32960ed27eea662069963facf1617f361c8801"), looks := true }, kinds := [], alts := [], laidByText := true, laidKinds := [.data, .data, .data], laidTests := true, laidLooks := .later }
def DecodeRoundTripCardSaid : Prop := Claim7.holds Tryz.pinned (.plain (OpenSpec.ofChange decodeRoundTripSpec)) decodeRoundTripCard

/-- THE TIED CARD OF 'tsblocklaw18.DecodeIsCanonical'. -/
def decodeIsCanonicalCard : Claim7 := { stood := { row := decodeIsCanonicalRow, standIns := [], harness := (true, "f2b3690cd565456ed4971bda7e32960ed27eea662069963facf1617f361c8801"), looks := true }, kinds := [], alts := [], laidByText := true, laidKinds := [.data, .data, .data], laidTests := true, laidLooks := .later }
def DecodeIsCanonicalCardSaid : Prop := Claim7.holds Tryz.pinned (.plain (OpenSpec.ofChange decodeIsCanonicalSpec)) decodeIsCanonicalCard

/-- THE TIED CARD OF 'tsblocklaw18.DecodeFindsBursts'. -/
def decodeFindsBurstsCard : Claim7 := { stood := { row := decodeFindsBurstsRow, standIns := [], harness := (true, "f2b3690cd565456ed4971bda7e32960ed27eea662069963facf1617f361c8801"), looks := true }, kinds := [], alts := [], laidByText := true, laidKinds := [.data, .data, .data], laidTests := true, laidLooks := .later }
def DecodeFindsBurstsCardSaid : Prop := Claim7.holds Tryz.pinned (.plain (OpenSpec.ofChange decodeFindsBurstsSpec)) decodeFindsBurstsCard

/-- THE SECOND FORM's CARD OF 'tsblocklaw19.PieceCloses'. -/
def pieceClosesUptoCard : Claim7 := { stood := { row := pieceClosesUptoRow, standIns := [], harness := (true, "f2b3690cd565456ed4971bda7e32960ed27eea662069963facf1617f361c8801"), looks := true }, kinds := [], alts := [], laidByText := true, laidKinds := [.data, .data, .data], laidTests := true, laidLooks := .later }
def PieceClosesUptoCardSaid : Prop := Claim7.holds Tryz.pinned (.plain (OpenSpec.upto pieceClosesSpec)) pieceClosesUptoCard

/-- THE SECOND FORM's CARD OF 'tsblocklaw19.PieceProgress'. -/
def pieceProgressUptoCard : Claim7 := { stood := { row := pieceProgressUptoRow, standIns := [], harness := (true, "f2b3690cd565456ed4971bda7e32960ed27eea662069963facf1617f361c8801"), looks := true }, kinds := [], alts := [], laidByText := true, laidKinds := [.data, .data, .data], laidTests := true, laidLooks := .later }
def PieceProgressUptoCardSaid : Prop := Claim7.holds Tryz.pinned (.plain (OpenSpec.upto pieceProgressSpec)) pieceProgressUptoCard

/-- THE SECOND FORM's CARD OF 'tsblocklaw19.PieceStays'. -/
def pieceStaysUptoCard : Claim7 := { stood := { row := pieceStaysUptoRow, standIns := [], harness := (true, "f2b3690cd565456ed4971bda7e32960ed27eea662069963facf1617f361c8801"), looks := true }, kinds := [], alts := [], laidByText := true, laidKinds := [.data, .data, .data], laidTests := true, laidLooks := .later }
def PieceStaysUptoCardSaid : Prop := Claim7.holds Tryz.pinned (.plain (OpenSpec.upto pieceStaysSpec)) pieceStaysUptoCard

/-- THE SECOND FORM's CARD OF 'tsblocklaw19.PieceCopies'. -/
def pieceCopiesUptoCard : Claim7 := { stood := { row := pieceCopiesUptoRow, standIns := [], harness := (true, "f2b3690cd565456ed4971bda7e32960ed27eea662069963facf1617f361c8801"), looks := true }, kinds := [], alts := [], laidByText := true, laidKinds := [.data, .data, .data], laidTests := true, laidLooks := .later }
def PieceCopiesUptoCardSaid : Prop := Claim7.holds Tryz.pinned (.plain (OpenSpec.upto pieceCopiesSpec)) pieceCopiesUptoCard

/-- THE SECOND FORM's CARD OF 'tsblocklaw19.PiecePrefixes'. -/
def piecePrefixesUptoCard : Claim7 := { stood := { row := piecePrefixesUptoRow, standIns := [], harness := (true, "f2b3690cd565456ed4971bda7e32960ed27eea662069963facf1617f361c8801"), looks := true }, kinds := [], alts := [], laidByText := true, laidKinds := [.data, .data, .data], laidTests := true, laidLooks := .later }
def PiecePrefixesUptoCardSaid : Prop := Claim7.holds Tryz.pinned (.plain (OpenSpec.upto piecePrefixesSpec)) piecePrefixesUptoCard

/-- THE SECOND FORM's CARD OF 'tsblocklaw19.PieceNil'. -/
def pieceNilUptoCard : Claim7 := { stood := { row := pieceNilUptoRow, standIns := [], harness := (true, "f2b3690cd565456ed4971bda7e32960ed27eea662069963facf1617f361c8801"), looks := true }, kinds := [], alts := [], laidByText := true, laidKinds := [.data, .data, .data], laidTests := true, laidLooks := .later }
def PieceNilUptoCardSaid : Prop := Claim7.holds Tryz.pinned (.plain (OpenSpec.upto pieceNilSpec)) pieceNilUptoCard

/-- THE SECOND FORM's CARD OF 'tsblocklaw18.DecodeMatchesReference'. -/
def decodeMatchesReferenceUptoCard : Claim7 := { stood := { row := decodeMatchesReferenceUptoRow, standIns := [], harness := (true, "f2b3690cd565456ed4971bda7e32960ed27eea662069963facf1617f361c8801"), looks := true }, kinds := [], alts := [], laidByText := true, laidKinds := [.data, .data, .data], laidTests := true, laidLooks := .later }
def DecodeMatchesReferenceUptoCardSaid : Prop := Claim7.holds Tryz.pinned (.plain (OpenSpec.upto decodeMatchesReferenceSpec)) decodeMatchesReferenceUptoCard

/-- THE SECOND FORM's CARD OF 'tsblocklaw18.DecodeSections'. -/
def decodeSectionsUptoCard : Claim7 := { stood := { row := decodeSectionsUptoRow, standIns := [], harness := (true, "f2b3690cd565456ed4971bda7e32960ed27eea662069963facf1617f361c8801"), looks := true }, kinds := [], alts := [], laidByText := true, laidKinds := [.data, .data, .data], laidTests := true, laidLooks := .later }
def DecodeSectionsUptoCardSaid : Prop := Claim7.holds Tryz.pinned (.plain (OpenSpec.upto decodeSectionsSpec)) decodeSectionsUptoCard

/-- THE SECOND FORM's CARD OF 'tsblocklaw18.DecodeChunks'. -/
def decodeChunksUptoCard : Claim7 := { stood := { row := decodeChunksUptoRow, standIns := [], harness := (true, "f2b3690cd565456ed4971bda7e32960ed27eea662069963facf1617f361c8801"), looks := true }, kinds := [], alts := [], laidByText := true, laidKinds := [.data, .data, .data], laidTests := true, laidLooks := .later }
def DecodeChunksUptoCardSaid : Prop := Claim7.holds Tryz.pinned (.plain (OpenSpec.upto decodeChunksSpec)) decodeChunksUptoCard

/-- THE SECOND FORM's CARD OF 'tsblocklaw18.DecodeRoundTrip'. -/
def decodeRoundTripUptoCard : Claim7 := { stood := { row := decodeRoundTripUptoRow, standIns := [], harness := (true, "f2b3690cd565456ed4971bda7e32960ed27eea662069963facf1617f361c8801"), looks := true }, kinds := [], alts := [], laidByText := true, laidKinds := [.data, .data, .data], laidTests := true, laidLooks := .later }
def DecodeRoundTripUptoCardSaid : Prop := Claim7.holds Tryz.pinned (.plain (OpenSpec.upto decodeRoundTripSpec)) decodeRoundTripUptoCard

/-- THE SECOND FORM's CARD OF 'tsblocklaw18.DecodeIsCanonical'. -/
def decodeIsCanonicalUptoCard : Claim7 := { stood := { row := decodeIsCanonicalUptoRow, standIns := [], harness := (true, "f2b3690cd565456ed4971bda7e32960ed27eea662069963facf1617f361c8801"), looks := true }, kinds := [], alts := [], laidByText := true, laidKinds := [.data, .data, .data], laidTests := true, laidLooks := .later }
def DecodeIsCanonicalUptoCardSaid : Prop := Claim7.holds Tryz.pinned (.plain (OpenSpec.upto decodeIsCanonicalSpec)) decodeIsCanonicalUptoCard

/-- THE SECOND FORM's CARD OF 'tsblocklaw18.DecodeFindsBursts'. -/
def decodeFindsBurstsUptoCard : Claim7 := { stood := { row := decodeFindsBurstsUptoRow, standIns := [], harness := (true, "f2b3690cd565456ed4971bda7e32960ed27eea662069963facf1617f361c8801"), looks := true }, kinds := [], alts := [], laidByText := true, laidKinds := [.data, .data, .data], laidTests := true, laidLooks := .later }
def DecodeFindsBurstsUptoCardSaid : Prop := Claim7.holds Tryz.pinned (.plain (OpenSpec.upto decodeFindsBurstsSpec)) decodeFindsBurstsUptoCard
end Rows
end Go.Proofs.YtmmonehfnfbpbaaGreatDoor
