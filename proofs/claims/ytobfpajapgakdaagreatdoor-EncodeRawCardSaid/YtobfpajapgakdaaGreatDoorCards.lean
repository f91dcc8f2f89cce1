/-
  DERIVED. GIVEN WITH THE SEED: THE CARDS: each row of YtobfpajapgakdaaGreatDoorRows.lean that lists a variable, with what it lists TIED to the program's text (the seventh form; the later family's looks); each row that meets fmt, with fmt's text TOLD by the authors' own Lean function (tested against real Go, not proved from fmt's source: count such statements apart). THE CARD IS WHAT COUNTS. Prove the row's statement (the work); the ties are given (YtobfpajapgakdaaGreatDoorTie.lean); close each card by the builder's one call (the guide's Derived/Test/ToyasCard.lean, 'card_holds'). Laid BY PROGRAM, IN A SANDBOX (cutbox-door.mjs). By AI agents, Wed Nov 11 2026. No macro, syntax, notation, axiom, sorry.
-/
import Derived.Test.YtobfpajapgakdaaGreatDoorRows
import GoSem.ClaimSeven
namespace Go.Proofs.YtobfpajapgakdaaGreatDoor
namespace Rows

/-- THE TIED CARD OF 'tsblocklaw17.EncodeMatchesReference'. -/
def encodeMatchesReferenceCard : Claim7 := { stood := { row := encodeMatchesReferenceRow, standIns := [], harness := (true, "f70a91afcaa5c4fba4acf7e1313873986f8c6bd085223fc9cf1ee93dd3d37b4a"), looks := false }, kinds := [], alts := [], laidByText := true, laidKinds := [.data, .data, .data], laidTests := true, laidLooks := .later }
def EncodeMatchesReferenceCardSaid : Prop := Claim7.holds Tryz.pinned (.plain (OpenSpec.ofChange encodeMatchesReferenceSpec)) encodeMatchesReferenceCard

/-- THE TIED CARD OF 'tsblocklaw17.EncodeSections'. -/
def encodeSectionsCard : Claim7 := { stood := { row := encodeSectionsRow, standIns := [], harness := (true, "f70a91afcaa5c4fba4acf7e1313873986f8c6bd085223fc9cf1ee93dd3d37b4a"), looks := false }, kinds := [], alts := [], laidByText := true, laidKinds := [.data, .data, .data], laidTests := true, laidLooks := .later }
def EncodeSectionsCardSaid : Prop := Claim7.holds Tryz.pinned (.plain (OpenSpec.ofChange encodeSectionsSpec)) encodeSectionsCard

/-- THE TIED CARD OF 'tsblocklaw17.EncodeRaw'. -/
def encodeRawCard : Claim7 := { stood := { row := encodeRawRow, standIns := [], harness := (true, "f70a91afcaa5c4fba4acf7e1313873986f8c6bd085223fc9cf1ee93dd3d37b4a"), looks := false }, kinds := [], alts := [], laidByText := true, laidKinds := [.data, .data, .data], laidTests := true, laidLooks := .later }
def EncodeRawCardSaid : Prop := Claim7.holds Tryz.pinned (.plain (OpenSpec.ofChange encodeRawSpec)) encodeRawCard

/-- THE TIED CARD OF 'tsblocklaw17.EncodeAgrees'. -/
def encodeAgreesCard : Claim7 := { stood := { row := encodeAgreesRow, standIns := [], harness := (true, "f70a91afcaa5c4fba4acf7e1313873986f8c6bd085223fc9cf1ee93dd3d37b4a"), looks := false }, kinds := [], alts := [], laidByText := true, laidKinds := [.data, .data, .data], laidTests := true, laidLooks := .later }
def EncodeAgreesCardSaid : Prop := Claim7.holds Tryz.pinned (.plain (OpenSpec.ofChange encodeAgreesSpec)) encodeAgreesCard

/-- THE TIED CARD OF 'tsblocklaw17.EncodeLengths'. -/
def encodeLengthsCard : Claim7 := { stood := { row := encodeLengthsRow, standIns := [], harness := (true, "f70a91afcaa5c4fba4acf7e1313873986f8c6bd085223fc9cf1ee93dd3d37b4a"), looks := false }, kinds := [], alts := [], laidByText := true, laidKinds := [.data, .data, .data], laidTests := true, laidLooks := .later }
def EncodeLengthsCardSaid : Prop := Claim7.holds Tryz.pinned (.plain (OpenSpec.ofChange encodeLengthsSpec)) encodeLengthsCard

/-- THE TIED CARD OF 'tsblocklaw17.EncodeDiffers'. -/
def encodeDiffersCard : Claim7 := { stood := { row := encodeDiffersRow, standIns := [], harness := (true, "f70a91afcaa5c4fba4acf7e1313873986f8c6bd085223fc9cf1ee93dd3d37b4a"), looks := false }, kinds := [], alts := [], laidByText := true, laidKinds := [.data, .data, .data], laidTests := true, laidLooks := .later }
def EncodeDiffersCardSaid : Prop := Claim7.holds Tryz.pinned (.plain (OpenSpec.ofChange encodeDiffersSpec)) encodeDiffersCard

/-- THE SECOND FORM's CARD OF 'tsblocklaw17.EncodeMatchesReference'. -/
def encodeMatchesReferenceUptoCard : Claim7 := { stood := { row := encodeMatchesReferenceUptoRow, standIns := [], harness := (true, "f70a91afcaa5c4fba4acf7e1313873986f8c6bd085223fc9cf1ee93dd3d37b4a"), looks := false }, kinds := [], alts := [], laidByText := true, laidKinds := [.data, .data, .data], laidTests := true, laidLooks := .later }
def EncodeMatchesReferenceUptoCardSaid : Prop := Claim7.holds Tryz.pinned (.plain (OpenSpec.upto encodeMatchesReferenceSpec)) encodeMatchesReferenceUptoCard

/-- THE SECOND FORM's CARD OF 'tsblocklaw17.EncodeSections'. -/
def encodeSectionsUptoCard : Claim7 := { stood := { row := encodeSectionsUptoRow, standIns := [], harness := (true, "f70a91afcaa5c4fba4acf7e1313873986f8c6bd085223fc9cf1ee93dd3d37b4a"), looks := false }, kinds := [], alts := [], laidByText := true, laidKinds := [.data, .data, .data], laidTests := true, laidLooks := .later }
def EncodeSectionsUptoCardSaid : Prop := Claim7.holds Tryz.pinned (.plain (OpenSpec.upto encodeSectionsSpec)) encodeSectionsUptoCard

/-- THE SECOND FORM's CARD OF 'tsblocklaw17.EncodeRaw'. -/
def encodeRawUptoCard : Claim7 := { stood := { row := encodeRawUptoRow, standIns := [], harness := (true, "f70a91afcaa5c4fba4acf7e1313873986f8c6bd085223fc9cf1ee93dd3d37b4a"), looks := false }, kinds := [], alts := [], laidByText := true, laidKinds := [.data, .data, .data], laidTests := true, laidLooks := .later }
def EncodeRawUptoCardSaid : Prop := Claim7.holds Tryz.pinned (.plain (OpenSpec.upto encodeRawSpec)) encodeRawUptoCard

/-- THE SECOND FORM's CARD OF 'tsblocklaw17.EncodeAgrees'. -/
def encodeAgreesUptoCard : Claim7 := { stood := { row := encodeAgreesUptoRow, standIns := [], harness := (true, "f70a91afcaa5c4fba4acf7e1313873986f8c6bd085223fc9cf1ee93dd3d37b4a"), looks := false }, kinds := [], alts := [], laidByText := true, laidKinds := [.data, .data, .data], laidTests := true, laidLooks := .later }
def EncodeAgreesUptoCardSaid : Prop := Claim7.holds Tryz.pinned (.plain (OpenSpec.upto encodeAgreesSpec)) encodeAgreesUptoCard

/-- THE SECOND FORM's CARD OF 'tsblocklaw17.EncodeLengths'. -/
def encodeLengthsUptoCard : Claim7 := { stood := { row := encodeLengthsUptoRow, standIns := [], harness := (true, "f70a91afcaa5c4fba4acf7e1313873986f8c6bd085223fc9cf1ee93dd3d37b4a"), looks := false }, kinds := [], alts := [], laidByText := true, laidKinds := [.data, .data, .data], laidTests := true, laidLooks := .later }
def EncodeLengthsUptoCardSaid : Prop := Claim7.holds Tryz.pinned (.plain (OpenSpec.upto encodeLengthsSpec)) encodeLengthsUptoCard

/-- THE SECOND FORM's CARD OF 'tsblocklaw17.EncodeDiffers'. -/
def encodeDiffersUptoCard : Claim7 := { stood := { row := encodeDiffersUptoRow, standIns := [], harness := (true, "f70a91afcaa5c4fba4acf7e1313873986f8c6bd085223fc9cf1ee93dd3d37b4a"), looks := false }, kinds := [], alts := [], laidByText := true, laidKinds := [.data, .data, .data], laidTests := true, laidLooks := .later }
def EncodeDiffersUptoCardSaid : Prop := Claim7.holds Tryz.pinned (.plain (OpenSpec.upto encodeDiffersSpec)) encodeDiffersUptoCard
end Rows
end Go.Proofs.YtobfpajapgakdaaGreatDoor
