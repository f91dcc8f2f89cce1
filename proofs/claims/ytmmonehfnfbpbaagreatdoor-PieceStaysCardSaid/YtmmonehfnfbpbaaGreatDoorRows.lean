/-
  NARROWER THAN 'FOR EVERY INPUT', by the rows' own cells (each row's printed sentence says how): PieceCloses: laid · PieceProgress: laid · PieceStays: laid · PieceCopies: laid · PiecePrefixes: laid · PieceNil: laid · DecodeMatchesReference: laid · DecodeSections: laid · DecodeChunks: laid · DecodeRoundTrip: laid · DecodeIsCanonical: laid · DecodeFindsBursts: laid.
  DERIVED. THE GIVEN ROWS OF THIS SEAT. 12 by the template 'for every input the law returns true; each argument reads behind the call as it read before'; 0 by the template 'total and deterministic' (their statements: YtmmonehfnfbpbaaGreatDoorTotals.lean).
  GIVEN WITH THE SEED: the statements are not yours to turn. If you find one false, say at which input.
  Laid BY PROGRAM, IN A SANDBOX (cutbox-rows.mjs): the forced cells as the released guide's own fill.sh prints them over the translation 4574a843b98546e2… (all of the seat's roots in one cut). By AI agents, Wed Nov 11 2026. No macro, syntax, notation, axiom, sorry.
-/
import Derived.Test.YtmmonehfnfbpbaaGreatDoorChecked
import GoSem.Claim
import GoSem.ClaimJoined
import GoSem.ClaimMapViews
import Derived.JoinedTies
import Derived.KernelRfl
namespace Go.Proofs.YtmmonehfnfbpbaaGreatDoor
/- THE CELL 'sum', in the pinned program and in every row, IS THE sha256 OF THE DUMP (.gsa) THAT YtmmonehfnfbpbaaGreatDoorProg.lean LOADS. Nothing in Lean hashes anything: it is a label: what it is worth is what the hold of that sum in a sandbox is worth. -/
noncomputable def Tryz.pinned : Pinned := { name := "ytmmonehfnfbpbaagreatdoor", sum := "4574a843b98546e21660d17c0e5b296216652c84989cdb82cba6b39fe254cdcc", checked := Tryz.checked }
namespace Rows
def none {H : Type} : Left H := { results := [], args := [] }

/- WHAT THE LISTED PACKAGE-LEVEL VARIABLES READ AS WHEN THE CALL BEGINS. Each datum BY PROGRAM (the guide's laid-datum.mjs) off the statement by which the dump's own 'gosem.cut.vars' lays the variable. In a bare row this is a premise. The card (YtmmonehfnfbpbaaGreatDoorCards.lean) ties it to the program's text. -/
def laid_math_bits_deBruijn64tab {H : Type} : DataW H := .agg [.lit (.int .u8 0), .lit (.int .u8 1), .lit (.int .u8 56), .lit (.int .u8 2), .lit (.int .u8 57), .lit (.int .u8 49), .lit (.int .u8 28), .lit (.int .u8 3), .lit (.int .u8 61), .lit (.int .u8 58), .lit (.int .u8 42), .lit (.int .u8 50), .lit (.int .u8 38), .lit (.int .u8 29), .lit (.int .u8 17), .lit (.int .u8 4), .lit (.int .u8 62), .lit (.int .u8 47), .lit (.int .u8 59), .lit (.int .u8 36), .lit (.int .u8 45), .lit (.int .u8 43), .lit (.int .u8 51), .lit (.int .u8 22), .lit (.int .u8 53), .lit (.int .u8 39), .lit (.int .u8 33), .lit (.int .u8 30), .lit (.int .u8 24), .lit (.int .u8 18), .lit (.int .u8 12), .lit (.int .u8 5), .lit (.int .u8 63), .lit (.int .u8 55), .lit (.int .u8 48), .lit (.int .u8 27), .lit (.int .u8 60), .lit (.int .u8 41), .lit (.int .u8 37), .lit (.int .u8 16), .lit (.int .u8 46), .lit (.int .u8 35), .lit (.int .u8 44), .lit (.int .u8 21), .lit (.int .u8 52), .lit (.int .u8 32), .lit (.int .u8 23), .lit (.int .u8 11), .lit (.int .u8 54), .lit (.int .u8 26), .lit (.int .u8 40), .lit (.int .u8 15), .lit (.int .u8 34), .lit (.int .u8 20), .lit (.int .u8 31), .lit (.int .u8 10), .lit (.int .u8 25), .lit (.int .u8 14), .lit (.int .u8 19), .lit (.int .u8 9), .lit (.int .u8 13), .lit (.int .u8 8), .lit (.int .u8 7), .lit (.int .u8 6)]
def laid_tsblock_crc_table {H : Type} : DataW H := .agg [.lit (.int .u32 0), .lit (.int .u32 498536548), .lit (.int .u32 997073096), .lit (.int .u32 651767980), .lit (.int .u32 1994146192), .lit (.int .u32 1802195444), .lit (.int .u32 1303535960), .lit (.int .u32 1342533948), .lit (.int .u32 3988292384), .lit (.int .u32 4027552580), .lit (.int .u32 3604390888), .lit (.int .u32 3412177804), .lit (.int .u32 2607071920), .lit (.int .u32 2262029012), .lit (.int .u32 2685067896), .lit (.int .u32 3183342108)]
def laid_tsblock_times_forms {H : Type} : DataW H := .agg [.agg [.lit (.int .u64 0), .lit (.int .i64 1), .lit (.int .i64 0)], .agg [.lit (.int .u64 2), .lit (.int .i64 2), .lit (.int .i64 7)], .agg [.lit (.int .u64 6), .lit (.int .i64 3), .lit (.int .i64 12)], .agg [.lit (.int .u64 14), .lit (.int .i64 4), .lit (.int .i64 32)], .agg [.lit (.int .u64 15), .lit (.int .i64 4), .lit (.int .i64 64)]]

/-- 'tsblocklaw19.PieceCloses': WHATEVER THE INPUT: true; the input reads as it did. -/
def pieceClosesSpec : ChangeSpec := { name := "pieceCloses", fn := fun _ => fun
  | [d1, d2] => { results := [.lit (.bool true)], args := [d1, d2] }
  | _ => none }
def pieceClosesRow : OpenClaim := { program := "ytmmonehfnfbpbaagreatdoor", sum := "4574a843b98546e21660d17c0e5b296216652c84989cdb82cba6b39fe254cdcc", func := "tsblock/tsblocklaw19.PieceCloses", spec := "pieceCloses", unfollowed := true, recurses := true, named := ["tsblock/crc.table", "tsblock/times.forms", "math/bits.deBruijn64tab"], plainKeys := false, apart := false, laid := [("math/bits.deBruijn64tab", laid_math_bits_deBruijn64tab), ("tsblock/crc.table", laid_tsblock_crc_table), ("tsblock/times.forms", laid_tsblock_times_forms)] }
def PieceClosesSaid : Prop := pieceClosesRow.holds Tryz.pinned (OpenSpec.ofChange pieceClosesSpec)

/-- ITS FALSE NEIGHBOUR: 'it returns false'. Refute it at one input. -/
def pieceClosesWrong : ChangeSpec := { name := "pieceCloses", fn := fun _ => fun
  | [d1, d2] => { results := [.lit (.bool false)], args := [d1, d2] }
  | _ => none }
def PieceClosesWrongFalsely : Prop := pieceClosesRow.holds Tryz.pinned (OpenSpec.ofChange pieceClosesWrong)

/-- 'tsblocklaw19.PieceProgress': WHATEVER THE INPUT: true; the input reads as it did. -/
def pieceProgressSpec : ChangeSpec := { name := "pieceProgress", fn := fun _ => fun
  | [d1, d2] => { results := [.lit (.bool true)], args := [d1, d2] }
  | _ => none }
def pieceProgressRow : OpenClaim := { program := "ytmmonehfnfbpbaagreatdoor", sum := "4574a843b98546e21660d17c0e5b296216652c84989cdb82cba6b39fe254cdcc", func := "tsblock/tsblocklaw19.PieceProgress", spec := "pieceProgress", unfollowed := true, recurses := true, named := ["tsblock/crc.table", "tsblock/times.forms", "math/bits.deBruijn64tab"], plainKeys := false, apart := false, laid := [("math/bits.deBruijn64tab", laid_math_bits_deBruijn64tab), ("tsblock/crc.table", laid_tsblock_crc_table), ("tsblock/times.forms", laid_tsblock_times_forms)] }
def PieceProgressSaid : Prop := pieceProgressRow.holds Tryz.pinned (OpenSpec.ofChange pieceProgressSpec)

/-- ITS FALSE NEIGHBOUR: 'it returns false'. Refute it at one input. -/
def pieceProgressWrong : ChangeSpec := { name := "pieceProgress", fn := fun _ => fun
  | [d1, d2] => { results := [.lit (.bool false)], args := [d1, d2] }
  | _ => none }
def PieceProgressWrongFalsely : Prop := pieceProgressRow.holds Tryz.pinned (OpenSpec.ofChange pieceProgressWrong)

/-- 'tsblocklaw19.PieceStays': WHATEVER THE INPUT: true; the input reads as it did. -/
def pieceStaysSpec : ChangeSpec := { name := "pieceStays", fn := fun _ => fun
  | [d1, d2] => { results := [.lit (.bool true)], args := [d1, d2] }
  | _ => none }
def pieceStaysRow : OpenClaim := { program := "ytmmonehfnfbpbaagreatdoor", sum := "4574a843b98546e21660d17c0e5b296216652c84989cdb82cba6b39fe254cdcc", func := "tsblock/tsblocklaw19.PieceStays", spec := "pieceStays", unfollowed := true, recurses := true, named := ["tsblock/crc.table", "tsblock/times.forms", "math/bits.deBruijn64tab"], plainKeys := false, apart := false, laid := [("math/bits.deBruijn64tab", laid_math_bits_deBruijn64tab), ("tsblock/crc.table", laid_tsblock_crc_table), ("tsblock/times.forms", laid_tsblock_times_forms)] }
def PieceStaysSaid : Prop := pieceStaysRow.holds Tryz.pinned (OpenSpec.ofChange pieceStaysSpec)

/-- ITS FALSE NEIGHBOUR: 'it returns false'. Refute it at one input. -/
def pieceStaysWrong : ChangeSpec := { name := "pieceStays", fn := fun _ => fun
  | [d1, d2] => { results := [.lit (.bool false)], args := [d1, d2] }
  | _ => none }
def PieceStaysWrongFalsely : Prop := pieceStaysRow.holds Tryz.pinned (OpenSpec.ofChange pieceStaysWrong)

/-- 'tsblocklaw19.PieceCopies': WHATEVER THE INPUT: true; the input reads as it did. -/
def pieceCopiesSpec : ChangeSpec := { name := "pieceCopies", fn := fun _ => fun
  | [d] => { results := [.lit (.bool true)], args := [d] }
  | _ => none }
def pieceCopiesRow : OpenClaim := { program := "ytmmonehfnfbpbaagreatdoor", sum := "4574a843b98546e21660d17c0e5b296216652c84989cdb82cba6b39fe254cdcc", func := "tsblock/tsblocklaw19.PieceCopies", spec := "pieceCopies", unfollowed := true, recurses := true, named := ["tsblock/crc.table", "tsblock/times.forms", "math/bits.deBruijn64tab"], plainKeys := false, apart := false, laid := [("math/bits.deBruijn64tab", laid_math_bits_deBruijn64tab), ("tsblock/crc.table", laid_tsblock_crc_table), ("tsblock/times.forms", laid_tsblock_times_forms)] }
def PieceCopiesSaid : Prop := pieceCopiesRow.holds Tryz.pinned (OpenSpec.ofChange pieceCopiesSpec)

/-- ITS FALSE NEIGHBOUR: 'it returns false'. Refute it at one input. -/
def pieceCopiesWrong : ChangeSpec := { name := "pieceCopies", fn := fun _ => fun
  | [d] => { results := [.lit (.bool false)], args := [d] }
  | _ => none }
def PieceCopiesWrongFalsely : Prop := pieceCopiesRow.holds Tryz.pinned (OpenSpec.ofChange pieceCopiesWrong)

/-- 'tsblocklaw19.PiecePrefixes': WHATEVER THE INPUT: true; the input reads as it did. -/
def piecePrefixesSpec : ChangeSpec := { name := "piecePrefixes", fn := fun _ => fun
  | [d1, d2] => { results := [.lit (.bool true)], args := [d1, d2] }
  | _ => none }
def piecePrefixesRow : OpenClaim := { program := "ytmmonehfnfbpbaagreatdoor", sum := "4574a843b98546e21660d17c0e5b296216652c84989cdb82cba6b39fe254cdcc", func := "tsblock/tsblocklaw19.PiecePrefixes", spec := "piecePrefixes", unfollowed := true, recurses := true, named := ["tsblock/crc.table", "tsblock/times.forms", "math/bits.deBruijn64tab"], plainKeys := false, apart := false, laid := [("math/bits.deBruijn64tab", laid_math_bits_deBruijn64tab), ("tsblock/crc.table", laid_tsblock_crc_table), ("tsblock/times.forms", laid_tsblock_times_forms)] }
def PiecePrefixesSaid : Prop := piecePrefixesRow.holds Tryz.pinned (OpenSpec.ofChange piecePrefixesSpec)

/-- ITS FALSE NEIGHBOUR: 'it returns false'. Refute it at one input. -/
def piecePrefixesWrong : ChangeSpec := { name := "piecePrefixes", fn := fun _ => fun
  | [d1, d2] => { results := [.lit (.bool false)], args := [d1, d2] }
  | _ => none }
def PiecePrefixesWrongFalsely : Prop := piecePrefixesRow.holds Tryz.pinned (OpenSpec.ofChange piecePrefixesWrong)

/-- 'tsblocklaw19.PieceNil': WHATEVER THE INPUT: true; the input reads as it did. -/
def pieceNilSpec : ChangeSpec := { name := "pieceNil", fn := fun _ => fun
  | [d] => { results := [.lit (.bool true)], args := [d] }
  | _ => none }
def pieceNilRow : OpenClaim := { program := "ytmmonehfnfbpbaagreatdoor", sum := "4574a843b98546e21660d17c0e5b296216652c84989cdb82cba6b39fe254cdcc", func := "tsblock/tsblocklaw19.PieceNil", spec := "pieceNil", unfollowed := true, recurses := true, named := ["tsblock/crc.table", "tsblock/times.forms", "math/bits.deBruijn64tab"], plainKeys := false, apart := false, laid := [("math/bits.deBruijn64tab", laid_math_bits_deBruijn64tab), ("tsblock/crc.table", laid_tsblock_crc_table), ("tsblock/times.forms", laid_tsblock_times_forms)] }
def PieceNilSaid : Prop := pieceNilRow.holds Tryz.pinned (OpenSpec.ofChange pieceNilSpec)

/-- ITS FALSE NEIGHBOUR: 'it returns false'. Refute it at one input. -/
def pieceNilWrong : ChangeSpec := { name := "pieceNil", fn := fun _ => fun
  | [d] => { results := [.lit (.bool false)], args := [d] }
  | _ => none }
def PieceNilWrongFalsely : Prop := pieceNilRow.holds Tryz.pinned (OpenSpec.ofChange pieceNilWrong)

/-- 'tsblocklaw18.DecodeMatchesReference': WHATEVER THE INPUT: true; the input reads as it did. -/
def decodeMatchesReferenceSpec : ChangeSpec := { name := "decodeMatchesReference", fn := fun _ => fun
  | [d] => { results := [.lit (.bool true)], args := [d] }
  | _ => none }
def decodeMatchesReferenceRow : OpenClaim := { program := "ytmmonehfnfbpbaagreatdoor", sum := "4574a843b98546e21660d17c0e5b296216652c84989cdb82cba6b39fe254cdcc", func := "tsblock/tsblocklaw18.DecodeMatchesReference", spec := "decodeMatchesReference", unfollowed := true, recurses := true, named := ["math/bits.deBruijn64tab", "tsblock/times.forms", "tsblock/crc.table"], plainKeys := false, apart := false, laid := [("math/bits.deBruijn64tab", laid_math_bits_deBruijn64tab), ("tsblock/crc.table", laid_tsblock_crc_table), ("tsblock/times.forms", laid_tsblock_times_forms)] }
def DecodeMatchesReferenceSaid : Prop := decodeMatchesReferenceRow.holds Tryz.pinned (OpenSpec.ofChange decodeMatchesReferenceSpec)

/-- ITS FALSE NEIGHBOUR: 'it returns false'. Refute it at one input. -/
def decodeMatchesReferenceWrong : ChangeSpec := { name := "decodeMatchesReference", fn := fun _ => fun
  | [d] => { results := [.lit (.bool false)], args := [d] }
  | _ => none }
def DecodeMatchesReferenceWrongFalsely : Prop := decodeMatchesReferenceRow.holds Tryz.pinned (OpenSpec.ofChange decodeMatchesReferenceWrong)

/-- 'tsblocklaw18.DecodeSections': WHATEVER THE INPUT: true; the input reads as it did. -/
def decodeSectionsSpec : ChangeSpec := { name := "decodeSections", fn := fun _ => fun
  | [d] => { results := [.lit (.bool true)], args := [d] }
  | _ => none }
def decodeSectionsRow : OpenClaim := { program := "ytmmonehfnfbpbaagreatdoor", sum := "4574a843b98546e21660d17c0e5b296216652c84989cdb82cba6b39fe254cdcc", func := "tsblock/tsblocklaw18.DecodeSections", spec := "decodeSections", unfollowed := true, recurses := true, named := ["math/bits.deBruijn64tab", "tsblock/times.forms", "tsblock/crc.table"], plainKeys := false, apart := false, laid := [("math/bits.deBruijn64tab", laid_math_bits_deBruijn64tab), ("tsblock/crc.table", laid_tsblock_crc_table), ("tsblock/times.forms", laid_tsblock_times_forms)] }
def DecodeSectionsSaid : Prop := decodeSectionsRow.holds Tryz.pinned (OpenSpec.ofChange decodeSectionsSpec)

/-- ITS FALSE NEIGHBOUR: 'it returns false'. Refute it at one input. -/
def decodeSectionsWrong : ChangeSpec := { name := "decodeSections", fn := fun _ => fun
  | [d] => { results := [.lit (.bool false)], args := [d] }
  | _ => none }
def DecodeSectionsWrongFalsely : Prop := decodeSectionsRow.holds Tryz.pinned (OpenSpec.ofChange decodeSectionsWrong)

/-- 'tsblocklaw18.DecodeChunks': WHATEVER THE INPUT: true; the input reads as it did. -/
def decodeChunksSpec : ChangeSpec := { name := "decodeChunks", fn := fun _ => fun
  | [d1, d2] => { results := [.lit (.bool true)], args := [d1, d2] }
  | _ => none }
def decodeChunksRow : OpenClaim := { program := "ytmmonehfnfbpbaagreatdoor", sum := "4574a843b98546e21660d17c0e5b296216652c84989cdb82cba6b39fe254cdcc", func := "tsblock/tsblocklaw18.DecodeChunks", spec := "decodeChunks", unfollowed := true, recurses := true, named := ["math/bits.deBruijn64tab", "tsblock/times.forms", "tsblock/crc.table"], plainKeys := false, apart := false, laid := [("math/bits.deBruijn64tab", laid_math_bits_deBruijn64tab), ("tsblock/crc.table", laid_tsblock_crc_table), ("tsblock/times.forms", laid_tsblock_times_forms)] }
def DecodeChunksSaid : Prop := decodeChunksRow.holds Tryz.pinned (OpenSpec.ofChange decodeChunksSpec)

/-- ITS FALSE NEIGHBOUR: 'it returns false'. Refute it at one input. -/
def decodeChunksWrong : ChangeSpec := { name := "decodeChunks", fn := fun _ => fun
  | [d1, d2] => { results := [.lit (.bool false)], args := [d1, d2] }
  | _ => none }
def DecodeChunksWrongFalsely : Prop := decodeChunksRow.holds Tryz.pinned (OpenSpec.ofChange decodeChunksWrong)

/-- 'tsblocklaw18.DecodeRoundTrip': WHATEVER THE INPUT: true; the input reads as it did. -/
def decodeRoundTripSpec : ChangeSpec := { name := "decodeRoundTrip", fn := fun _ => fun
  | [d] => { results := [.lit (.bool true)], args := [d] }
  | _ => none }
def decodeRoundTripRow : OpenClaim := { program := "ytmmonehfnfbpbaagreatdoor", sum := "4574a843b98546e21660d17c0e5b296216652c84989cdb82cba6b39fe254cdcc", func := "tsblock/tsblocklaw18.DecodeRoundTrip", spec := "decodeRoundTrip", unfollowed := true, recurses := true, named := ["math/bits.deBruijn64tab", "tsblock/times.forms", "tsblock/crc.table"], plainKeys := false, apart := false, laid := [("math/bits.deBruijn64tab", laid_math_bits_deBruijn64tab), ("tsblock/crc.table", laid_tsblock_crc_table), ("tsblock/times.forms", laid_tsblock_times_forms)] }
def DecodeRoundTripSaid : Prop := decodeRoundTripRow.holds Tryz.pinned (OpenSpec.ofChange decodeRoundTripSpec)

/-- ITS FALSE NEIGHBOUR: 'it returns false'. Refute it at one input. -/
def decodeRoundTripWrong : ChangeSpec := { name := "decodeRoundTrip", fn := fun _ => fun
  | [d] => { results := [.lit (.bool false)], args := [d] }
  | _ => none }
def DecodeRoundTripWrongFalsely : Prop := decodeRoundTripRow.holds Tryz.pinned (OpenSpec.ofChange decodeRoundTripWrong)

/-- 'tsblocklaw18.DecodeIsCanonical': WHATEVER THE INPUT: true; the input reads as it did. -/
def decodeIsCanonicalSpec : ChangeSpec := { name := "decodeIsCanonical", fn := fun _ => fun
  | [d] => { results := [.lit (.bool true)], args := [d] }
  | _ => none }
def decodeIsCanonicalRow : OpenClaim := { program := "ytmmonehfnfbpbaagreatdoor", sum := "4574a843b98546e21660d17c0e5b296216652c84989cdb82cba6b39fe254cdcc", func := "tsblock/tsblocklaw18.DecodeIsCanonical", spec := "decodeIsCanonical", unfollowed := true, recurses := true, named := ["math/bits.deBruijn64tab", "tsblock/times.forms", "tsblock/crc.table"], plainKeys := false, apart := false, laid := [("math/bits.deBruijn64tab", laid_math_bits_deBruijn64tab), ("tsblock/crc.table", laid_tsblock_crc_table), ("tsblock/times.forms", laid_tsblock_times_forms)] }
def DecodeIsCanonicalSaid : Prop := decodeIsCanonicalRow.holds Tryz.pinned (OpenSpec.ofChange decodeIsCanonicalSpec)

/-- ITS FALSE NEIGHBOUR: 'it returns false'. Refute it at one input. -/
def decodeIsCanonicalWrong : ChangeSpec := { name := "decodeIsCanonical", fn := fun _ => fun
  | [d] => { results := [.lit (.bool false)], args := [d] }
  | _ => none }
def DecodeIsCanonicalWrongFalsely : Prop := decodeIsCanonicalRow.holds Tryz.pinned (OpenSpec.ofChange decodeIsCanonicalWrong)

/-- 'tsblocklaw18.DecodeFindsBursts': WHATEVER THE INPUT: true; the input reads as it did. -/
def decodeFindsBurstsSpec : ChangeSpec := { name := "decodeFindsBursts", fn := fun _ => fun
  | [d1, d2, d3] => { results := [.lit (.bool true)], args := [d1, d2, d3] }
  | _ => none }
def decodeFindsBurstsRow : OpenClaim := { program := "ytmmonehfnfbpbaagreatdoor", sum := "4574a843b98546e21660d17c0e5b296216652c84989cdb82cba6b39fe254cdcc", func := "tsblock/tsblocklaw18.DecodeFindsBursts", spec := "decodeFindsBursts", unfollowed := true, recurses := true, named := ["math/bits.deBruijn64tab", "tsblock/times.forms", "tsblock/crc.table"], plainKeys := false, apart := false, laid := [("math/bits.deBruijn64tab", laid_math_bits_deBruijn64tab), ("tsblock/crc.table", laid_tsblock_crc_table), ("tsblock/times.forms", laid_tsblock_times_forms)] }
def DecodeFindsBurstsSaid : Prop := decodeFindsBurstsRow.holds Tryz.pinned (OpenSpec.ofChange decodeFindsBurstsSpec)

/-- ITS FALSE NEIGHBOUR: 'it returns false'. Refute it at one input. -/
def decodeFindsBurstsWrong : ChangeSpec := { name := "decodeFindsBursts", fn := fun _ => fun
  | [d1, d2, d3] => { results := [.lit (.bool false)], args := [d1, d2, d3] }
  | _ => none }
def DecodeFindsBurstsWrongFalsely : Prop := decodeFindsBurstsRow.holds Tryz.pinned (OpenSpec.ofChange decodeFindsBurstsWrong)

/- THE SECOND FORM. 'bulk': how many values and letters a reading holds, each counted each time it is reached (what is shared counts as often as it is met; a slice's spare places count too). A statement '..UptoSaid' is the law's where the arguments, and the package variables that the reading takes, are together of bulk at most 1048576: NARROWER than '..Said'. Prove '..Said' where nothing that the law and all that it calls make is longer than what came in: it says more and counts as full. Else prove '..UptoSaid'. A law counts once. -/
mutual
def uptoBulk {H : Type} : DataW H → Nat
  | .lit (.string bytes) => bytes.length + 1
  | .lit _ => 1
  | .nil => 1
  | .ptr d => uptoBulk d + 1
  | .slice elems spare => uptoBulkAll elems + uptoBulkAll spare + 1
  | .agg parts => uptoBulkAll parts + 1
  | .iface _ d => uptoBulk d + 1
  | .map entries => uptoBulkEntries entries + 1
  | .held _ => 1
def uptoBulkAll {H : Type} : List (DataW H) → Nat
  | [] => 0
  | d :: r => uptoBulk d + uptoBulkAll r
def uptoBulkEntries {H : Type} : List (Lit × DataW H) → Nat
  | [] => 0
  | x :: r => uptoBulkEntry x + uptoBulkEntries r
def uptoBulkEntry {H : Type} : Lit × DataW H → Nat
  | (.string bytes, d) => bytes.length + uptoBulk d + 1
  | (_, d) => uptoBulk d + 1
 end
def uptoSmall : (H : Type) → List (DataW H) → Bool := fun _ ds => decide (uptoBulkAll ds ≤ 1048576)
def OpenSpec.upto (s : _root_.Go.ChangeSpec) : _root_.Go.OpenSpec := { _root_.Go.OpenSpec.ofChange s with cond := some uptoSmall }

/-- 'tsblocklaw19.PieceCloses', WHERE WHAT IT READS IS OF BULK AT MOST 1048576: true; the input reads as it did. -/
def pieceClosesUptoRow : OpenClaim := { program := "ytmmonehfnfbpbaagreatdoor", sum := "4574a843b98546e21660d17c0e5b296216652c84989cdb82cba6b39fe254cdcc", func := "tsblock/tsblocklaw19.PieceCloses", spec := "pieceCloses", unfollowed := true, recurses := true, named := ["tsblock/crc.table", "tsblock/times.forms", "math/bits.deBruijn64tab"], plainKeys := false, apart := false, laid := [("math/bits.deBruijn64tab", laid_math_bits_deBruijn64tab), ("tsblock/crc.table", laid_tsblock_crc_table), ("tsblock/times.forms", laid_tsblock_times_forms)], narrowed := true }
def PieceClosesUptoSaid : Prop := pieceClosesUptoRow.holds Tryz.pinned (OpenSpec.upto pieceClosesSpec)

/-- 'tsblocklaw19.PieceProgress', WHERE WHAT IT READS IS OF BULK AT MOST 1048576: true; the input reads as it did. -/
def pieceProgressUptoRow : OpenClaim := { program := "ytmmonehfnfbpbaagreatdoor", sum := "4574a843b98546e21660d17c0e5b296216652c84989cdb82cba6b39fe254cdcc", func := "tsblock/tsblocklaw19.PieceProgress", spec := "pieceProgress", unfollowed := true, recurses := true, named := ["tsblock/crc.table", "tsblock/times.forms", "math/bits.deBruijn64tab"], plainKeys := false, apart := false, laid := [("math/bits.deBruijn64tab", laid_math_bits_deBruijn64tab), ("tsblock/crc.table", laid_tsblock_crc_table), ("tsblock/times.forms", laid_tsblock_times_forms)], narrowed := true }
def PieceProgressUptoSaid : Prop := pieceProgressUptoRow.holds Tryz.pinned (OpenSpec.upto pieceProgressSpec)

/-- 'tsblocklaw19.PieceStays', WHERE WHAT IT READS IS OF BULK AT MOST 1048576: true; the input reads as it did. -/
def pieceStaysUptoRow : OpenClaim := { program := "ytmmonehfnfbpbaagreatdoor", sum := "4574a843b98546e21660d17c0e5b296216652c84989cdb82cba6b39fe254cdcc", func := "tsblock/tsblocklaw19.PieceStays", spec := "pieceStays", unfollowed := true, recurses := true, named := ["tsblock/crc.table", "tsblock/times.forms", "math/bits.deBruijn64tab"], plainKeys := false, apart := false, laid := [("math/bits.deBruijn64tab", laid_math_bits_deBruijn64tab), ("tsblock/crc.table", laid_tsblock_crc_table), ("tsblock/times.forms", laid_tsblock_times_forms)], narrowed := true }
def PieceStaysUptoSaid : Prop := pieceStaysUptoRow.holds Tryz.pinned (OpenSpec.upto pieceStaysSpec)

/-- 'tsblocklaw19.PieceCopies', WHERE WHAT IT READS IS OF BULK AT MOST 1048576: true; the input reads as it did. -/
def pieceCopiesUptoRow : OpenClaim := { program := "ytmmonehfnfbpbaagreatdoor", sum := "4574a843b98546e21660d17c0e5b296216652c84989cdb82cba6b39fe254cdcc", func := "tsblock/tsblocklaw19.PieceCopies", spec := "pieceCopies", unfollowed := true, recurses := true, named := ["tsblock/crc.table", "tsblock/times.forms", "math/bits.deBruijn64tab"], plainKeys := false, apart := false, laid := [("math/bits.deBruijn64tab", laid_math_bits_deBruijn64tab), ("tsblock/crc.table", laid_tsblock_crc_table), ("tsblock/times.forms", laid_tsblock_times_forms)], narrowed := true }
def PieceCopiesUptoSaid : Prop := pieceCopiesUptoRow.holds Tryz.pinned (OpenSpec.upto pieceCopiesSpec)

/-- 'tsblocklaw19.PiecePrefixes', WHERE WHAT IT READS IS OF BULK AT MOST 1048576: true; the input reads as it did. -/
def piecePrefixesUptoRow : OpenClaim := { program := "ytmmonehfnfbpbaagreatdoor", sum := "4574a843b98546e21660d17c0e5b296216652c84989cdb82cba6b39fe254cdcc", func := "tsblock/tsblocklaw19.PiecePrefixes", spec := "piecePrefixes", unfollowed := true, recurses := true, named := ["tsblock/crc.table", "tsblock/times.forms", "math/bits.deBruijn64tab"], plainKeys := false, apart := false, laid := [("math/bits.deBruijn64tab", laid_math_bits_deBruijn64tab), ("tsblock/crc.table", laid_tsblock_crc_table), ("tsblock/times.forms", laid_tsblock_times_forms)], narrowed := true }
def PiecePrefixesUptoSaid : Prop := piecePrefixesUptoRow.holds Tryz.pinned (OpenSpec.upto piecePrefixesSpec)

/-- 'tsblocklaw19.PieceNil', WHERE WHAT IT READS IS OF BULK AT MOST 1048576: true; the input reads as it did. -/
def pieceNilUptoRow : OpenClaim := { program := "ytmmonehfnfbpbaagreatdoor", sum := "4574a843b98546e21660d17c0e5b296216652c84989cdb82cba6b39fe254cdcc", func := "tsblock/tsblocklaw19.PieceNil", spec := "pieceNil", unfollowed := true, recurses := true, named := ["tsblock/crc.table", "tsblock/times.forms", "math/bits.deBruijn64tab"], plainKeys := false, apart := false, laid := [("math/bits.deBruijn64tab", laid_math_bits_deBruijn64tab), ("tsblock/crc.table", laid_tsblock_crc_table), ("tsblock/times.forms", laid_tsblock_times_forms)], narrowed := true }
def PieceNilUptoSaid : Prop := pieceNilUptoRow.holds Tryz.pinned (OpenSpec.upto pieceNilSpec)

/-- 'tsblocklaw18.DecodeMatchesReference', WHERE WHAT IT READS IS OF BULK AT MOST 1048576: true; the input reads as it did. -/
def decodeMatchesReferenceUptoRow : OpenClaim := { program := "ytmmonehfnfbpbaagreatdoor", sum := "4574a843b98546e21660d17c0e5b296216652c84989cdb82cba6b39fe254cdcc", func := "tsblock/tsblocklaw18.DecodeMatchesReference", spec := "decodeMatchesReference", unfollowed := true, recurses := true, named := ["math/bits.deBruijn64tab", "tsblock/times.forms", "tsblock/crc.table"], plainKeys := false, apart := false, laid := [("math/bits.deBruijn64tab", laid_math_bits_deBruijn64tab), ("tsblock/crc.table", laid_tsblock_crc_table), ("tsblock/times.forms", laid_tsblock_times_forms)], narrowed := true }
def DecodeMatchesReferenceUptoSaid : Prop := decodeMatchesReferenceUptoRow.holds Tryz.pinned (OpenSpec.upto decodeMatchesReferenceSpec)

/-- 'tsblocklaw18.DecodeSections', WHERE WHAT IT READS IS OF BULK AT MOST 1048576: true; the input reads as it did. -/
def decodeSectionsUptoRow : OpenClaim := { program := "ytmmonehfnfbpbaagreatdoor", sum := "4574a843b98546e21660d17c0e5b296216652c84989cdb82cba6b39fe254cdcc", func := "tsblock/tsblocklaw18.DecodeSections", spec := "decodeSections", unfollowed := true, recurses := true, named := ["math/bits.deBruijn64tab", "tsblock/times.forms", "tsblock/crc.table"], plainKeys := false, apart := false, laid := [("math/bits.deBruijn64tab", laid_math_bits_deBruijn64tab), ("tsblock/crc.table", laid_tsblock_crc_table), ("tsblock/times.forms", laid_tsblock_times_forms)], narrowed := true }
def DecodeSectionsUptoSaid : Prop := decodeSectionsUptoRow.holds Tryz.pinned (OpenSpec.upto decodeSectionsSpec)

/-- 'tsblocklaw18.DecodeChunks', WHERE WHAT IT READS IS OF BULK AT MOST 1048576: true; the input reads as it did. -/
def decodeChunksUptoRow : OpenClaim := { program := "ytmmonehfnfbpbaagreatdoor", sum := "4574a843b98546e21660d17c0e5b296216652c84989cdb82cba6b39fe254cdcc", func := "tsblock/tsblocklaw18.DecodeChunks", spec := "decodeChunks", unfollowed := true, recurses := true, named := ["math/bits.deBruijn64tab", "tsblock/times.forms", "tsblock/crc.table"], plainKeys := false, apart := false, laid := [("math/bits.deBruijn64tab", laid_math_bits_deBruijn64tab), ("tsblock/crc.table", laid_tsblock_crc_table), ("tsblock/times.forms", laid_tsblock_times_forms)], narrowed := true }
def DecodeChunksUptoSaid : Prop := decodeChunksUptoRow.holds Tryz.pinned (OpenSpec.upto decodeChunksSpec)

/-- 'tsblocklaw18.DecodeRoundTrip', WHERE WHAT IT READS IS OF BULK AT MOST 1048576: true; the input reads as it did. -/
def decodeRoundTripUptoRow : OpenClaim := { program := "ytmmonehfnfbpbaagreatdoor", sum := "4574a843b98546e21660d17c0e5b296216652c84989cdb82cba6b39fe254cdcc", func := "tsblock/tsblocklaw18.DecodeRoundTrip", spec := "decodeRoundTrip", unfollowed := true, recurses := true, named := ["math/bits.deBruijn64tab", "tsblock/times.forms", "tsblock/crc.table"], plainKeys := false, apart := false, laid := [("math/bits.deBruijn64tab", laid_math_bits_deBruijn64tab), ("tsblock/crc.table", laid_tsblock_crc_table), ("tsblock/times.forms", laid_tsblock_times_forms)], narrowed := true }
def DecodeRoundTripUptoSaid : Prop := decodeRoundTripUptoRow.holds Tryz.pinned (OpenSpec.upto decodeRoundTripSpec)

/-- 'tsblocklaw18.DecodeIsCanonical', WHERE WHAT IT READS IS OF BULK AT MOST 1048576: true; the input reads as it did. -/
def decodeIsCanonicalUptoRow : OpenClaim := { program := "ytmmonehfnfbpbaagreatdoor", sum := "4574a843b98546e21660d17c0e5b296216652c84989cdb82cba6b39fe254cdcc", func := "tsblock/tsblocklaw18.DecodeIsCanonical", spec := "decodeIsCanonical", unfollowed := true, recurses := true, named := ["math/bits.deBruijn64tab", "tsblock/times.forms", "tsblock/crc.table"], plainKeys := false, apart := false, laid := [("math/bits.deBruijn64tab", laid_math_bits_deBruijn64tab), ("tsblock/crc.table", laid_tsblock_crc_table), ("tsblock/times.forms", laid_tsblock_times_forms)], narrowed := true }
def DecodeIsCanonicalUptoSaid : Prop := decodeIsCanonicalUptoRow.holds Tryz.pinned (OpenSpec.upto decodeIsCanonicalSpec)

/-- 'tsblocklaw18.DecodeFindsBursts', WHERE WHAT IT READS IS OF BULK AT MOST 1048576: true; the input reads as it did. -/
def decodeFindsBurstsUptoRow : OpenClaim := { program := "ytmmonehfnfbpbaagreatdoor", sum := "4574a843b98546e21660d17c0e5b296216652c84989cdb82cba6b39fe254cdcc", func := "tsblock/tsblocklaw18.DecodeFindsBursts", spec := "decodeFindsBursts", unfollowed := true, recurses := true, named := ["math/bits.deBruijn64tab", "tsblock/times.forms", "tsblock/crc.table"], plainKeys := false, apart := false, laid := [("math/bits.deBruijn64tab", laid_math_bits_deBruijn64tab), ("tsblock/crc.table", laid_tsblock_crc_table), ("tsblock/times.forms", laid_tsblock_times_forms)], narrowed := true }
def DecodeFindsBurstsUptoSaid : Prop := decodeFindsBurstsUptoRow.holds Tryz.pinned (OpenSpec.upto decodeFindsBurstsSpec)

end Rows
end Go.Proofs.YtmmonehfnfbpbaaGreatDoor
