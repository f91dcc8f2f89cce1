/-
  NARROWER THAN 'FOR EVERY INPUT', by the rows' own cells (each row's printed sentence says how): EncodeMatchesReference: laid · EncodeSections: laid · EncodeRaw: laid · EncodeAgrees: laid · EncodeLengths: laid · EncodeDiffers: laid.
  DERIVED. THE GIVEN ROWS OF THIS SEAT. 6 by the template 'for every input the law returns true; each argument reads behind the call as it read before'; 0 by the template 'total and deterministic' (their statements: YtobfpajapgakdaaGreatDoorTotals.lean).
  GIVEN WITH THE SEED: the statements are not yours to turn. If you find one false, say at which input.
  Laid BY PROGRAM, IN A SANDBOX (cutbox-rows.mjs): the forced cells as the released guide's own fill.sh prints them over the translation 553b49c3de2287db… (all of the seat's roots in one cut). By AI agents, Wed Nov 11 2026. No macro, syntax, notation, axiom, sorry.
-/
import Derived.Test.YtobfpajapgakdaaGreatDoorChecked
import GoSem.Claim
import GoSem.ClaimJoined
import GoSem.ClaimMapViews
import Derived.JoinedTies
import Derived.KernelRfl
namespace Go.Proofs.YtobfpajapgakdaaGreatDoor
/- THE CELL 'sum', in the pinned program and in every row, IS THE sha256 OF THE DUMP (.gsa) THAT YtobfpajapgakdaaGreatDoorProg.lean LOADS. Nothing in Lean hashes anything: it is a label: what it is worth is what the hold of that sum in a sandbox is worth. -/
noncomputable def Tryz.pinned : Pinned := { name := "ytobfpajapgakdaagreatdoor", sum := "553b49c3de2287db1b2e82e7e53afd4da86f40ce974f6c5f4dcbebf219d49481", checked := Tryz.checked }
namespace Rows
def none {H : Type} : Left H := { results := [], args := [] }

/- WHAT THE LISTED PACKAGE-LEVEL VARIABLES READ AS WHEN THE CALL BEGINS. Each datum BY PROGRAM (the guide's laid-datum.mjs) off the statement by which the dump's own 'gosem.cut.vars' lays the variable. In a bare row this is a premise. The card (YtobfpajapgakdaaGreatDoorCards.lean) ties it to the program's text. -/
def laid_math_bits_deBruijn64tab {H : Type} : DataW H := .agg [.lit (.int .u8 0), .lit (.int .u8 1), .lit (.int .u8 56), .lit (.int .u8 2), .lit (.int .u8 57), .lit (.int .u8 49), .lit (.int .u8 28), .lit (.int .u8 3), .lit (.int .u8 61), .lit (.int .u8 58), .lit (.int .u8 42), .lit (.int .u8 50), .lit (.int .u8 38), .lit (.int .u8 29), .lit (.int .u8 17), .lit (.int .u8 4), .lit (.int .u8 62), .lit (.int .u8 47), .lit (.int .u8 59), .lit (.int .u8 36), .lit (.int .u8 45), .lit (.int .u8 43), .lit (.int .u8 51), .lit (.int .u8 22), .lit (.int .u8 53), .lit (.int .u8 39), .lit (.int .u8 33), .lit (.int .u8 30), .lit (.int .u8 24), .lit (.int .u8 18), .lit (.int .u8 12), .lit (.int .u8 5), .lit (.int .u8 63), .lit (.int .u8 55), .lit (.int .u8 48), .lit (.int .u8 27), .lit (.int .u8 60), .lit (.int .u8 41), .lit (.int .u8 37), .lit (.int .u8 16), .lit (.int .u8 46), .lit (.int .u8 35), .lit (.int .u8 44), .lit (.int .u8 21), .lit (.int .u8 52), .lit (.int .u8 32), .lit (.int .u8 23), .lit (.int .u8 11), .lit (.int .u8 54), .lit (.int .u8 26), .lit (.int .u8 40), .lit (.int .u8 15), .lit (.int .u8 34), .lit (.int .u8 20), .lit (.int .u8 31), .lit (.int .u8 10), .lit (.int .u8 25), .lit (.int .u8 14), .lit (.int .u8 19), .lit (.int .u8 9), .lit (.int .u8 13), .lit (.int .u8 8), .lit (.int .u8 7), .lit (.int .u8 6)]
def laid_tsblock_crc_table {H : Type} : DataW H := .agg [.lit (.int .u32 0), .lit (.int .u32 498536548), .lit (.int .u32 997073096), .lit (.int .u32 651767980), .lit (.int .u32 1994146192), .lit (.int .u32 1802195444), .lit (.int .u32 1303535960), .lit (.int .u32 1342533948), .lit (.int .u32 3988292384), .lit (.int .u32 4027552580), .lit (.int .u32 3604390888), .lit (.int .u32 3412177804), .lit (.int .u32 2607071920), .lit (.int .u32 2262029012), .lit (.int .u32 2685067896), .lit (.int .u32 3183342108)]
def laid_tsblock_times_forms {H : Type} : DataW H := .agg [.agg [.lit (.int .u64 0), .lit (.int .i64 1), .lit (.int .i64 0)], .agg [.lit (.int .u64 2), .lit (.int .i64 2), .lit (.int .i64 7)], .agg [.lit (.int .u64 6), .lit (.int .i64 3), .lit (.int .i64 12)], .agg [.lit (.int .u64 14), .lit (.int .i64 4), .lit (.int .i64 32)], .agg [.lit (.int .u64 15), .lit (.int .i64 4), .lit (.int .i64 64)]]

/-- 'tsblocklaw17.EncodeMatchesReference': WHATEVER THE INPUT: true; the input reads as it did. -/
def encodeMatchesReferenceSpec : ChangeSpec := { name := "encodeMatchesReference", fn := fun _ => fun
  | [d] => { results := [.lit (.bool true)], args := [d] }
  | _ => none }
def encodeMatchesReferenceRow : OpenClaim := { program := "ytobfpajapgakdaagreatdoor", sum := "553b49c3de2287db1b2e82e7e53afd4da86f40ce974f6c5f4dcbebf219d49481", func := "tsblock/tsblocklaw17.EncodeMatchesReference", spec := "encodeMatchesReference", unfollowed := true, recurses := true, named := ["math/bits.deBruijn64tab", "tsblock/times.forms", "tsblock/crc.table"], plainKeys := false, apart := false, laid := [("math/bits.deBruijn64tab", laid_math_bits_deBruijn64tab), ("tsblock/crc.table", laid_tsblock_crc_table), ("tsblock/times.forms", laid_tsblock_times_forms)] }
def EncodeMatchesReferenceSaid : Prop := encodeMatchesReferenceRow.holds Tryz.pinned (OpenSpec.ofChange encodeMatchesReferenceSpec)

/-- ITS FALSE NEIGHBOUR: 'it returns false'. Refute it at one input. -/
def encodeMatchesReferenceWrong : ChangeSpec := { name := "encodeMatchesReference", fn := fun _ => fun
  | [d] => { results := [.lit (.bool false)], args := [d] }
  | _ => none }
def EncodeMatchesReferenceWrongFalsely : Prop := encodeMatchesReferenceRow.holds Tryz.pinned (OpenSpec.ofChange encodeMatchesReferenceWrong)

/-- 'tsblocklaw17.EncodeSections': WHATEVER THE INPUT: true; the input reads as it did. -/
def encodeSectionsSpec : ChangeSpec := { name := "encodeSections", fn := fun _ => fun
  | [d] => { results := [.lit (.bool true)], args := [d] }
  | _ => none }
def encodeSectionsRow : OpenClaim := { program := "ytobfpajapgakdaagreatdoor", sum := "553b49c3de2287db1b2e82e7e53afd4da86f40ce974f6c5f4dcbebf219d49481", func := "tsblock/tsblocklaw17.EncodeSections", spec := "encodeSections", unfollowed := true, recurses := true, named := ["math/bits.deBruijn64tab", "tsblock/times.forms", "tsblock/crc.table"], plainKeys := false, apart := false, laid := [("math/bits.deBruijn64tab", laid_math_bits_deBruijn64tab), ("tsblock/crc.table", laid_tsblock_crc_table), ("tsblock/times.forms", laid_tsblock_times_forms)] }
def EncodeSectionsSaid : Prop := encodeSectionsRow.holds Tryz.pinned (OpenSpec.ofChange encodeSectionsSpec)

/-- ITS FALSE NEIGHBOUR: 'it returns false'. Refute it at one input. -/
def encodeSectionsWrong : ChangeSpec := { name := "encodeSections", fn := fun _ => fun
  | [d] => { results := [.lit (.bool false)], args := [d] }
  | _ => none }
def EncodeSectionsWrongFalsely : Prop := encodeSectionsRow.holds Tryz.pinned (OpenSpec.ofChange encodeSectionsWrong)

/-- 'tsblocklaw17.EncodeRaw': WHATEVER THE INPUT: true; the input reads as it did. -/
def encodeRawSpec : ChangeSpec := { name := "encodeRaw", fn := fun _ => fun
  | [d] => { results := [.lit (.bool true)], args := [d] }
  | _ => none }
def encodeRawRow : OpenClaim := { program := "ytobfpajapgakdaagreatdoor", sum := "553b49c3de2287db1b2e82e7e53afd4da86f40ce974f6c5f4dcbebf219d49481", func := "tsblock/tsblocklaw17.EncodeRaw", spec := "encodeRaw", unfollowed := true, recurses := true, named := ["math/bits.deBruijn64tab", "tsblock/times.forms", "tsblock/crc.table"], plainKeys := false, apart := false, laid := [("math/bits.deBruijn64tab", laid_math_bits_deBruijn64tab), ("tsblock/crc.table", laid_tsblock_crc_table), ("tsblock/times.forms", laid_tsblock_times_forms)] }
def EncodeRawSaid : Prop := encodeRawRow.holds Tryz.pinned (OpenSpec.ofChange encodeRawSpec)

/-- ITS FALSE NEIGHBOUR: 'it returns false'. Refute it at one input. -/
def encodeRawWrong : ChangeSpec := { name := "encodeRaw", fn := fun _ => fun
  | [d] => { results := [.lit (.bool false)], args := [d] }
  | _ => none }
def EncodeRawWrongFalsely : Prop := encodeRawRow.holds Tryz.pinned (OpenSpec.ofChange encodeRawWrong)

/-- 'tsblocklaw17.EncodeAgrees': WHATEVER THE INPUT: true; the input reads as it did. -/
def encodeAgreesSpec : ChangeSpec := { name := "encodeAgrees", fn := fun _ => fun
  | [d] => { results := [.lit (.bool true)], args := [d] }
  | _ => none }
def encodeAgreesRow : OpenClaim := { program := "ytobfpajapgakdaagreatdoor", sum := "553b49c3de2287db1b2e82e7e53afd4da86f40ce974f6c5f4dcbebf219d49481", func := "tsblock/tsblocklaw17.EncodeAgrees", spec := "encodeAgrees", unfollowed := true, recurses := true, named := ["math/bits.deBruijn64tab", "tsblock/times.forms", "tsblock/crc.table"], plainKeys := false, apart := false, laid := [("math/bits.deBruijn64tab", laid_math_bits_deBruijn64tab), ("tsblock/crc.table", laid_tsblock_crc_table), ("tsblock/times.forms", laid_tsblock_times_forms)] }
def EncodeAgreesSaid : Prop := encodeAgreesRow.holds Tryz.pinned (OpenSpec.ofChange encodeAgreesSpec)

/-- ITS FALSE NEIGHBOUR: 'it returns false'. Refute it at one input. -/
def encodeAgreesWrong : ChangeSpec := { name := "encodeAgrees", fn := fun _ => fun
  | [d] => { results := [.lit (.bool false)], args := [d] }
  | _ => none }
def EncodeAgreesWrongFalsely : Prop := encodeAgreesRow.holds Tryz.pinned (OpenSpec.ofChange encodeAgreesWrong)

/-- 'tsblocklaw17.EncodeLengths': WHATEVER THE INPUT: true; the input reads as it did. -/
def encodeLengthsSpec : ChangeSpec := { name := "encodeLengths", fn := fun _ => fun
  | [d] => { results := [.lit (.bool true)], args := [d] }
  | _ => none }
def encodeLengthsRow : OpenClaim := { program := "ytobfpajapgakdaagreatdoor", sum := "553b49c3de2287db1b2e82e7e53afd4da86f40ce974f6c5f4dcbebf219d49481", func := "tsblock/tsblocklaw17.EncodeLengths", spec := "encodeLengths", unfollowed := true, recurses := true, named := ["math/bits.deBruijn64tab", "tsblock/times.forms", "tsblock/crc.table"], plainKeys := false, apart := false, laid := [("math/bits.deBruijn64tab", laid_math_bits_deBruijn64tab), ("tsblock/crc.table", laid_tsblock_crc_table), ("tsblock/times.forms", laid_tsblock_times_forms)] }
def EncodeLengthsSaid : Prop := encodeLengthsRow.holds Tryz.pinned (OpenSpec.ofChange encodeLengthsSpec)

/-- ITS FALSE NEIGHBOUR: 'it returns false'. Refute it at one input. -/
def encodeLengthsWrong : ChangeSpec := { name := "encodeLengths", fn := fun _ => fun
  | [d] => { results := [.lit (.bool false)], args := [d] }
  | _ => none }
def EncodeLengthsWrongFalsely : Prop := encodeLengthsRow.holds Tryz.pinned (OpenSpec.ofChange encodeLengthsWrong)

/-- 'tsblocklaw17.EncodeDiffers': WHATEVER THE INPUT: true; the input reads as it did. -/
def encodeDiffersSpec : ChangeSpec := { name := "encodeDiffers", fn := fun _ => fun
  | [d1, d2] => { results := [.lit (.bool true)], args := [d1, d2] }
  | _ => none }
def encodeDiffersRow : OpenClaim := { program := "ytobfpajapgakdaagreatdoor", sum := "553b49c3de2287db1b2e82e7e53afd4da86f40ce974f6c5f4dcbebf219d49481", func := "tsblock/tsblocklaw17.EncodeDiffers", spec := "encodeDiffers", unfollowed := true, recurses := true, named := ["math/bits.deBruijn64tab", "tsblock/times.forms", "tsblock/crc.table"], plainKeys := false, apart := false, laid := [("math/bits.deBruijn64tab", laid_math_bits_deBruijn64tab), ("tsblock/crc.table", laid_tsblock_crc_table), ("tsblock/times.forms", laid_tsblock_times_forms)] }
def EncodeDiffersSaid : Prop := encodeDiffersRow.holds Tryz.pinned (OpenSpec.ofChange encodeDiffersSpec)

/-- ITS FALSE NEIGHBOUR: 'it returns false'. Refute it at one input. -/
def encodeDiffersWrong : ChangeSpec := { name := "encodeDiffers", fn := fun _ => fun
  | [d1, d2] => { results := [.lit (.bool false)], args := [d1, d2] }
  | _ => none }
def EncodeDiffersWrongFalsely : Prop := encodeDiffersRow.holds Tryz.pinned (OpenSpec.ofChange encodeDiffersWrong)

/- THE SECOND FORM. 'bulk': how many values and letters a reading holds, each counted each time it is reached (what is shared counts as often as it is met; a slice's spare places count too). A statement '..UptoSaid' is the law's where the arguments, and the package variables that the reading takes, are together of bulk at most 1048576: NARROWER than '..Said'. Prove '..Said' where nothing that the law and all that it calls make is longer than what came in: it says more and counts as full. Else prove '..UptoSaid'. A law counts once. -/
mutual
def uptoBulk {H : Type} : DataW H → Nat
  | .lit (.string bytes) => bytes.length + 1
  | .lit _ => 1
  | .nil => 1
  | .ptr d => uptoBulk d + 1
  | .slice elems spare => uptoBulkAll elems + uptoBulkAll spare + 1
  | .agg parts => uptoBulkAll parts + 1
  | .iface _ d => uptoBulk d + 1
  | .map entries => uptoBulkEntries entries + 1
  | .held _ => 1
def uptoBulkAll {H : Type} : List (DataW H) → Nat
  | [] => 0
  | d :: r => uptoBulk d + uptoBulkAll r
def uptoBulkEntries {H : Type} : List (Lit × DataW H) → Nat
  | [] => 0
  | x :: r => uptoBulkEntry x + uptoBulkEntries r
def uptoBulkEntry {H : Type} : Lit × DataW H → Nat
  | (.string bytes, d) => bytes.length + uptoBulk d + 1
  | (_, d) => uptoBulk d + 1
 end
def uptoSmall : (H : Type) → List (DataW H) → Bool := fun _ ds => decide (uptoBulkAll ds ≤ 1048576)
def OpenSpec.upto (s : _root_.Go.ChangeSpec) : _root_.Go.OpenSpec := { _root_.Go.OpenSpec.ofChange s with cond := some uptoSmall }

/-- 'tsblocklaw17.EncodeMatchesReference', WHERE WHAT IT READS IS OF BULK AT MOST 1048576: true; the input reads as it did. -/
def encodeMatchesReferenceUptoRow : OpenClaim := { program := "ytobfpajapgakdaagreatdoor", sum := "553b49c3de2287db1b2e82e7e53afd4da86f40ce974f6c5f4dcbebf219d49481", func := "tsblock/tsblocklaw17.EncodeMatchesReference", spec := "encodeMatchesReference", unfollowed := true, recurses := true, named := ["math/bits.deBruijn64tab", "tsblock/times.forms", "tsblock/crc.table"], plainKeys := false, apart := false, laid := [("math/bits.deBruijn64tab", laid_math_bits_deBruijn64tab), ("tsblock/crc.table", laid_tsblock_crc_table), ("tsblock/times.forms", laid_tsblock_times_forms)], narrowed := true }
def EncodeMatchesReferenceUptoSaid : Prop := encodeMatchesReferenceUptoRow.holds Tryz.pinned (OpenSpec.upto encodeMatchesReferenceSpec)

/-- 'tsblocklaw17.EncodeSections', WHERE WHAT IT READS IS OF BULK AT MOST 1048576: true; the input reads as it did. -/
def encodeSectionsUptoRow : OpenClaim := { program := "ytobfpajapgakdaagreatdoor", sum := "553b49c3de2287db1b2e82e7e53afd4da86f40ce974f6c5f4dcbebf219d49481", func := "tsblock/tsblocklaw17.EncodeSections", spec := "encodeSections", unfollowed := true, recurses := true, named := ["math/bits.deBruijn64tab", "tsblock/times.forms", "tsblock/crc.table"], plainKeys := false, apart := false, laid := [("math/bits.deBruijn64tab", laid_math_bits_deBruijn64tab), ("tsblock/crc.table", laid_tsblock_crc_table), ("tsblock/times.forms", laid_tsblock_times_forms)], narrowed := true }
def EncodeSectionsUptoSaid : Prop := encodeSectionsUptoRow.holds Tryz.pinned (OpenSpec.upto encodeSectionsSpec)

/-- 'tsblocklaw17.EncodeRaw', WHERE WHAT IT READS IS OF BULK AT MOST 1048576: true; the input reads as it did. -/
def encodeRawUptoRow : OpenClaim := { program := "ytobfpajapgakdaagreatdoor", sum := "553b49c3de2287db1b2e82e7e53afd4da86f40ce974f6c5f4dcbebf219d49481", func := "tsblock/tsblocklaw17.EncodeRaw", spec := "encodeRaw", unfollowed := true, recurses := true, named := ["math/bits.deBruijn64tab", "tsblock/times.forms", "tsblock/crc.table"], plainKeys := false, apart := false, laid := [("math/bits.deBruijn64tab", laid_math_bits_deBruijn64tab), ("tsblock/crc.table", laid_tsblock_crc_table), ("tsblock/times.forms", laid_tsblock_times_forms)], narrowed := true }
def EncodeRawUptoSaid : Prop := encodeRawUptoRow.holds Tryz.pinned (OpenSpec.upto encodeRawSpec)

/-- 'tsblocklaw17.EncodeAgrees', WHERE WHAT IT READS IS OF BULK AT MOST 1048576: true; the input reads as it did. -/
def encodeAgreesUptoRow : OpenClaim := { program := "ytobfpajapgakdaagreatdoor", sum := "553b49c3de2287db1b2e82e7e53afd4da86f40ce974f6c5f4dcbebf219d49481", func := "tsblock/tsblocklaw17.EncodeAgrees", spec := "encodeAgrees", unfollowed := true, recurses := true, named := ["math/bits.deBruijn64tab", "tsblock/times.forms", "tsblock/crc.table"], plainKeys := false, apart := false, laid := [("math/bits.deBruijn64tab", laid_math_bits_deBruijn64tab), ("tsblock/crc.table", laid_tsblock_crc_table), ("tsblock/times.forms", laid_tsblock_times_forms)], narrowed := true }
def EncodeAgreesUptoSaid : Prop := encodeAgreesUptoRow.holds Tryz.pinned (OpenSpec.upto encodeAgreesSpec)

/-- 'tsblocklaw17.EncodeLengths', WHERE WHAT IT READS IS OF BULK AT MOST 1048576: true; the input reads as it did. -/
def encodeLengthsUptoRow : OpenClaim := { program := "ytobfpajapgakdaagreatdoor", sum := "553b49c3de2287db1b2e82e7e53afd4da86f40ce974f6c5f4dcbebf219d49481", func := "tsblock/tsblocklaw17.EncodeLengths", spec := "encodeLengths", unfollowed := true, recurses := true, named := ["math/bits.deBruijn64tab", "tsblock/times.forms", "tsblock/crc.table"], plainKeys := false, apart := false, laid := [("math/bits.deBruijn64tab", laid_math_bits_deBruijn64tab), ("tsblock/crc.table", laid_tsblock_crc_table), ("tsblock/times.forms", laid_tsblock_times_forms)], narrowed := true }
def EncodeLengthsUptoSaid : Prop := encodeLengthsUptoRow.holds Tryz.pinned (OpenSpec.upto encodeLengthsSpec)

/-- 'tsblocklaw17.EncodeDiffers', WHERE WHAT IT READS IS OF BULK AT MOST 1048576: true; the input reads as it did. -/
def encodeDiffersUptoRow : OpenClaim := { program := "ytobfpajapgakdaagreatdoor", sum := "553b49c3de2287db1b2e82e7e53afd4da86f40ce974f6c5f4dcbebf219d49481", func := "tsblock/tsblocklaw17.EncodeDiffers", spec := "encodeDiffers", unfollowed := true, recurses := true, named := ["math/bits.deBruijn64tab", "tsblock/times.forms", "tsblock/crc.table"], plainKeys := false, apart := false, laid := [("math/bits.deBruijn64tab", laid_math_bits_deBruijn64tab), ("tsblock/crc.table", laid_tsblock_crc_table), ("tsblock/times.forms", laid_tsblock_times_forms)], narrowed := true }
def EncodeDiffersUptoSaid : Prop := encodeDiffersUptoRow.holds Tryz.pinned (OpenSpec.upto encodeDiffersSpec)

end Rows
end Go.Proofs.YtobfpajapgakdaaGreatDoor
