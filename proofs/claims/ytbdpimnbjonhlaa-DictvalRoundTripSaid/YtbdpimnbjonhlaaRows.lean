/-
  No cell of these rows narrows 'for every input' (looked for: loops, veiled, ifaces, maps, wideKeys, modest, calm, conditions, laid).
  DERIVED. THE GIVEN ROWS OF THIS SEAT. 6 by the template 'for every input the law returns true; each argument reads behind the call as it read before'; 0 by the template 'total and deterministic' (their statements: YtbdpimnbjonhlaaTotals.lean).
  GIVEN WITH THE SEED: the statements are not yours to turn. If you find one false, say at which input.
  Laid BY PROGRAM, IN A SANDBOX (cutbox-rows.mjs): the forced cells as the released guide's own fill.sh prints them over the translation a09d913f7e086107… (all of the seat's roots in one cut). By AI agents, Wed Nov 11 2026. No macro, syntax, notation, axiom, sorry.
-/
import Derived.Test.YtbdpimnbjonhlaaChecked
import GoSem.Claim
import GoSem.ClaimJoined
import GoSem.ClaimMapViews
import Derived.JoinedTies
import Derived.KernelRfl
namespace Go.Proofs.Ytbdpimnbjonhlaa
/- THE CELL 'sum', in the pinned program and in every row, IS THE sha256 OF THE DUMP (.gsa) THAT YtbdpimnbjonhlaaProg.lean LOADS. Nothing in Lean hashes anything: it is a label: what it is worth is what the hold of that sum in a sandbox is worth. -/
noncomputable def Try.pinned : Pinned := { name := "ytbdpimnbjonhlaa", sum := "a09d913f7e0861072746566fa1f34f9ff66c63bf678ec938b129d64c85e6efa3", checked := Try.checked }
namespace Rows
def none {H : Type} : Left H := { results := [], args := [] }

/-- 'tsblocklaw08.DictvalDictionaries': WHATEVER THE INPUT: true; the input reads as it did. -/
def dictvalDictionariesSpec : ChangeSpec := { name := "dictvalDictionaries", fn := fun _ => fun
  | [d1, d2] => { results := [.lit (.bool true)], args := [d1, d2] }
  | _ => none }
def dictvalDictionariesRow : OpenClaim := { program := "ytbdpimnbjonhlaa", sum := "a09d913f7e0861072746566fa1f34f9ff66c63bf678ec938b129d64c85e6efa3", func := "tsblock/tsblocklaw08.DictvalDictionaries", spec := "dictvalDictionaries", recurses := true, apart := false }
def DictvalDictionariesSaid : Prop := dictvalDictionariesRow.holds Try.pinned (OpenSpec.ofChange dictvalDictionariesSpec)

/-- ITS FALSE NEIGHBOUR: 'it returns false'. Refute it at one input. -/
def dictvalDictionariesWrong : ChangeSpec := { name := "dictvalDictionaries", fn := fun _ => fun
  | [d1, d2] => { results := [.lit (.bool false)], args := [d1, d2] }
  | _ => none }
def DictvalDictionariesWrongFalsely : Prop := dictvalDictionariesRow.holds Try.pinned (OpenSpec.ofChange dictvalDictionariesWrong)

/-- 'tsblocklaw08.DictvalReads': WHATEVER THE INPUT: true; the input reads as it did. -/
def dictvalReadsSpec : ChangeSpec := { name := "dictvalReads", fn := fun _ => fun
  | [d1, d2] => { results := [.lit (.bool true)], args := [d1, d2] }
  | _ => none }
def dictvalReadsRow : OpenClaim := { program := "ytbdpimnbjonhlaa", sum := "a09d913f7e0861072746566fa1f34f9ff66c63bf678ec938b129d64c85e6efa3", func := "tsblock/tsblocklaw08.DictvalReads", spec := "dictvalReads", recurses := true, apart := false }
def DictvalReadsSaid : Prop := dictvalReadsRow.holds Try.pinned (OpenSpec.ofChange dictvalReadsSpec)

/-- ITS FALSE NEIGHBOUR: 'it returns false'. Refute it at one input. -/
def dictvalReadsWrong : ChangeSpec := { name := "dictvalReads", fn := fun _ => fun
  | [d1, d2] => { results := [.lit (.bool false)], args := [d1, d2] }
  | _ => none }
def DictvalReadsWrongFalsely : Prop := dictvalReadsRow.holds Try.pinned (OpenSpec.ofChange dictvalReadsWrong)

/-- 'tsblocklaw08.DictvalIsCanonical': WHATEVER THE INPUT: true; the input reads as it did. -/
def dictvalIsCanonicalSpec : ChangeSpec := { name := "dictvalIsCanonical", fn := fun _ => fun
  | [d1, d2] => { results := [.lit (.bool true)], args := [d1, d2] }
  | _ => none }
def dictvalIsCanonicalRow : OpenClaim := { program := "ytbdpimnbjonhlaa", sum := "a09d913f7e0861072746566fa1f34f9ff66c63bf678ec938b129d64c85e6efa3", func := "tsblock/tsblocklaw08.DictvalIsCanonical", spec := "dictvalIsCanonical", recurses := true, apart := false }
def DictvalIsCanonicalSaid : Prop := dictvalIsCanonicalRow.holds Try.pinned (OpenSpec.ofChange dictvalIsCanonicalSpec)

/-- ITS FALSE NEIGHBOUR: 'it returns false'. Refute it at one input. -/
def dictvalIsCanonicalWrong : ChangeSpec := { name := "dictvalIsCanonical", fn := fun _ => fun
  | [d1, d2] => { results := [.lit (.bool false)], args := [d1, d2] }
  | _ => none }
def DictvalIsCanonicalWrongFalsely : Prop := dictvalIsCanonicalRow.holds Try.pinned (OpenSpec.ofChange dictvalIsCanonicalWrong)

/-- 'tsblocklaw08.DictvalWrites': WHATEVER THE INPUT: true; the input reads as it did. -/
def dictvalWritesSpec : ChangeSpec := { name := "dictvalWrites", fn := fun _ => fun
  | [d1, d2] => { results := [.lit (.bool true)], args := [d1, d2] }
  | _ => none }
def dictvalWritesRow : OpenClaim := { program := "ytbdpimnbjonhlaa", sum := "a09d913f7e0861072746566fa1f34f9ff66c63bf678ec938b129d64c85e6efa3", func := "tsblock/tsblocklaw08.DictvalWrites", spec := "dictvalWrites", recurses := true, apart := false }
def DictvalWritesSaid : Prop := dictvalWritesRow.holds Try.pinned (OpenSpec.ofChange dictvalWritesSpec)

/-- ITS FALSE NEIGHBOUR: 'it returns false'. Refute it at one input. -/
def dictvalWritesWrong : ChangeSpec := { name := "dictvalWrites", fn := fun _ => fun
  | [d1, d2] => { results := [.lit (.bool false)], args := [d1, d2] }
  | _ => none }
def DictvalWritesWrongFalsely : Prop := dictvalWritesRow.holds Try.pinned (OpenSpec.ofChange dictvalWritesWrong)

/-- 'tsblocklaw08.DictvalRoundTrip': WHATEVER THE INPUT: true; the input reads as it did. -/
def dictvalRoundTripSpec : ChangeSpec := { name := "dictvalRoundTrip", fn := fun _ => fun
  | [d] => { results := [.lit (.bool true)], args := [d] }
  | _ => none }
def dictvalRoundTripRow : OpenClaim := { program := "ytbdpimnbjonhlaa", sum := "a09d913f7e0861072746566fa1f34f9ff66c63bf678ec938b129d64c85e6efa3", func := "tsblock/tsblocklaw08.DictvalRoundTrip", spec := "dictvalRoundTrip", recurses := true, apart := false }
def DictvalRoundTripSaid : Prop := dictvalRoundTripRow.holds Try.pinned (OpenSpec.ofChange dictvalRoundTripSpec)

/-- ITS FALSE NEIGHBOUR: 'it returns false'. Refute it at one input. -/
def dictvalRoundTripWrong : ChangeSpec := { name := "dictvalRoundTrip", fn := fun _ => fun
  | [d] => { results := [.lit (.bool false)], args := [d] }
  | _ => none }
def DictvalRoundTripWrongFalsely : Prop := dictvalRoundTripRow.holds Try.pinned (OpenSpec.ofChange dictvalRoundTripWrong)

/-- 'tsblocklaw08.DictvalForgetsOrder': WHATEVER THE INPUT: true; the input reads as it did. -/
def dictvalForgetsOrderSpec : ChangeSpec := { name := "dictvalForgetsOrder", fn := fun _ => fun
  | [d1, d2] => { results := [.lit (.bool true)], args := [d1, d2] }
  | _ => none }
def dictvalForgetsOrderRow : OpenClaim := { program := "ytbdpimnbjonhlaa", sum := "a09d913f7e0861072746566fa1f34f9ff66c63bf678ec938b129d64c85e6efa3", func := "tsblock/tsblocklaw08.DictvalForgetsOrder", spec := "dictvalForgetsOrder", recurses := true, apart := false }
def DictvalForgetsOrderSaid : Prop := dictvalForgetsOrderRow.holds Try.pinned (OpenSpec.ofChange dictvalForgetsOrderSpec)

/-- ITS FALSE NEIGHBOUR: 'it returns false'. Refute it at one input. -/
def dictvalForgetsOrderWrong : ChangeSpec := { name := "dictvalForgetsOrder", fn := fun _ => fun
  | [d1, d2] => { results := [.lit (.bool false)], args := [d1, d2] }
  | _ => none }
def DictvalForgetsOrderWrongFalsely : Prop := dictvalForgetsOrderRow.holds Try.pinned (OpenSpec.ofChange dictvalForgetsOrderWrong)

/- THE SECOND FORM. 'bulk': how many values and letters a reading holds, each counted each time it is reached (what is shared counts as often as it is met; a slice's spare places count too). A statement '..UptoSaid' is the law's where the arguments, and the package variables that the reading takes, are together of bulk at most 1048576: NARROWER than '..Said'. Prove '..Said' where nothing that the law and all that it calls make is longer than what came in: it says more and counts as full. Else prove '..UptoSaid'. A law counts once. -/
mutual
def uptoBulk {H : Type} : DataW H → Nat
  | .lit (.string bytes) => bytes.length + 1
  | .lit _ => 1
  | .nil => 1
  | .ptr d => uptoBulk d + 1
  | .slice elems spare => uptoBulkAll elems + uptoBulkAll spare + 1
  | .agg parts => uptoBulkAll parts + 1
  | .iface _ d => uptoBulk d + 1
  | .map entries => uptoBulkEntries entries + 1
  | .held _ => 1
def uptoBulkAll {H : Type} : List (DataW H) → Nat
  | [] => 0
  | d :: r => uptoBulk d + uptoBulkAll r
def uptoBulkEntries {H : Type} : List (Lit × DataW H) → Nat
  | [] => 0
  | x :: r => uptoBulkEntry x + uptoBulkEntries r
def uptoBulkEntry {H : Type} : Lit × DataW H → Nat
  | (.string bytes, d) => bytes.length + uptoBulk d + 1
  | (_, d) => uptoBulk d + 1
 end
def uptoSmall : (H : Type) → List (DataW H) → Bool := fun _ ds => decide (uptoBulkAll ds ≤ 1048576)
def OpenSpec.upto (s : _root_.Go.ChangeSpec) : _root_.Go.OpenSpec := { _root_.Go.OpenSpec.ofChange s with cond := some uptoSmall }

/-- 'tsblocklaw08.DictvalDictionaries', WHERE WHAT IT READS IS OF BULK AT MOST 1048576: true; the input reads as it did. -/
def dictvalDictionariesUptoRow : OpenClaim := { program := "ytbdpimnbjonhlaa", sum := "a09d913f7e0861072746566fa1f34f9ff66c63bf678ec938b129d64c85e6efa3", func := "tsblock/tsblocklaw08.DictvalDictionaries", spec := "dictvalDictionaries", recurses := true, apart := false, narrowed := true }
def DictvalDictionariesUptoSaid : Prop := dictvalDictionariesUptoRow.holds Try.pinned (OpenSpec.upto dictvalDictionariesSpec)

/-- 'tsblocklaw08.DictvalReads', WHERE WHAT IT READS IS OF BULK AT MOST 1048576: true; the input reads as it did. -/
def dictvalReadsUptoRow : OpenClaim := { program := "ytbdpimnbjonhlaa", sum := "a09d913f7e0861072746566fa1f34f9ff66c63bf678ec938b129d64c85e6efa3", func := "tsblock/tsblocklaw08.DictvalReads", spec := "dictvalReads", recurses := true, apart := false, narrowed := true }
def DictvalReadsUptoSaid : Prop := dictvalReadsUptoRow.holds Try.pinned (OpenSpec.upto dictvalReadsSpec)

/-- 'tsblocklaw08.DictvalIsCanonical', WHERE WHAT IT READS IS OF BULK AT MOST 1048576: true; the input reads as it did. -/
def dictvalIsCanonicalUptoRow : OpenClaim := { program := "ytbdpimnbjonhlaa", sum := "a09d913f7e0861072746566fa1f34f9ff66c63bf678ec938b129d64c85e6efa3", func := "tsblock/tsblocklaw08.DictvalIsCanonical", spec := "dictvalIsCanonical", recurses := true, apart := false, narrowed := true }
def DictvalIsCanonicalUptoSaid : Prop := dictvalIsCanonicalUptoRow.holds Try.pinned (OpenSpec.upto dictvalIsCanonicalSpec)

/-- 'tsblocklaw08.DictvalWrites', WHERE WHAT IT READS IS OF BULK AT MOST 1048576: true; the input reads as it did. -/
def dictvalWritesUptoRow : OpenClaim := { program := "ytbdpimnbjonhlaa", sum := "a09d913f7e0861072746566fa1f34f9ff66c63bf678ec938b129d64c85e6efa3", func := "tsblock/tsblocklaw08.DictvalWrites", spec := "dictvalWrites", recurses := true, apart := false, narrowed := true }
def DictvalWritesUptoSaid : Prop := dictvalWritesUptoRow.holds Try.pinned (OpenSpec.upto dictvalWritesSpec)

/-- 'tsblocklaw08.DictvalRoundTrip', WHERE WHAT IT READS IS OF BULK AT MOST 1048576: true; the input reads as it did. -/
def dictvalRoundTripUptoRow : OpenClaim := { program := "ytbdpimnbjonhlaa", sum := "a09d913f7e0861072746566fa1f34f9ff66c63bf678ec938b129d64c85e6efa3", func := "tsblock/tsblocklaw08.DictvalRoundTrip", spec := "dictvalRoundTrip", recurses := true, apart := false, narrowed := true }
def DictvalRoundTripUptoSaid : Prop := dictvalRoundTripUptoRow.holds Try.pinned (OpenSpec.upto dictvalRoundTripSpec)

/-- 'tsblocklaw08.DictvalForgetsOrder', WHERE WHAT IT READS IS OF BULK AT MOST 1048576: true; the input reads as it did. -/
def dictvalForgetsOrderUptoRow : OpenClaim := { program := "ytbdpimnbjonhlaa", sum := "a09d913f7e0861072746566fa1f34f9ff66c63bf678ec938b129d64c85e6efa3", func := "tsblock/tsblocklaw08.DictvalForgetsOrder", spec := "dictvalForgetsOrder", recurses := true, apart := false, narrowed := true }
def DictvalForgetsOrderUptoSaid : Prop := dictvalForgetsOrderUptoRow.holds Try.pinned (OpenSpec.upto dictvalForgetsOrderSpec)

end Rows
end Go.Proofs.Ytbdpimnbjonhlaa
