/-
  No cell of these rows narrows 'for every input' (looked for: loops, veiled, ifaces, maps, wideKeys, modest, calm, conditions, laid).
  DERIVED. THE GIVEN ROWS OF THIS SEAT. 4 by the template 'for every input the law returns true; each argument reads behind the call as it read before'; 0 by the template 'total and deterministic' (their statements: YtoogadidbbpplaaTotals.lean).
  GIVEN WITH THE SEED: the statements are not yours to turn. If you find one false, say at which input.
  Laid BY PROGRAM, IN A SANDBOX (cutbox-rows.mjs): the forced cells as the released guide's own fill.sh prints them over the translation 607eae3db43fbef9… (all of the seat's roots in one cut). By AI agents, Wed Nov 11 2026. No macro, syntax, notation, axiom, sorry.
-/
import Derived.Test.YtoogadidbbpplaaChecked
import GoSem.Claim
import GoSem.ClaimJoined
import GoSem.ClaimMapViews
import Derived.JoinedTies
import Derived.KernelRfl
namespace Go.Proofs.Ytoogadidbbpplaa
/- THE CELL 'sum', in the pinned program and in every row, IS THE sha256 OF THE DUMP (.gsa) THAT YtoogadidbbpplaaProg.lean LOADS. Nothing in Lean hashes anything: it is a label: what it is worth is what the hold of that sum in a sandbox is worth. -/
noncomputable def Try.pinned : Pinned := { name := "ytoogadidbbpplaa", sum := "607eae3db43fbef98250562a0e6d8b025615d02dd107e39bfb08fa005185fb44", checked := Try.checked }
namespace Rows
def none {H : Type} : Left H := { results := [], args := [] }

/-- 'tsblocklaw12.ModelChecks': WHATEVER THE INPUT: true; the input reads as it did. -/
def modelChecksSpec : ChangeSpec := { name := "modelChecks", fn := fun _ => fun
  | [d] => { results := [.lit (.bool true)], args := [d] }
  | _ => none }
def modelChecksRow : OpenClaim := { program := "ytoogadidbbpplaa", sum := "607eae3db43fbef98250562a0e6d8b025615d02dd107e39bfb08fa005185fb44", func := "tsblock/tsblocklaw12.ModelChecks", spec := "modelChecks", unfollowed := true, recurses := true, apart := false }
def ModelChecksSaid : Prop := modelChecksRow.holds Try.pinned (OpenSpec.ofChange modelChecksSpec)

/-- ITS FALSE NEIGHBOUR: 'it returns false'. Refute it at one input. -/
def modelChecksWrong : ChangeSpec := { name := "modelChecks", fn := fun _ => fun
  | [d] => { results := [.lit (.bool false)], args := [d] }
  | _ => none }
def ModelChecksWrongFalsely : Prop := modelChecksRow.holds Try.pinned (OpenSpec.ofChange modelChecksWrong)

/-- 'tsblocklaw12.ModelCompares': WHATEVER THE INPUT: true; the input reads as it did. -/
def modelComparesSpec : ChangeSpec := { name := "modelCompares", fn := fun _ => fun
  | [d1, d2] => { results := [.lit (.bool true)], args := [d1, d2] }
  | _ => none }
def modelComparesRow : OpenClaim := { program := "ytoogadidbbpplaa", sum := "607eae3db43fbef98250562a0e6d8b025615d02dd107e39bfb08fa005185fb44", func := "tsblock/tsblocklaw12.ModelCompares", spec := "modelCompares", unfollowed := true, recurses := true, apart := false }
def ModelComparesSaid : Prop := modelComparesRow.holds Try.pinned (OpenSpec.ofChange modelComparesSpec)

/-- ITS FALSE NEIGHBOUR: 'it returns false'. Refute it at one input. -/
def modelComparesWrong : ChangeSpec := { name := "modelCompares", fn := fun _ => fun
  | [d1, d2] => { results := [.lit (.bool false)], args := [d1, d2] }
  | _ => none }
def ModelComparesWrongFalsely : Prop := modelComparesRow.holds Try.pinned (OpenSpec.ofChange modelComparesWrong)

/-- 'tsblocklaw12.ModelClones': WHATEVER THE INPUT: true; the input reads as it did. -/
def modelClonesSpec : ChangeSpec := { name := "modelClones", fn := fun _ => fun
  | [d] => { results := [.lit (.bool true)], args := [d] }
  | _ => none }
def modelClonesRow : OpenClaim := { program := "ytoogadidbbpplaa", sum := "607eae3db43fbef98250562a0e6d8b025615d02dd107e39bfb08fa005185fb44", func := "tsblock/tsblocklaw12.ModelClones", spec := "modelClones", unfollowed := true, recurses := true, apart := false }
def ModelClonesSaid : Prop := modelClonesRow.holds Try.pinned (OpenSpec.ofChange modelClonesSpec)

/-- ITS FALSE NEIGHBOUR: 'it returns false'. Refute it at one input. -/
def modelClonesWrong : ChangeSpec := { name := "modelClones", fn := fun _ => fun
  | [d] => { results := [.lit (.bool false)], args := [d] }
  | _ => none }
def ModelClonesWrongFalsely : Prop := modelClonesRow.holds Try.pinned (OpenSpec.ofChange modelClonesWrong)

/-- 'tsblocklaw12.ModelMeasures': WHATEVER THE INPUT: true; the input reads as it did. -/
def modelMeasuresSpec : ChangeSpec := { name := "modelMeasures", fn := fun _ => fun
  | [d] => { results := [.lit (.bool true)], args := [d] }
  | _ => none }
def modelMeasuresRow : OpenClaim := { program := "ytoogadidbbpplaa", sum := "607eae3db43fbef98250562a0e6d8b025615d02dd107e39bfb08fa005185fb44", func := "tsblock/tsblocklaw12.ModelMeasures", spec := "modelMeasures", unfollowed := true, recurses := true, apart := false }
def ModelMeasuresSaid : Prop := modelMeasuresRow.holds Try.pinned (OpenSpec.ofChange modelMeasuresSpec)

/-- ITS FALSE NEIGHBOUR: 'it returns false'. Refute it at one input. -/
def modelMeasuresWrong : ChangeSpec := { name := "modelMeasures", fn := fun _ => fun
  | [d] => { results := [.lit (.bool false)], args := [d] }
  | _ => none }
def ModelMeasuresWrongFalsely : Prop := modelMeasuresRow.holds Try.pinned (OpenSpec.ofChange modelMeasuresWrong)

/- THE SECOND FORM. 'bulk': how many values and letters a reading holds, each counted each time it is reached (what is shared counts as often as it is met; a slice's spare places count too). A statement '..UptoSaid' is the law's where the arguments, and the package variables that the reading takes, are together of bulk at most 1048576: NARROWER than '..Said'. Prove '..Said' where nothing that the law and all that it calls make is longer than what came in: it says more and counts as full. Else prove '..UptoSaid'. A law counts once. -/
mutual
def uptoBulk {H : Type} : DataW H → Nat
  | .lit (.string bytes) => bytes.length + 1
  | .lit _ => 1
  | .nil => 1
  | .ptr d => uptoBulk d + 1
  | .slice elems spare => uptoBulkAll elems + uptoBulkAll spare + 1
  | .agg parts => uptoBulkAll parts + 1
  | .iface _ d => uptoBulk d + 1
  | .map entries => uptoBulkEntries entries + 1
  | .held _ => 1
def uptoBulkAll {H : Type} : List (DataW H) → Nat
  | [] => 0
  | d :: r => uptoBulk d + uptoBulkAll r
def uptoBulkEntries {H : Type} : List (Lit × DataW H) → Nat
  | [] => 0
  | x :: r => uptoBulkEntry x + uptoBulkEntries r
def uptoBulkEntry {H : Type} : Lit × DataW H → Nat
  | (.string bytes, d) => bytes.length + uptoBulk d + 1
  | (_, d) => uptoBulk d + 1
 end
def uptoSmall : (H : Type) → List (DataW H) → Bool := fun _ ds => decide (uptoBulkAll ds ≤ 1048576)
def OpenSpec.upto (s : _root_.Go.ChangeSpec) : _root_.Go.OpenSpec := { _root_.Go.OpenSpec.ofChange s with cond := some uptoSmall }

/-- 'tsblocklaw12.ModelChecks', WHERE WHAT IT READS IS OF BULK AT MOST 1048576: true; the input reads as it did. -/
def modelChecksUptoRow : OpenClaim := { program := "ytoogadidbbpplaa", sum := "607eae3db43fbef98250562a0e6d8b025615d02dd107e39bfb08fa005185fb44", func := "tsblock/tsblocklaw12.ModelChecks", spec := "modelChecks", unfollowed := true, recurses := true, apart := false, narrowed := true }
def ModelChecksUptoSaid : Prop := modelChecksUptoRow.holds Try.pinned (OpenSpec.upto modelChecksSpec)

/-- 'tsblocklaw12.ModelCompares', WHERE WHAT IT READS IS OF BULK AT MOST 1048576: true; the input reads as it did. -/
def modelComparesUptoRow : OpenClaim := { program := "ytoogadidbbpplaa", sum := "607eae3db43fbef98250562a0e6d8b025615d02dd107e39bfb08fa005185fb44", func := "tsblock/tsblocklaw12.ModelCompares", spec := "modelCompares", unfollowed := true, recurses := true, apart := false, narrowed := true }
def ModelComparesUptoSaid : Prop := modelComparesUptoRow.holds Try.pinned (OpenSpec.upto modelComparesSpec)

/-- 'tsblocklaw12.ModelClones', WHERE WHAT IT READS IS OF BULK AT MOST 1048576: true; the input reads as it did. -/
def modelClonesUptoRow : OpenClaim := { program := "ytoogadidbbpplaa", sum := "607eae3db43fbef98250562a0e6d8b025615d02dd107e39bfb08fa005185fb44", func := "tsblock/tsblocklaw12.ModelClones", spec := "modelClones", unfollowed := true, recurses := true, apart := false, narrowed := true }
def ModelClonesUptoSaid : Prop := modelClonesUptoRow.holds Try.pinned (OpenSpec.upto modelClonesSpec)

/-- 'tsblocklaw12.ModelMeasures', WHERE WHAT IT READS IS OF BULK AT MOST 1048576: true; the input reads as it did. -/
def modelMeasuresUptoRow : OpenClaim := { program := "ytoogadidbbpplaa", sum := "607eae3db43fbef98250562a0e6d8b025615d02dd107e39bfb08fa005185fb44", func := "tsblock/tsblocklaw12.ModelMeasures", spec := "modelMeasures", unfollowed := true, recurses := true, apart := false, narrowed := true }
def ModelMeasuresUptoSaid : Prop := modelMeasuresUptoRow.holds Try.pinned (OpenSpec.upto modelMeasuresSpec)

end Rows
end Go.Proofs.Ytoogadidbbpplaa
