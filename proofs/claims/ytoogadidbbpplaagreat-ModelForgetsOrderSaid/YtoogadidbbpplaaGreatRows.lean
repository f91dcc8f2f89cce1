/-
  No cell of these rows narrows 'for every input' (looked for: loops, veiled, ifaces, maps, wideKeys, modest, calm, conditions, laid).
  DERIVED. THE GIVEN ROWS OF THIS SEAT. 2 by the template 'for every input the law returns true; each argument reads behind the call as it read before'; 0 by the template 'total and deterministic' (their statements: YtoogadidbbpplaaGreatTotals.lean).
  GIVEN WITH THE SEED: the statements are not yours to turn. If you find one false, say at which input.
  Laid BY PROGRAM, IN A SANDBOX (cutbox-rows.mjs): the forced cells as the released guide's own fill.sh prints them over the translation 2b5f9440989e1948… (all of the seat's roots in one cut). By AI agents, Wed Nov 11 2026. No macro, syntax, notation, axiom, sorry.
-/
import Derived.Test.YtoogadidbbpplaaGreatChecked
import GoSem.Claim
import GoSem.ClaimJoined
import GoSem.ClaimMapViews
import Derived.JoinedTies
import Derived.KernelRfl
namespace Go.Proofs.YtoogadidbbpplaaGreat
/- THE CELL 'sum', in the pinned program and in every row, IS THE sha256 OF THE DUMP (.gsa) THAT YtoogadidbbpplaaGreatProg.lean LOADS. Nothing in Lean hashes anything: it is a label: what it is worth is what the hold of that sum in a sandbox is worth. -/
noncomputable def Tryz.pinned : Pinned := { name := "ytoogadidbbpplaagreat", sum := "2b5f9440989e1948d72a4e640ce9572094df2c8bf255129d1f1e3d800271c907", checked := Tryz.checked }
namespace Rows
def none {H : Type} : Left H := { results := [], args := [] }

/-- 'tsblocklaw12.ModelNormalizes': WHATEVER THE INPUT: true; the input reads as it did. -/
def modelNormalizesSpec : ChangeSpec := { name := "modelNormalizes", fn := fun _ => fun
  | [d] => { results := [.lit (.bool true)], args := [d] }
  | _ => none }
def modelNormalizesRow : OpenClaim := { program := "ytoogadidbbpplaagreat", sum := "2b5f9440989e1948d72a4e640ce9572094df2c8bf255129d1f1e3d800271c907", func := "tsblock/tsblocklaw12.ModelNormalizes", spec := "modelNormalizes", unfollowed := true, recurses := true, apart := false }
def ModelNormalizesSaid : Prop := modelNormalizesRow.holds Tryz.pinned (OpenSpec.ofChange modelNormalizesSpec)

/-- ITS FALSE NEIGHBOUR: 'it returns false'. Refute it at one input. -/
def modelNormalizesWrong : ChangeSpec := { name := "modelNormalizes", fn := fun _ => fun
  | [d] => { results := [.lit (.bool false)], args := [d] }
  | _ => none }
def ModelNormalizesWrongFalsely : Prop := modelNormalizesRow.holds Tryz.pinned (OpenSpec.ofChange modelNormalizesWrong)

/-- 'tsblocklaw12.ModelForgetsOrder': WHATEVER THE INPUT: true; the input reads as it did. -/
def modelForgetsOrderSpec : ChangeSpec := { name := "modelForgetsOrder", fn := fun _ => fun
  | [d1, d2] => { results := [.lit (.bool true)], args := [d1, d2] }
  | _ => none }
def modelForgetsOrderRow : OpenClaim := { program := "ytoogadidbbpplaagreat", sum := "2b5f9440989e1948d72a4e640ce9572094df2c8bf255129d1f1e3d800271c907", func := "tsblock/tsblocklaw12.ModelForgetsOrder", spec := "modelForgetsOrder", unfollowed := true, recurses := true, apart := false }
def ModelForgetsOrderSaid : Prop := modelForgetsOrderRow.holds Tryz.pinned (OpenSpec.ofChange modelForgetsOrderSpec)

/-- ITS FALSE NEIGHBOUR: 'it returns false'. Refute it at one input. -/
def modelForgetsOrderWrong : ChangeSpec := { name := "modelForgetsOrder", fn := fun _ => fun
  | [d1, d2] => { results := [.lit (.bool false)], args := [d1, d2] }
  | _ => none }
def ModelForgetsOrderWrongFalsely : Prop := modelForgetsOrderRow.holds Tryz.pinned (OpenSpec.ofChange modelForgetsOrderWrong)

/- THE SECOND FORM. 'bulk': how many values and letters a reading holds, each counted each time it is reached (what is shared counts as often as it is met; a slice's spare places count too). A statement '..UptoSaid' is the law's where the arguments, and the package variables that the reading takes, are together of bulk at most 1048576: NARROWER than '..Said'. Prove '..Said' where nothing that the law and all that it calls make is longer than what came in: it says more and counts as full. Else prove '..UptoSaid'. A law counts once. -/
mutual
def uptoBulk {H : Type} : DataW H → Nat
  | .lit (.string bytes) => bytes.length + 1
  | .lit _ => 1
  | .nil => 1
  | .ptr d => uptoBulk d + 1
  | .slice elems spare => uptoBulkAll elems + uptoBulkAll spare + 1
  | .agg parts => uptoBulkAll parts + 1
  | .iface _ d => uptoBulk d + 1
  | .map entries => uptoBulkEntries entries + 1
  | .held _ => 1
def uptoBulkAll {H : Type} : List (DataW H) → Nat
  | [] => 0
  | d :: r => uptoBulk d + uptoBulkAll r
def uptoBulkEntries {H : Type} : List (Lit × DataW H) → Nat
  | [] => 0
  | x :: r => uptoBulkEntry x + uptoBulkEntries r
def uptoBulkEntry {H : Type} : Lit × DataW H → Nat
  | (.string bytes, d) => bytes.length + uptoBulk d + 1
  | (_, d) => uptoBulk d + 1
 end
def uptoSmall : (H : Type) → List (DataW H) → Bool := fun _ ds => decide (uptoBulkAll ds ≤ 1048576)
def OpenSpec.upto (s : _root_.Go.ChangeSpec) : _root_.Go.OpenSpec := { _root_.Go.OpenSpec.ofChange s with cond := some uptoSmall }

/-- 'tsblocklaw12.ModelNormalizes', WHERE WHAT IT READS IS OF BULK AT MOST 1048576: true; the input reads as it did. -/
def modelNormalizesUptoRow : OpenClaim := { program := "ytoogadidbbpplaagreat", sum := "2b5f9440989e1948d72a4e640ce9572094df2c8bf255129d1f1e3d800271c907", func := "tsblock/tsblocklaw12.ModelNormalizes", spec := "modelNormalizes", unfollowed := true, recurses := true, apart := false, narrowed := true }
def ModelNormalizesUptoSaid : Prop := modelNormalizesUptoRow.holds Tryz.pinned (OpenSpec.upto modelNormalizesSpec)

/-- 'tsblocklaw12.ModelForgetsOrder', WHERE WHAT IT READS IS OF BULK AT MOST 1048576: true; the input reads as it did. -/
def modelForgetsOrderUptoRow : OpenClaim := { program := "ytoogadidbbpplaagreat", sum := "2b5f9440989e1948d72a4e640ce9572094df2c8bf255129d1f1e3d800271c907", func := "tsblock/tsblocklaw12.ModelForgetsOrder", spec := "modelForgetsOrder", unfollowed := true, recurses := true, apart := false, narrowed := true }
def ModelForgetsOrderUptoSaid : Prop := modelForgetsOrderUptoRow.holds Tryz.pinned (OpenSpec.upto modelForgetsOrderSpec)

end Rows
end Go.Proofs.YtoogadidbbpplaaGreat
