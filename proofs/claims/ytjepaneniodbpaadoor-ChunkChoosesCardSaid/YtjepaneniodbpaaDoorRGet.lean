/- The reference's Get. -/
import Derived.Test.YtjepaneniodbpaaDoorChecked
import Derived.Test.YtjepaneniodbpaaDoorGet
import Derived.Test.YtjepaneniodbpaaDoorRef1
namespace Go.Proofs.YtjepaneniodbpaaDoor
open Go Go.RowKit

/-- which indexes have been met -/
def met (K : Nat) (is : List Nat) : List Bool := (List.range K).map (fun j => is.contains j)
theorem met_length (K : Nat) (is : List Nat) : (met K is).length = K := by simp [met]
theorem met_set (K : Nat) (is : List Nat) (x : Nat) : (met K is).set x true = met K (is ++ [x]) := by
  refine List.ext_getElem (by simp [met]) fun j h1 h2 => ?_
  rw [List.getElem_set]
  simp only [met, List.getElem_map, List.getElem_range]
  by_cases e : x = j
  · subst e; simp
  · rw [if_neg e]
    have : ¬ j = x := fun h => e h.symm
    simp [this]
theorem met_nil (K : Nat) : met K [] = List.replicate K false := by
  refine List.ext_getElem (by simp [met]) fun j h1 h2 => ?_
  simp [met]
theorem made_bools (n : Nat) : (madeCells (Value.bool false).cells (n * 1)).toList = cB (List.replicate n false) := by
  show (madeCells #[Value.bool false] (n * 1)).toList = _
  refine List.ext_getElem (by simp [madeCells]) fun j h1 h2 => ?_
  simp [madeCells, Nat.mod_one]
theorem met_get (K : Nat) (is : List Nat) (x : Nat) (h : x < K) : (cB (met K is))[x]? = some (.bool (is.contains x)) := by
  rw [List.getElem?_map, List.getElem?_eq_getElem (by rw [met_length]; exact h)]
  simp [met]
theorem unused_met (K : Nat) (is : List Nat) : unused K is = (met K is).any (fun b => !b) := by
  unfold unused met
  rw [List.any_map]
  rfl

end Go.Proofs.YtjepaneniodbpaaDoor
