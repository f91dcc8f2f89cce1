/- Elements of two cells in the sort's worlds. -/
import Derived.Test.YtoogadidbbpplaaGreatStabLaw
import Derived.Test.YtoogadidbbpplaaGreatSer
import Derived.Shelf.SlSortCmp.WholeK
import Derived.Deep.LoopGhost
import Derived.BigRegion
namespace Go.Proofs.YtoogadidbbpplaaGreat
open Go Go.RowKit Go.Sort Go.Shelf
section
variable {α : Type} [Inhabited α] {f h : α → Value} {w0 : World} {blk : Nat} {d0 : Array α}
/-- an element's two cells -/
def enc2 {α : Type} (f h : α → Value) : α → List Value := fun x => [f x, h x]
theorem at2 {dk : Array α} {W : World} (S : SWK (enc2 f h) 2 w0 blk 0 dk W) (R : RowK (enc2 f h) 2 w0 blk 0 d0) (hs : dk.size = d0.size) (i : Nat) (hi : i < dk.size) :
    W.cell? ⟨blk, i * 2, none⟩ = some (f dk[i]!) ∧ W.cell? ⟨blk, i * 2 + 1, none⟩ = some (h dk[i]!) ∧ W.frozen? ⟨blk, i * 2, none⟩ = false ∧ W.frozen? ⟨blk, i * 2 + 1, none⟩ = false := by
  have hH := S.holds R.hblk R.hH hs
  have h1 := hH (i * 2) (by rw [size_flatK]; omega)
  have h2 := hH (i * 2 + 1) (by rw [size_flatK]; omega)
  rw [get_flatK _ _ _ _ (by omega), Nat.zero_add] at h1 h2
  rw [show i * 2 / 2 = i by omega, show i * 2 % 2 = 0 by omega] at h1
  rw [show (i * 2 + 1) / 2 = i by omega, show (i * 2 + 1) % 2 = 1 by omega] at h2
  exact ⟨h1.1, h2.1, h1.2, h2.2⟩
theorem one2a (R : RowK (enc2 f h) 2 w0 blk 0 d0) (x : α) : (f x).oneCell' = true := R.h1 x _ (by unfold enc2; simp)
theorem one2b (R : RowK (enc2 f h) 2 w0 blk 0 d0) (x : α) : (h x).oneCell' = true := R.h1 x _ (by unfold enc2; simp)
omit [Inhabited α] in
theorem set2 (w : World) (p : Nat) (x : α) : w.setCells blk p (enc2 f h x) = (w.setCell ⟨blk, p, none⟩ (f x)).setCell ⟨blk, p + 1, none⟩ (h x) := rfl
end
end Go.Proofs.YtoogadidbbpplaaGreat
