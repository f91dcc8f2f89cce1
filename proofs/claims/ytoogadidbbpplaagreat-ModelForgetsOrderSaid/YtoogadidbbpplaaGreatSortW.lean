/- The shelf's sorted rows at elements of two cells, in this seat's words. -/
import Derived.Test.YtoogadidbbpplaaGreatClone
import Derived.Shelf.SlSortCmp.WholeK
namespace Go.Proofs.YtoogadidbbpplaaGreat
open Go Go.RowKit Go.Sort Go.Shelf

theorem Ow.of_heapC {w : World} {g : Nat} {e : TypeId} {size n c : Nat} {cs : Array Value} (h : w.heap[g]? = some (.cells cs e (0, 0))) (hs : cs.size = c * size) (hnc : n ≤ c) (hn : c ≤ 9223372036854775807) : Ow w g e size (some ⟨g, 0, none⟩) n c (cs.toList.take (n * size)) := by
  have hle : n * size ≤ c * size := Nat.mul_le_mul_right _ hnc
  exact .inr ⟨rfl, lt_of_block h, by simp; omega, .inr ⟨g, c, cs, rfl, Nat.zero_le _, h, hnc, by simpa [maxLen] using hn, hs, rfl⟩⟩

section
variable {α : Type} [Inhabited α] {f h : α → Value}
theorem holds_ow {w : World} {g : Nat} {e : TypeId} {a : Addr} {c : Nat} {d : Array α} (hO : Ow w g e 2 (some a) d.size c (c2 f h d.toList)) : HoldsK (fun x => [f x, h x]) 2 w g 0 d := by
  intro j hj
  rw [size_flatK] at hj
  rw [get_flatK _ _ _ _ hj]
  obtain ⟨_, _, h1, h2⟩ := hO.at_ (j := j) hj
  obtain ⟨e1, e2⟩ := c2_at (f := f) (g := h) d.toList (j / 2) (by rw [Array.length_toList]; omega)
  have ed : d[j / 2]! = d.toList[j / 2]'(by rw [Array.length_toList]; omega) := by rw [getElem!_pos d (j / 2) (by omega)]; simp
  rw [Nat.zero_add]
  refine ⟨?_, h2⟩
  rw [h1, ed]
  have : j % 2 = 0 ∨ j % 2 = 1 := by omega
  rcases this with h3 | h3
  · rw [h3]; rw [show j / 2 * 2 = j by omega] at e1; rw [e1]; rfl
  · rw [h3]; rw [show j / 2 * 2 + 1 = j by omega] at e2; rw [e2]; rfl
theorem sort_ow {w : World} {g : Nat} {e : TypeId} {a : Addr} {n c m : Nat} {d' : Array α} {xs : List Value} (hO : Ow w g e 2 (some a) n c xs) (hd : d'.size = n) (os : Array Obj) :
    Ow (sortWorldK (fun x => [f x, h x]) 2 w g 0 m d' os) g e 2 (some ⟨g, 0, none⟩) n c (c2 f h d'.toList) ∧ Kp g g w (sortWorldK (fun x => [f x, h x]) 2 w g 0 m d' os) := by
  obtain ⟨cs, hh, hs, _, _⟩ := hO.heap
  have hcap := hO.cap
  have hg := lt_of_block hh
  have hheap : (sortWorldK (fun x => [f x, h x]) 2 w g 0 m d' os).heap[g]? = some (.cells (putCells id 0 (flatK (fun x => [f x, h x]) 2 d') cs) e (0, 0)) := by
    unfold sortWorldK putRowK
    rw [heap_grow_old _ _ (by simpa [putRow, mapBlock, Sort.ahead] using hg)]
    simp [putRow, mapBlock, Sort.ahead, Array.getElem?_modify, hh, onCells]
  constructor
  · have := Ow.of_heapC (size := 2) (n := n) hheap (by simpa [putCells] using hs) hcap.1 hcap.2
    have ht : (putCells id 0 (flatK (fun x => [f x, h x]) 2 d') cs).toList.take (n * 2) = c2 f h d'.toList := by
      apply List.ext_getElem?
      intro j
      by_cases hj : j < n * 2
      · rw [List.getElem?_take_of_lt hj, Array.getElem?_toList]
        obtain ⟨e1, e2⟩ := c2_at (f := f) (g := h) d'.toList (j / 2) (by rw [Array.length_toList]; omega)
        have ed : d'[j / 2]! = d'.toList[j / 2]'(by rw [Array.length_toList]; omega) := by rw [getElem!_pos d' (j / 2) (by omega)]; simp
        have hcs : j < cs.size := by rw [hs]; omega
        have hc : (putCells id 0 (flatK (fun x => [f x, h x]) 2 d') cs)[j]? = some ((flatK (fun x => [f x, h x]) 2 d')[j]!) := by
          simp only [putCells, Array.getElem?_mapIdx, Array.getElem?_eq_getElem hcs, Option.map_some]
          rw [if_pos ⟨Nat.zero_le _, by rw [size_flatK]; omega⟩]
          simp
        rw [hc, get_flatK _ _ _ _ (by omega), ed]
        have : j % 2 = 0 ∨ j % 2 = 1 := by omega
        rcases this with h3 | h3
        · rw [h3]; rw [show j / 2 * 2 = j by omega] at e1; rw [e1]; rfl
        · rw [h3]; rw [show j / 2 * 2 + 1 = j by omega] at e2; rw [e2]; rfl
      · rw [List.getElem?_take_eq_none (by omega), List.getElem?_eq_none (by rw [c2_length, Array.length_toList]; omega)]
    rwa [ht] at this
  · refine ⟨rfl, rfl, rfl, by simp [sortWorldK, putRowK, putRow, mapBlock, Sort.ahead], fun k hk h1 _ => ?_⟩
    unfold sortWorldK putRowK
    rw [heap_grow_old _ _ (by simpa [putRow, mapBlock, Sort.ahead] using hk)]
    have : g ≠ k := fun e => h1 e.symm
    simp [putRow, mapBlock, Sort.ahead, Array.getElem?_modify, this]
end
theorem perm_of {α : Type} [Inhabited α] {d d' : Array α} (h : PermIn 0 d.size d d') : d'.toList.Perm d.toList := by
  obtain ⟨h1, _, h3⟩ := h
  rw [show d.extract 0 d.size = d from by simp, show d'.extract 0 d.size = d' from by rw [← h1]; simp] at h3
  exact h3
theorem sorted_of {α : Type} [Inhabited α] {lt : α → α → Bool} {d : Array α} {n : Nat} (h : SortedIn lt 0 n d) (hn : n = d.size) : d.toList.Pairwise fun x y => lt y x = false := by
  subst hn
  rw [List.pairwise_iff_getElem]
  intro i j hi hj hij
  rw [Array.length_toList] at hi hj
  have := h i j (Nat.zero_le _) hij hj
  rw [getElem!_pos d i hi, getElem!_pos d j hj] at this
  simpa using this
end Go.Proofs.YtoogadidbbpplaaGreat
