/- Sorting in place: a row of words as an array; insertionSort, siftDown, heapSort, reverseRange. -/
import Derived.Test.YtbdpimnbjonhlaaClone
import Derived.Test.YtbdpimnbjonhlaaEq
import Derived.Sort.WalkA
import Derived.Sort.WalkB2
import Derived.Sort.WalkB3
import Derived.BigRegion
import Derived.CellFam
import Derived.Test.YtbdpimnbjonhlaaPdq
namespace Go.Proofs.Ytbdpimnbjonhlaa
open Go Go.RowKit Go.Sort

/-- block b is the row of the array d -/
def Dv (w : World) (b c : Nat) (d : Array Nat) : Prop := Ow w b 25 1 (some ⟨b, 0, none⟩) d.size c (cN .u64 d.toList)

section
variable {w w' : World} {b c : Nat} {d : Array Nat}
theorem Dv.nw (h : Dv w b c d) (hk : Nw w w') : Dv w' b c d := Ow.nw h hk
theorem Dv.kp {g g' : Nat} (h : Dv w b c d) (hk : Kp g g' w w') (h1 : b ≠ g) (h2 : b ≠ g') : Dv w' b c d := Ow.kp h hk h1 h2
theorem Dv.lt (h : Dv w b c d) : b < w.heap.size := by
  rcases h with ⟨h, _⟩ | ⟨_, h, _⟩
  · cases h
  · exact h
theorem Dv.cell (h : Dv w b c d) {j : Nat} (hj : j < d.size) : w.cell? ⟨b, j, none⟩ = some (.int .u64 (d[j]! : Nat)) := by
  obtain ⟨_, _, hc, _⟩ := Ow.at_ h (j := j) (by omega)
  rw [hc, List.getElem?_map, Array.getElem?_toList, Array.getElem?_eq_getElem hj, getElem!_pos d j hj]
  rfl
theorem Dv.free (h : Dv w b c d) (j : Nat) (hj : j < d.size) : w.frozen? ⟨b, j, none⟩ = false := (Ow.at_ h (j := j) (by omega)).2.2.2
theorem Dv.swap (h : Dv w b c d) (i j : Nat) : Dv ((w.setCell ⟨b, i, none⟩ (.int .u64 (d[j]! : Nat))).setCell ⟨b, j, none⟩ (.int .u64 (d[i]! : Nat))) b c (swp d i j) := by
  have h1 := (Ow.set_ h i (.int .u64 (d[j]! : Nat))).set_ j (.int .u64 (d[i]! : Nat))
  unfold Dv
  have e : cN .u64 (swp d i j).toList = ((cN .u64 d.toList).set i (.int .u64 (d[j]! : Nat))).set j (.int .u64 (d[i]! : Nat)) := by
    unfold swp
    rw [Array.toList_setIfInBounds, Array.toList_setIfInBounds]
    unfold cN
    rw [List.map_set, List.map_set]
  rw [e, show (swp d i j).size = d.size from by simp [swp]]
  exact h1
end

theorem insertionSort_any (w : World) (b c x y : Nat) (d : Array Nat) (hH : Dv w b c d) (hxy : x ≤ y) (hy : y ≤ d.size) (hsz : d.size < 4611686018427387904) :
    Calls Try.prog 54 #[.slice (some ⟨b, 0, none⟩) d.size c, .int .i64 (x : Int), .int .i64 (y : Int)] w fun e w' =>
      e = .returned (.tuple #[]) ∧ Dv w' b c (Sort.insertionSort ltN d x y) ∧ Kp b b w w' := by
  go_enter Try.func54, Try.ntmps54
  go_wp2
  go_loopw [6] (fun vi wr => ∃ (i : Nat) (dk : Array Nat), vi = .int .i64 i ∧ x < i ∧ i ≤ y + 1 ∧ dk.size = d.size ∧ Dv wr b c dk ∧ Kp b b w wr ∧
      insOuter ltN x y i dk = insOuter ltN x y (x + 1) d) (fun vi _ => y + 1 - (intOf vi).toNat)
  case atStart => exact ⟨x + 1, d, by go_num, by omega, by omega, rfl, hH, Kp.refl _ _ _, rfl⟩
  case round =>
    obtain ⟨i, dk, rfl, hai, hib, hsk, hD, hK, hO⟩ := hrel
    have HO := Lib.hid hO
    have HS := Lib.hid hsk
    clear hO hH hsk
    by_cases hlt : i < y
    · go_wp2
      go_loopw [7] (fun vj wr2 => ∃ (j : Nat) (dj : Array Nat), vj = .int .i64 j ∧ x ≤ j ∧ j ≤ i ∧ dj.size = d.size ∧ Dv wr2 b c dj ∧ Kp b b w wr2 ∧
          insInner ltN x j dj = insInner ltN x i dk) (fun vj _ => (intOf vj).toNat)
      case atStart => exact ⟨i, dk, rfl, by omega, Nat.le_refl _, HS.out, hD, hK, rfl⟩
      case round =>
        obtain ⟨j, dj, rfl, haj, hji, hsj, hDj, hKj, hI⟩ := hrel
        have HSJ := Lib.hid hsj
        have HI := Lib.hid hI
        have HD := Lib.hid hDj
        have hjs : j < d.size := by omega
        clear hsj hI hD hDj hK
        have out : (j ≤ x ∨ ltN dj[j]! dj[j - 1]! = false) → insOuter ltN x y (i + 1) dj = insOuter ltN x y (x + 1) d := fun hs => by
          rw [← HO.out, insOuter_go _ _ _ _ _ hlt, ← HI.out, insInner_stop _ _ _ _ hs]
        have OUT := Lib.hid out
        clear out
        by_cases hja : x < j
        · obtain ⟨k, rfl⟩ : ∃ k, j = k + 1 := ⟨j - 1, by omega⟩
          have hck := HD.out.cell (j := k) (by have := HSJ.out; omega)
          have hck1 := HD.out.cell (j := k + 1) (by have := HSJ.out; omega)
          have hfk := HD.out.free k (by have := HSJ.out; omega)
          have hfk1 := HD.out.free (k + 1) (by have := HSJ.out; omega)
          have hgt : (x : Int) < ((k + 1 : Nat) : Int) := by omega
          have hgt2 : (x : Int) < (k : Int) + 1 := by omega
          have i0 : (0 : Int) ≤ (k : Int) + 1 := by omega
          have i1 : (k : Int) + 1 < (d.size : Int) := by omega
          have i2 : ((k : Int) + 1).toNat = k + 1 := by omega
          have i3 : (k : Int) < (d.size : Int) := by omega
          have e1 : IntKind.i64.wrap (k : Int) = (k : Int) := IntWalk.i64_in _ (by omega)
          obtain ⟨p, hp⟩ : ∃ p, p = dj[k]! := ⟨_, rfl⟩
          obtain ⟨q, hq⟩ : ∃ q, q = dj[k + 1]! := ⟨_, rfl⟩
          rw [← hp] at hck
          rw [← hq] at hck1
          have HPQ := Lib.hid (And.intro hp hq)
          clear hp hq
          by_cases hcmp : q < p
          · go_wp2
            go_quiet ((go_at_call 48; exact Calls.quiet_of_same ((Less_any _ _ _).mono fun _ _ h => ⟨h.1, h.2.symm⟩)))
            go_wp2
            go_region
            all_goals go_wp2
            go_roundw
            case rel =>
              obtain ⟨hp, hq⟩ := HPQ.out
              refine ⟨k, swp dj (k + 1) k, rfl, by omega, by omega, by rw [size_swp]; exact HSJ.out, ?_, ((hKj.drewN' (nq + 1)).setCell' (.inl rfl) _).setCell' (.inl rfl) _, ?_⟩
              · rw [hp, hq]
                exact (HD.out.nw (Nw.drewN wr (nq + 1))).swap (k + 1) k
              · rw [← HI.out, insInner_go ltN x (k + 1) dj hja (by simp only [Nat.add_sub_cancel]; rw [decide_eq_true_iff]; omega)]
                rfl
            case measure => simp [intOf]
          · go_wp2
            go_quiet ((go_at_call 48; exact Calls.quiet_of_same ((Less_any _ _ _).mono fun _ _ h => ⟨h.1, h.2.symm⟩)))
            go_wp2
            go_roundw
            case rel =>
              obtain ⟨hp, hq⟩ := HPQ.out
              exact ⟨i + 1, dj, by go_num, by omega, by omega, HSJ.out, HD.out.nw (Nw.drewN wr nq), hKj.drewN' nq, OUT.out (.inr (by simp only [Nat.add_sub_cancel]; rw [decide_eq_false_iff_not]; omega))⟩
            case measure => simp [intOf]; omega
        · have hd0 : decide ((x : Int) < (j : Int)) = false := by rw [decide_eq_false_iff_not]; omega
          go_wp2
          go_quiet (fail)
          go_wp2
          go_roundw
          case rel => exact ⟨i + 1, dj, by go_num, by omega, by omega, HSJ.out, HD.out.nw (Nw.drewN wr nq), hKj.drewN' nq, OUT.out (.inl (by omega))⟩
          case measure => simp [intOf]; omega
    · go_wp2
      go_end0
      exact ⟨rfl, by unfold Sort.insertionSort; rw [← HO.out, insOuter_stop _ _ _ _ _ hlt]; exact hD, hK⟩

theorem reverseRange_any (w : World) (b c x y : Nat) (d : Array Nat) (hH : Dv w b c d) (hxy : x < y) (hy : y ≤ d.size) (hsz : d.size < 4611686018427387904) :
    Calls Try.prog 58 #[.slice (some ⟨b, 0, none⟩) d.size c, .int .i64 (x : Int), .int .i64 (y : Int)] w fun e w' =>
      e = .returned (.tuple #[]) ∧ Dv w' b c (Sort.reverseRange d x y) ∧ Kp b b w w' := by
  go_enter Try.func58, Try.ntmps58
  go_wp2
  go_loopw [6, 7] (fun vi vj wr => ∃ (i j : Nat) (dk : Array Nat), vi = .int .i64 i ∧ vj = .int .i64 j ∧ x ≤ i ∧ i ≤ j + 1 ∧ j < y ∧ dk.size = d.size ∧ Dv wr b c dk ∧ Kp b b w wr ∧
      reverseLoop i j dk = reverseLoop x (y - 1) d) (fun vi vj _ => (intOf vj + 1 - intOf vi).toNat)
  case atStart => exact ⟨x, y - 1, d, rfl, by go_num, by omega, by omega, by omega, rfl, hH, Kp.refl _ _ _, rfl⟩
  case round =>
    obtain ⟨i, j, dk, rfl, rfl, h1, h2, h3, hsk, hD, hK, hO⟩ := hrel
    have HO := Lib.hid hO
    have HS := Lib.hid hsk
    have hjs : j < d.size := by omega
    have HD := Lib.hid hD
    clear hO hH hsk hD
    by_cases hlt : i < j
    · have hck := HD.out.cell (j := i) (by have := HS.out; omega)
      have hck1 := HD.out.cell (j := j) (by have := HS.out; omega)
      have hfk := HD.out.free i (by have := HS.out; omega)
      have hfk1 := HD.out.free j (by have := HS.out; omega)
      obtain ⟨p, hp⟩ : ∃ p, p = dk[i]! := ⟨_, rfl⟩
      obtain ⟨q, hq⟩ : ∃ q, q = dk[j]! := ⟨_, rfl⟩
      rw [← hp] at hck
      rw [← hq] at hck1
      have HPQ := Lib.hid (And.intro hp hq)
      clear hp hq
      have i0 : (i : Int) < (d.size : Int) := by omega
      have i1 : (j : Int) < (d.size : Int) := by omega
      have hne1 : ¬ i = j := by omega
      have hne2 : ¬ j = i := by omega
      have HN := Lib.hid (show reverseLoop i j dk = reverseLoop (i + 1) (j - 1) (swp dk i j) from by rw [reverseLoop, if_pos hlt])
      go_wp2
      go_region
      all_goals go_wp2
      go_roundw
      case rel =>
        obtain ⟨hp, hq⟩ := HPQ.out
        refine ⟨i + 1, j - 1, swp dk i j, by go_num, by go_num, by omega, by omega, by omega, by rw [size_swp]; exact HS.out, ?_, ((hK.drewN' 1).setCell' (.inl rfl) _).setCell' (.inl rfl) _, by rw [← HO.out, HN.out]⟩
        rw [hp, hq]
        exact (HD.out.nw (Nw.drewN wr 1)).swap i j
      case measure => simp [intOf]; omega
    · have HN := Lib.hid (show reverseLoop i j dk = dk from by rw [reverseLoop, if_neg hlt])
      go_wp2
      go_end0
      exact ⟨rfl, by unfold Sort.reverseRange; rw [← HO.out, HN.out]; exact HD.out, hK⟩
end Go.Proofs.Ytbdpimnbjonhlaa
