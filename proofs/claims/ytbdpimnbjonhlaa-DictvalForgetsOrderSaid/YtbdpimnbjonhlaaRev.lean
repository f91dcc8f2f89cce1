/- slices.Reverse at words: the same elements, in some order. -/
import Derived.Test.YtbdpimnbjonhlaaChecked
import Derived.Test.YtbdpimnbjonhlaaSort
namespace Go.Proofs.Ytbdpimnbjonhlaa
open Go Go.RowKit Go.Sort

theorem swp_perm (d : Array Nat) (i j : Nat) (hi : i < d.size) (hj : j < d.size) : (swp d i j).toList.Perm d.toList := by
  have h := (swp_permIn d 0 d.size i j (Nat.zero_le _) hi (Nat.zero_le _) hj (Nat.le_refl _)).2.2
  rw [show (swp d i j).extract 0 d.size = swp d i j from by rw [← size_swp d i j, Array.extract_size]] at h
  rw [Array.extract_size] at h
  exact h
theorem Reverse_any (w : World) (b c : Nat) (d : Array Nat) (hH : Dv w b c d) (hsz : d.size < 4611686018427387904) :
    Calls Try.prog 33 #[.slice (some ⟨b, 0, none⟩) d.size c] w fun e w' =>
      e = .returned (.tuple #[]) ∧ ∃ d', Dv w' b c d' ∧ d'.size = d.size ∧ d'.toList.Perm d.toList ∧ Kp b b w w' := by
  go_enter Try.func33, Try.ntmps33
  go_wp2
  go_loopw [2, 3] (fun vi vj wr => ∃ (i : Nat) (j : Int) (dk : Array Nat), vi = .int .i64 i ∧ vj = .int .i64 j ∧ (i : Int) ≤ j + 1 ∧ j < d.size ∧ dk.size = d.size ∧ Dv wr b c dk ∧ Kp b b w wr ∧ Hid (dk.toList.Perm d.toList)) (fun vi vj _ => (intOf vj + 1 - intOf vi).toNat)
  case atStart => exact ⟨0, _, d, rfl, rfl, by omega, by omega, rfl, hH, Kp.refl _ _ _, Lib.hid (List.Perm.refl _)⟩
  case round =>
    obtain ⟨i, j, dk, rfl, rfl, h2, h3, hsk, hD, hK, hP⟩ := hrel
    have HS := Lib.hid hsk
    have HD := Lib.hid hD
    clear hH hsk hD
    by_cases hlt : (i : Int) < j
    · obtain ⟨j, rfl⟩ : ∃ m : Nat, j = (m : Int) := ⟨j.toNat, by omega⟩
      have hck := HD.out.cell (j := i) (by have := HS.out; omega)
      have hck1 := HD.out.cell (j := j) (by have := HS.out; omega)
      have hfk := HD.out.free i (by have := HS.out; omega)
      have hfk1 := HD.out.free j (by have := HS.out; omega)
      obtain ⟨p, hp⟩ : ∃ p, p = dk[i]! := ⟨_, rfl⟩
      obtain ⟨q, hq⟩ : ∃ q, q = dk[j]! := ⟨_, rfl⟩
      rw [← hp] at hck
      rw [← hq] at hck1
      have HPQ := Lib.hid (And.intro hp hq)
      clear hp hq
      have i0 : (i : Int) < (d.size : Int) := by omega
      have i1 : (j : Int) < (d.size : Int) := by omega
      have hne1 : ¬ i = j := by omega
      have hne2 : ¬ j = i := by omega
      go_wp2
      go_region
      all_goals go_wp2
      go_roundw
      case rel =>
        obtain ⟨hp, hq⟩ := HPQ.out
        refine ⟨i + 1, (j : Int) - 1, swp dk i j, by go_num, by go_num, by omega, by omega, by rw [size_swp]; exact HS.out, ?_, ((hK.drewN' 1).setCell' (.inl rfl) _).setCell' (.inl rfl) _, Lib.hid ((swp_perm dk i j (by have := HS.out; omega) (by have := HS.out; omega)).trans hP.out)⟩
        rw [hp, hq]
        exact (HD.out.nw (Nw.drewN wr 1)).swap i j
      case measure => simp [intOf]; omega
    · go_wp2
      go_end0
      exact ⟨rfl, dk, HD.out, HS.out, hP.out, hK⟩
end Go.Proofs.Ytbdpimnbjonhlaa
