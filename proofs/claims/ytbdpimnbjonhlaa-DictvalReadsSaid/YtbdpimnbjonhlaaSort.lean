/- slices.Sort at words: a permutation, ascending. -/
import Derived.Test.YtbdpimnbjonhlaaSortX
namespace Go.Proofs.Ytbdpimnbjonhlaa
open Go Go.RowKit Go.Sort

theorem sorted_list {d : Array Nat} (h : SortedIn ltN 0 d.size d) : d.toList.Pairwise (· ≤ ·) := by
  rw [List.pairwise_iff_getElem]
  intro i j hi hj hij
  have h1 : i < d.size := by simpa using hi
  have h2 : j < d.size := by simpa using hj
  have := h i j (Nat.zero_le _) hij h2
  rw [getElem!_pos d j h2, getElem!_pos d i h1] at this
  simp only [decide_eq_false_iff_not] at this
  simp only [Array.getElem_toList]
  omega

theorem Sort_any (w : World) (b n c : Nat) (l : List Nat) (hn : n = l.length) (hO : Ow w b 25 1 (some ⟨b, 0, none⟩) n c (cN .u64 l)) (hm : n ≤ 1000000000000000) :
    Calls Try.prog 36 #[.slice (some ⟨b, 0, none⟩) n c] w fun e w' => e = .returned (.tuple #[]) ∧ ∃ l' : List Nat, l'.Perm l ∧ l'.Pairwise (· ≤ ·) ∧ Ow w' b 25 1 (some ⟨b, 0, none⟩) n c (cN .u64 l') ∧ Kp b b w w' := by
  have hs : l.toArray.size = n := by simp [hn]
  have hD : Dv w b c l.toArray := by unfold Dv; rw [hs]; simpa using hO
  have hL := wd_le64 (n + 1) (by omega)
  have hLe : wd (n + 1) = Lib.bitLen n := by unfold wd; rw [if_neg (by omega), Nat.add_sub_cancel]
  rw [hLe] at hL
  have hc := pdq_all (n + 1) w b c 0 n (Lib.bitLen n) l.toArray (by omega) hD (by omega) (by omega) (by omega) (by omega) (.inl rfl)
  rw [hs] at hc
  have HC := Lib.hid hc
  have HS := Lib.hid hs
  have e1 : IntKind.u64.wrap (n : Int) = (n : Int) := IntWalk.u64_in _ (by omega)
  clear hc hs hn hO hD hL hLe
  go_enter Try.func36, Try.ntmps36
  go_wp2_with fail
  refine (Try.bits_Len (n : Int) w (by omega) (by omega)).mono ?_
  rintro e w' ⟨rfl, rfl⟩
  go_wp2_with fail
  refine HC.out.mono ?_
  rintro e w1 ⟨rfl, d', h1, h2, h3, h4, h5⟩
  go_wp2
  go_end0
  have hs := HS.out
  have h1' : d'.size = n := by rw [h1]; exact hs
  refine ⟨rfl, d'.toList, ?_, sorted_list (by rw [h1']; exact h5), ?_, h3⟩
  · have := h4.2.2
    have e2 : (d'.extract 0 n).toList = d'.toList := by simp; rw [List.take_of_length_le (by simp; omega)]
    have e3 : (l.toArray.extract 0 n).toList = l := by simp; rw [List.take_of_length_le (by simp at hs; omega)]
    rwa [e2, e3] at this
  · unfold Dv at h2
    rwa [h1'] at h2

end Go.Proofs.Ytbdpimnbjonhlaa
