/- alive: the examples of the chapter hold. -/
import Derived.Test.YtjepaneniodbpaaGreatDoorChecked
import Derived.Test.YtjepaneniodbpaaGreatDoorDvLaw
import Derived.Test.YtjepaneniodbpaaGreatDoorPut
import Derived.Test.YtjepaneniodbpaaGreatDoorGet
import Derived.Test.YtjepaneniodbpaaGreatDoorDictF
import Derived.Test.YtjepaneniodbpaaGreatDoorWriter
namespace Go.Proofs.YtjepaneniodbpaaGreatDoor
open Go Go.RowKit

theorem dict797 : dict [9, 7, 9] = [7, 9] := by decide
theorem put797 : (putBits [9, 7, 9]).length = 138 := by rw [putBits_length _ (by simp), dict797]; decide
theorem rest_pk (bs : List Bool) : rest (pk bs) 0 = bs ++ List.replicate (8 * ((bs.length + 7) / 8) - bs.length) false := by
  unfold rest
  rw [List.drop_zero, up_pk]
theorem got797 : ∃ r, getVals 3 (rest (pk (putBits [9, 7, 9])) 0) = ([9, 7, 9], 0, r) := by
  rw [rest_pk]
  exact ⟨_, getVals_put [9, 7, 9] _ (by simp) (by rw [dict797]; decide) (by decide)⟩
theorem sz797 : szOf [9, 7, 9] = 138 := by unfold szOf; rw [dict797]; decide
theorem rd_lit (w : World) (cs : Array Value) (l : List Value) (n : Nat) (h : cs.toList = l) (hn : cs.size = n) (hm : n ≤ 9223372036854775807) : Rd (w.alloc (.cells cs 25)) w.heap.size (some ⟨w.heap.size, 0, none⟩) l := by
  subst h
  exact (Ow.lit w 25 1 n cs (by omega) hm).rd

theorem Ow.nilcap {w : World} {b : Nat} {e : TypeId} {size n c : Nat} {A : Option Addr} {xs : List Value} (h : Ow w b e size A n c xs) : A = none → c = 0 := by
  rcases h with ⟨_, _, h, _⟩ | ⟨h, _⟩
  · exact fun _ => h
  · intro e; rw [e] at h; cases h

theorem Get797 (w : World) (g b : Nat) (h : Rdr w g b (pk (putBits [9, 7, 9])) 0) : Calls Tryz.prog 46 #[.pointer (some ⟨g, 0, none⟩), .int .i64 3] w fun e w' =>
    ∃ A c b', e = .returned (.tuple #[.slice A 3 c, .int .i64 0]) ∧ Ow w' b' 25 1 A 3 c (cN .u64 [9, 7, 9]) ∧ w.heap.size ≤ b' ∧ Kp g g w w' := by
  refine (Get_any w g b _ 0 3 h (by omega) (by omega)).mono ?_
  rintro e w' ⟨A, c, he, hp, ⟨b', hO, hb⟩, hK⟩
  obtain ⟨r, hr⟩ := got797
  rw [hr] at he hO
  exact ⟨A, c, b', he, hO, hb, hK⟩
theorem Size797 (w : World) (b : Nat) (A : Option Addr) (c : Nat) (hr : Rd w b A (cN .u64 [9, 7, 9])) : Calls Tryz.prog 44 #[.slice A 3 c] w fun e w' => e = .returned (.int .i64 138) ∧ Nw w w' := by
  have h := Size_any w b A 3 c [9, 7, 9] rfl (by omega) hr (by decide)
  rwa [sz797] at h
theorem Dict797 (w : World) (b : Nat) (A : Option Addr) (c : Nat) (hr : Rd w b A (cN .u64 [9, 7, 9])) : Calls Tryz.prog 75 #[.slice A 3 c] w fun e w' =>
    ∃ b' c', e = .returned (.slice (some ⟨b', 0, none⟩) 2 c') ∧ Ow w' b' 25 1 (some ⟨b', 0, none⟩) 2 c' (cN .u64 [7, 9]) ∧ w.heap.size ≤ b' ∧ Nw w w' := by
  have h := Dictionary_any w b A 3 c [9, 7, 9] rfl (by omega) hr (by decide)
  rw [dict797] at h
  exact h
theorem Width128 (w : World) : Calls Tryz.prog 76 #[.int .i64 128] w fun e w' => e = .returned (.int .i64 7) ∧ w = w' := by
  refine (Width_any w 128 (by omega) (by omega)).mono ?_
  rintro e w' ⟨rfl, rfl⟩
  exact ⟨ret_int (by decide), rfl⟩

end Go.Proofs.YtjepaneniodbpaaGreatDoor
