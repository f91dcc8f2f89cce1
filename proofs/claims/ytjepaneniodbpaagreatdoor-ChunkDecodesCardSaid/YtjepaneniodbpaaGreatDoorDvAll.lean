/- Get at every count, and Put into a nil list of bits: what the laws ask. -/
import Derived.Test.YtjepaneniodbpaaGreatDoorChecked
import Derived.Test.YtjepaneniodbpaaGreatDoorDvLaw
import Derived.Test.YtjepaneniodbpaaGreatDoorAlive
import Derived.Test.YtjepaneniodbpaaGreatDoorRGet
import Derived.Test.YtjepaneniodbpaaGreatDoorRPut
namespace Go.Proofs.YtjepaneniodbpaaGreatDoor
open Go Go.RowKit

theorem getVals_zero (r : List Bool) : getVals 0 r = ([], 0, r) := by simp [getVals]
theorem Get_nat (w : World) (g b : Nat) (bytes : List Nat) (pos n : Nat) (h : Rdr w g b bytes pos) (hm : n ≤ 1000000) :
    Calls Tryz.prog 46 #[.pointer (some ⟨g, 0, none⟩), .int .i64 (n : Int)] w fun e w' => GotV w w' g b bytes pos e (getVals n (rest bytes pos)) := by
  by_cases hn : n = 0
  · subst hn
    refine (Get_zero w g).mono ?_
    rintro e w' ⟨rfl, rfl⟩
    exact GotV.fail (getVals_zero _) (Nat.le_refl _) h (Kp.refl _ _ _)
  · exact Get_any w g b bytes pos n h (by omega) hm
theorem RGet_nat (w : World) (g b : Nat) (l : List Bool) (n : Nat) (h : Qr w g b l) (hbl : b < w.heap.size) (hm : n ≤ 1000000) :
    Calls Tryz.prog 62 #[.pointer (some ⟨g, 0, none⟩), .int .i64 (n : Int)] w fun e w' => GotQ w w' g b e (getVals n l) := by
  by_cases hn : n = 0
  · subst hn
    refine (RGet_zero w g).mono ?_
    rintro e w' ⟨rfl, rfl⟩
    exact GotQ.fail (getVals_zero _) h (Kp.refl _ _ _)
  · exact RGet_any w g b l n h hbl (by omega) hm
/-- the reference's encoding from a nil list on -/
theorem RPut_nil (w : World) (bl : Nat) (Al : Option Addr) (n cl : Nat) (l : List Nat) (hn : n = l.length) (hm : n ≤ 1000000) (hlt : ∃ b, b < w.heap.size ∧ bl ≠ b)
    (hr : Rd w bl Al (cN .u64 l)) (hx : ∀ x ∈ l, x < 18446744073709551616) (hd : (dict l).length ≤ 128) :
    Calls Tryz.prog 51 #[.slice none 0 0, .slice Al n cl] w fun e w' => ∃ b' A' c', e = .returned (.tuple #[.slice A' (putBits l).length c', .bool true]) ∧ Rd w' b' A' (cB (putBits l)) ∧ (putBits l).length ≤ c' ∧ (A' = none → c' = 0) ∧ Nw w w' := by
  by_cases hl : l = []
  · subst hl hn
    refine (RPut_empty w none Al 0 0 cl).mono ?_
    rintro e w' ⟨rfl, hN⟩
    exact ⟨0, none, 0, by simp [putBits], Rd.nil _ _ _, by simp [putBits], fun _ => rfl, hN⟩
  · obtain ⟨b, hb, hne⟩ := hlt
    refine (RPut_ok w b bl none Al 0 0 n cl [] l (Ow.nil _ _ _ _) hn hm (by omega) hb hne hr hx hd hl).mono ?_
    rintro e w' ⟨b', A', c', rfl, hO, _, _, hnn⟩
    rw [Nat.zero_add] at hO
    exact ⟨b', A', c', by simp, hO.rd, hO.cap.1, hO.nilcap, (hnn rfl).1⟩
/-- the reference's reader, just made -/
theorem qr_new {w : World} {b n c : Nat} {A : Option Addr} {l : List Bool} (hO : Ow w b 4 1 A n c (cB l)) (hl : l.length ≤ 1099511627776) (h0 : 0 < w.heap.size) :
    ∃ b', Qr (w.alloc (.cells #[.slice A n c] 76)) w.heap.size b' l ∧ b' < w.heap.size := by
  have hlen := hO.len
  simp only [List.length_map, Nat.mul_one] at hlen
  subst hlen
  have hN := Nw.alloc' (Nw.refl w) (.cells #[.slice A l.length c] 76)
  by_cases e : l = []
  · refine ⟨0, ⟨⟨A, c, heap_alloc_new w _, ?_, hO.cap.1, hO.nilcap⟩, by omega, hl⟩, h0⟩
    subst e
    exact Rd.nil _ _ _
  · have hlt := hO.lt (List.length_pos_iff.2 e)
    exact ⟨b, ⟨⟨A, c, heap_alloc_new w _, hO.rd.nw hN, hO.cap.1, hO.nilcap⟩, by omega, hl⟩, hlt⟩
theorem cell_of_qr {w : World} {g b : Nat} {l : List Bool} (h : Qr w g b l) : ∃ A c, w.cell? ⟨g, 0, none⟩ = some (.slice A l.length c) := by
  obtain ⟨⟨A, c, hb, _⟩, _⟩ := h
  exact ⟨A, c, by simp [World.cell?, hb]⟩
theorem Nw.drew1 (w : World) : Nw w w.drew := ⟨rfl, rfl, rfl, Nat.le_refl _, fun _ _ => rfl⟩
theorem cell_nw {w w' : World} (hN : Nw w w') {g : Nat} {v : Value} (hg : g < w.heap.size) (h : w.cell? ⟨g, 0, none⟩ = some v) : w'.cell? ⟨g, 0, none⟩ = some v :=
  (World.cell?_of_block (hN.block g hg)).trans h
/-- Put, the empty list too -/
theorem Put_all (w : World) (g gb b : Nat) (A : Option Addr) (n c : Nat) (bs : List Bool) (l : List Nat) (hn : n = l.length) (hm : n ≤ 1000000) (hr : Rd w b A (cN .u64 l)) (hx : ∀ x ∈ l, x < 18446744073709551616)
    (hW : Wtr w g gb bs) (hne : b ≠ g) (hne2 : b ≠ gb) (hb : bs.length ≤ 1000000000) (hbl : l ≠ [] → b < w.heap.size) (hd : (dict l).length ≤ 128) :
    Calls Tryz.prog 45 #[.pointer (some ⟨g, 0, none⟩), .slice A n c] w fun e w' => e = .returned (.int .i64 0) ∧ ∃ b', Wtr w' g b' (bs ++ putBits l) ∧ (b' = gb ∨ w.heap.size ≤ b') ∧ Kp g gb w w' := by
  by_cases hl : l = []
  · subst hl hn
    refine (Put_empty w g b A c).mono ?_
    rintro e w' ⟨rfl, hN⟩
    exact ⟨rfl, gb, by simpa [putBits] using hW.nw hN, .inl rfl, hN.kp _ _⟩
  · exact Put_ok w g gb b A n c bs l hn hm hr hx hW hne hne2 hb hbl hd hl
/-- the reference's Put, the empty list too -/
theorem RPut_all (w : World) (b bl : Nat) (A Al : Option Addr) (m c n cl : Nat) (bs : List Bool) (l : List Nat) (hO : Ow w b 4 1 A m c (cB bs)) (hn : n = l.length) (hm : n ≤ 1000000) (hb : m ≤ 1000000000) (hbl : b < w.heap.size) (hne : bl ≠ b)
    (hr : Rd w bl Al (cN .u64 l)) (hx : ∀ x ∈ l, x < 18446744073709551616) (hd : (dict l).length ≤ 128) :
    Calls Tryz.prog 51 #[.slice A m c, .slice Al n cl] w fun e w' => ∃ b' A' c', e = .returned (.tuple #[.slice A' (m + (putBits l).length) c', .bool true]) ∧ Ow w' b' 4 1 A' (m + (putBits l).length) c' (cB (bs ++ putBits l)) ∧ (b' = b ∨ w.heap.size ≤ b') ∧ Kp b b w w' := by
  by_cases hl : l = []
  · subst hl hn
    refine (RPut_empty w A Al m c cl).mono ?_
    rintro e w' ⟨rfl, hN⟩
    exact ⟨b, A, c, by simp [putBits], by simpa [putBits] using hO.nw hN, .inl rfl, hN.kp _ _⟩
  · refine (RPut_ok w b bl A Al m c n cl bs l hO hn hm hb hbl hne hr hx hd hl).mono ?_
    rintro e w' ⟨b', A', c', h1, h2, h3, h4, _⟩
    exact ⟨b', A', c', h1, h2, h3, h4⟩
theorem szOf_put (l : List Nat) (hd : (dict l).length ≤ 128) : szOf l = ((putBits l).length : Int) := by
  unfold szOf
  rw [if_neg (by omega)]
  by_cases hl : l = []
  · subst hl; rfl
  · rw [if_neg (by intro h; exact hl ((dict_nil_iff l).1 (List.eq_nil_of_length_eq_zero h))), putBits_length l hl]
    push_cast
    rw [Int.mul_comm (l.length : Int)]
    omega
theorem szOf_limit (l : List Nat) (hd : 128 < (dict l).length) : szOf l = -1 := by unfold szOf; rw [if_pos hd]
theorem bitsOf_zero (k : Nat) : bitsOf 0 k = List.replicate k false := by
  refine List.ext_getElem (by simp [bitsOf]) fun j h1 h2 => ?_
  simp [bitsOf]
theorem endE_pad (k : Nat) (h : k < 8) : endE (List.replicate k false) = 0 := by
  unfold endE
  rw [if_neg]
  rintro (h1 | h1)
  · simp at h1; omega
  · simp at h1
theorem bytesEqual_same (w : World) (b b' : Nat) (A A' : Option Addr) (n c n' c' : Nat) (xs : List Nat) (hn : n = xs.length) (hn' : n' = xs.length) (hr : Rd w b A (cN .u8 xs)) (hr' : Rd w b' A' (cN .u8 xs)) (hx : ∀ x ∈ xs, x < 256) :
    Calls Tryz.prog 9 #[.slice A n c, .slice A' n' c'] w fun e w' => e = .returned (.bool true) ∧ w = w' := by
  have h := bytesEqual_any w b b' A A' n c n' c' xs xs hn hn' hr hr' hx hx
  rwa [decide_eq_true rfl] at h
theorem ow_made {w3 w4 : World} {k : Nat} (hrow : w4.ownsRow 0 4 1 (.slice (some ⟨w3.heap.size, 0, none⟩) k k) k (madeCells (Value.bool false).cells (k * 1)).toList) :
    Ow w4 w3.heap.size 4 1 (some ⟨w3.heap.size, 0, none⟩) k k (cB (List.replicate k false)) := by
  refine .inr ⟨rfl, ?_, by rw [← made_bools]; exact hrow⟩
  rcases hrow.2 with ⟨hv, _⟩ | ⟨g', cap, cur, hv, _, hh, _⟩
  · cases hv
  · injection hv with hv1 _ _
    injection hv1 with hv1
    injection hv1 with hv1 _ _
    rw [hv1]
    exact lt_of_block hh
theorem Ow.lt2 {w : World} {b : Nat} {e : TypeId} {size n c : Nat} {p : Addr} {xs : List Value} (h : Ow w b e size (some p) n c xs) : b < w.heap.size := by
  rcases h with ⟨h, _⟩ | ⟨_, h, _⟩
  · cases h
  · exact h
/-- a list that is read from a block which is none of the new ones -/
theorem rd_pick {w : World} {b N : Nat} {A : Option Addr} {xs : List Value} (h : Rd w b A xs) (hb : xs ≠ [] → b < N) (g1 g2 : Nat) (h1 : N ≤ g1) (h2 : N ≤ g2) :
    ∃ b0, Rd w b0 A xs ∧ b0 ≠ g1 ∧ b0 ≠ g2 ∧ (xs ≠ [] → b0 < N) := by
  by_cases e : xs = []
  · subst e
    exact ⟨g1 + g2 + 1, Rd.nil _ _ _, by omega, by omega, fun h => absurd rfl h⟩
  · have := hb e
    exact ⟨b, h, by omega, by omega, fun _ => this⟩
end Go.Proofs.YtjepaneniodbpaaGreatDoor
