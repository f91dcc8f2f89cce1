/- alive: the examples of the chapter hold. -/
import Derived.Test.YtbdpimnbjonhlaaChecked
import Derived.Test.YtbdpimnbjonhlaaDvLaw
import Derived.Test.YtbdpimnbjonhlaaPut
import Derived.Test.YtbdpimnbjonhlaaGet
import Derived.Test.YtbdpimnbjonhlaaDictF
import Derived.Test.YtbdpimnbjonhlaaWriter
namespace Go.Proofs.Ytbdpimnbjonhlaa
open Go Go.RowKit

theorem dict797 : dict [9, 7, 9] = [7, 9] := by decide
theorem put797 : (putBits [9, 7, 9]).length = 138 := by rw [putBits_length _ (by simp), dict797]; decide
theorem rest_pk (bs : List Bool) : rest (pk bs) 0 = bs ++ List.replicate (8 * ((bs.length + 7) / 8) - bs.length) false := by
  unfold rest
  rw [List.drop_zero, up_pk]
theorem got797 : ∃ r, getVals 3 (rest (pk (putBits [9, 7, 9])) 0) = ([9, 7, 9], 0, r) := by
  rw [rest_pk]
  exact ⟨_, getVals_put [9, 7, 9] _ (by simp) (by rw [dict797]; decide) (by decide)⟩
theorem sz797 : szOf [9, 7, 9] = 138 := by unfold szOf; rw [dict797]; decide
theorem rd_lit (w : World) (cs : Array Value) (l : List Value) (n : Nat) (h : cs.toList = l) (hn : cs.size = n) (hm : n ≤ 9223372036854775807) : Rd (w.alloc (.cells cs 25)) w.heap.size (some ⟨w.heap.size, 0, none⟩) l := by
  subst h
  exact (Ow.lit w 25 1 n cs (by omega) hm).rd

theorem Ow.nilcap {w : World} {b : Nat} {e : TypeId} {size n c : Nat} {A : Option Addr} {xs : List Value} (h : Ow w b e size A n c xs) : A = none → c = 0 := by
  rcases h with ⟨_, _, h, _⟩ | ⟨h, _⟩
  · exact fun _ => h
  · intro e; rw [e] at h; cases h

theorem Get797 (w : World) (g b : Nat) (h : Rdr w g b (pk (putBits [9, 7, 9])) 0) : Calls Try.prog 17 #[.pointer (some ⟨g, 0, none⟩), .int .i64 3] w fun e w' =>
    ∃ A c b', e = .returned (.tuple #[.slice A 3 c, .int .i64 0]) ∧ Ow w' b' 25 1 A 3 c (cN .u64 [9, 7, 9]) ∧ w.heap.size ≤ b' ∧ Kp g g w w' := by
  refine (Get_any w g b _ 0 3 h (by omega) (by omega)).mono ?_
  rintro e w' ⟨A, c, he, hp, ⟨b', hO, hb⟩, hK⟩
  obtain ⟨r, hr⟩ := got797
  rw [hr] at he hO
  exact ⟨A, c, b', he, hO, hb, hK⟩
theorem Len138 (w : World) (g b : Nat) (h : Wtr w g b (putBits [9, 7, 9])) : Calls Try.prog 26 #[.pointer (some ⟨g, 0, none⟩)] w fun e w' => e = .returned (.int .i64 138) ∧ w = w' := by
  have h2 := WLen_any w g b _ h
  rw [put797] at h2
  exact h2
theorem Equal_same (w : World) (b b' : Nat) (A A' : Option Addr) (n c n' c' : Nat) (xs : List Nat) (hn : n = xs.length) (hn' : n' = xs.length) (hm : n ≤ 9223372036854775807) (hr : Rd w b A (cN .u64 xs)) (hr' : Rd w b' A' (cN .u64 xs)) :
    Calls Try.prog 12 #[.slice A n c, .slice A' n' c'] w fun e w' => e = .returned (.bool true) ∧ Dr w w' := by
  have h := Equal_any w b b' A A' n c n' c' xs xs hn hn' hm (by omega) hr hr'
  rwa [decide_eq_true rfl] at h
theorem Size797 (w : World) (b : Nat) (A : Option Addr) (c : Nat) (hr : Rd w b A (cN .u64 [9, 7, 9])) : Calls Try.prog 30 #[.slice A 3 c] w fun e w' => e = .returned (.int .i64 138) ∧ Nw w w' := by
  have h := Size_any w b A 3 c [9, 7, 9] rfl (by omega) hr (by decide)
  rwa [sz797] at h
theorem Dict797 (w : World) (b : Nat) (A : Option Addr) (c : Nat) (hr : Rd w b A (cN .u64 [9, 7, 9])) : Calls Try.prog 11 #[.slice A 3 c] w fun e w' =>
    ∃ b' c', e = .returned (.slice (some ⟨b', 0, none⟩) 2 c') ∧ Ow w' b' 25 1 (some ⟨b', 0, none⟩) 2 c' (cN .u64 [7, 9]) ∧ w.heap.size ≤ b' ∧ Nw w w' := by
  have h := Dictionary_any w b A 3 c [9, 7, 9] rfl (by omega) hr (by decide)
  rw [dict797] at h
  exact h
theorem Width128 (w : World) : Calls Try.prog 14 #[.int .i64 128] w fun e w' => e = .returned (.int .i64 7) ∧ w = w' := by
  refine (Width_any w 128 (by omega) (by omega)).mono ?_
  rintro e w' ⟨rfl, rfl⟩
  exact ⟨ret_int (by decide), rfl⟩

set_option maxHeartbeats 1600000 in
theorem alive_any (w : World) : Calls Try.prog 9 #[] w fun e w' => e = .returned (.bool true) ∧ Nw w w' := by
  go_enter Try.func9, Try.ntmps9
  go_wp2_with fail
  refine (NewWriter_any _).mono ?_
  rintro e w1 ⟨g, rfl, hW, hg, hN1⟩
  have hW1 := hW.nw ((Nw.refl w1).alloc' (.cells #[.int .u64 9, .int .u64 7, .int .u64 9] 25))
  have HP := Lib.hid (Put_ok (w1.alloc (.cells #[.int .u64 9, .int .u64 7, .int .u64 9] 25)) g g w1.heap.size (some ⟨w1.heap.size, 0, none⟩) 3 3 [] [9, 7, 9] rfl (by omega) (rd_lit w1 _ _ 3 rfl rfl (by omega)) (by decide) hW1 (by have := hW.lt; omega) (by have := hW.lt; omega) (by simp) (fun _ => by simp) (by rw [dict797]; decide) (by simp))
  have hgl := hW.lt
  clear hW hW1
  go_wp2_with fail
  refine HP.out.mono ?_
  rintro e w2 ⟨rfl, b2, hW2, hb2, hK2⟩
  rw [List.nil_append] at hW2
  have hN2 : Nw w w2 := Kp.nw (hN1.alloc' _) hK2 hg hg
  have HB := Lib.hid (WBytes_any w2 g b2 _ hW2 (by rw [put797]; omega))
  have HW2 := Lib.hid hW2
  have hs2 := hN2.size
  clear hW2 HP
  go_wp2_with fail
  refine HB.out.mono ?_
  rintro e w3 ⟨b3, A3, c3, rfl, hO3, hb3, hN3⟩
  have HR := Lib.hid (NewReader_any w3 b3 A3 _ c3 (pk (putBits [9, 7, 9])) rfl (by rw [pk_length, put797]; omega) hO3.rd hO3.nilcap (pk_lt _))
  clear hO3 HB
  go_wp2_with fail
  refine HR.out.mono ?_
  rintro e w4 ⟨g4, b4, rfl, hR4, hg4, hb4, hN4⟩
  have HGt := Lib.hid (Get797 w4 g4 b4 hR4)
  have hs3 := hN3.size
  have hs4 := hN4.size
  clear hR4 HR
  go_wp2_with fail
  refine HGt.out.mono ?_
  rintro e w5 ⟨A5, c5, b5, rfl, hO5, hb5, hK5⟩
  have hW5 := ((HW2.out.nw hN3).nw hN4).kp hK5 (by have := HW2.out.glt; omega) (by have := HW2.out.glt; omega) (by have := HW2.out.lt; omega) (by have := HW2.out.lt; omega)
  have hN5 : Nw w w5 := Kp.nw ((hN2.trans hN3).trans hN4) hK5 (by omega) (by omega)
  have HL := Lib.hid (Len138 w5 g b2 hW5)
  have HO5 := Lib.hid hO5
  have hN5a := Nw.alloc' (Nw.refl w5) (.cells #[.int .u64 9, .int .u64 7, .int .u64 9] 25)
  have HE := Lib.hid (Equal_same (w5.alloc (.cells #[.int .u64 9, .int .u64 7, .int .u64 9] 25)) b5 w5.heap.size A5 (some ⟨w5.heap.size, 0, none⟩) 3 c5 3 3 [9, 7, 9] rfl rfl (by omega) (hO5.rd.nw hN5a) (rd_lit w5 _ _ 3 rfl rfl (by omega)))
  clear hW5 hO5 HGt
  go_wp2_with fail
  refine HL.out.mono ?_
  rintro e w6 ⟨rfl, rfl⟩
  go_wp2_with fail
  refine HE.out.mono ?_
  rintro e w6 ⟨rfl, hD6⟩
  have hN6 := (hN5.trans hN5a).trans hD6.nw
  have hr6 := ((HO5.out.nw hN5a).nw hD6.nw)
  have HS := Lib.hid (Size797 w6 b5 A5 c5 hr6.rd)
  have HO6 := Lib.hid hr6
  clear hr6 HE HL
  go_wp2_with fail
  refine HS.out.mono ?_
  rintro e w7 ⟨rfl, hN7⟩
  have HD := Lib.hid (Dict797 w7 b5 A5 c5 (HO6.out.nw hN7).rd)
  clear HS
  go_wp2_with fail
  refine HD.out.mono ?_
  rintro e w8 ⟨b8, c8, rfl, hO8, hb8, hN8⟩
  have hN8a := Nw.alloc' (Nw.refl w8) (.cells #[.int .u64 7, .int .u64 9] 25)
  have HE := Lib.hid (Equal_same (w8.alloc (.cells #[.int .u64 7, .int .u64 9] 25)) b8 w8.heap.size (some ⟨b8, 0, none⟩) (some ⟨w8.heap.size, 0, none⟩) 2 c8 2 2 [7, 9] rfl rfl (by omega) (hO8.rd.nw hN8a) (rd_lit w8 _ _ 2 rfl rfl (by omega)))
  clear hO8 HD
  go_wp2_with fail
  refine HE.out.mono ?_
  rintro e w9 ⟨rfl, hD9⟩
  go_wp2_with (go_at_call 14; refine (Width128 _).mono ?_; rintro e w10 ⟨rfl, rfl⟩)
  go_ret
  exact ⟨rfl, (((hN6.trans hN7).trans hN8).trans hN8a).trans hD9.nw⟩
end Go.Proofs.Ytbdpimnbjonhlaa
