/- chunk's alive: the example of the chapter holds. -/
import Derived.Test.YtjepaneniodbpaaGreatDoorChecked
import Derived.Test.YtjepaneniodbpaaGreatDoorSplit
namespace Go.Proofs.YtjepaneniodbpaaGreatDoor
open Go Go.RowKit Go.Sort

def zs3 : List (Int × Nat) := [(10, 5), (20, 5), (30, 5)]
theorem x555 : (xput [5, 5, 5]).length = 66 := by decide
theorem r555 : (rput [5, 5, 5]).length = 71 := by decide
theorem d555 : dict [5, 5, 5] = [5] := by decide
theorem s555 : szOf [5, 5, 5] = 71 := by unfold szOf; rw [d555]; decide
theorem t555 : tagOf [5, 5, 5] = 1 := by unfold tagOf; rw [x555, r555, s555]; decide
theorem pk3 : ∃ B, pk (cbits (tsOf zs3) (vsOf zs3)) = 1 :: 2 :: B := by
  have h := cbits_pk (tsOf zs3) (vsOf zs3) (by decide)
  rw [show vsOf zs3 = [5, 5, 5] from rfl] at h ⊢
  rw [t555] at h
  exact ⟨_, h⟩
theorem get3 : cget (pk (cbits (tsOf zs3) (vsOf zs3))) = .ok (tsOf zs3, vsOf zs3) := cget_put _ _ (by decide) rfl (by decide) (by unfold I6; decide) (by decide)
theorem in3 : InS zs3 := by unfold InS I6; decide
theorem len3 : (pk (cbits (tsOf zs3) (vsOf zs3))).length ≤ 1000 := by
  have h1 := tput_length_le (tsOf zs3)
  have h2 : (cbits (tsOf zs3) (vsOf zs3)).length = 8 + (8 + ((tput (tsOf zs3)).length + (xput [5, 5, 5]).length)) := by
    unfold cbits
    rw [show vsOf zs3 = [5, 5, 5] from rfl, t555]
    simp only [List.length_append, bitsOf_length]
    rfl
  rw [x555] at h2
  rw [pk_length]
  have : (tsOf zs3).length = 3 := rfl
  omega

theorem Dec3 (w : World) (b : Nat) (A : Option Addr) (n c : Nat) (B : List Nat) (hB : pk (cbits (tsOf zs3) (vsOf zs3)) = B) (hn : n = B.length) (hnc : n ≤ c) (hr : Rd w b A (cN .u8 B)) (hG : Gl w) :
    Calls Tryz.prog 11 #[.slice A n c] w fun e w' => ∃ b' A c, e = .returned (.tuple #[.slice A 3 c, .int .i64 0]) ∧ Ow w' b' 27 2 A 3 c (cS zs3) ∧ w.heap.size ≤ b' ∧ Nw w w' := by
  subst hB
  have h := Decode_any w b A n c _ hn hnc (by have := len3; omega) hr (pk_lt _) hG
  rw [get3] at h
  refine h.mono ?_
  rintro e w' ⟨⟨b', A, c, rfl, hO, hb⟩, hN⟩
  rw [zip_back] at hO
  exact ⟨b', A, c, rfl, hO, hb, hN⟩
theorem prefix12 (w : World) (b g : Nat) (A : Option Addr) (n c : Nat) (B : List Nat) (hn : n = (1 :: 2 :: B).length) (hnc : n ≤ c) (hr : Rd w b A (cN .u8 (1 :: 2 :: B))) (hr2 : Rd w g (some ⟨g, 0, none⟩) (cN .u8 [1, 2])) :
    Calls Tryz.prog 13 #[.slice A n c, .slice (some ⟨g, 0, none⟩) 2 2] w fun e w' => e = .returned (.bool true) ∧ w = w' := by
  have h := Tryz.bytes_HasPrefix_all A (some ⟨g, 0, none⟩) n c 2 2 ((1 :: 2 :: B).map fun x : Nat => (x : Int)) ([1, 2].map fun x : Nat => (x : Int)) w (by simp [hn]) rfl hnc (by rw [hn]; exact bytesIn_of hr) (bytesIn_of hr2)
  refine h.mono ?_
  rintro e w' ⟨rfl, rfl⟩
  refine ⟨?_, rfl⟩
  simp [Lib.hasPrefix, Lib.bytesOf, List.isPrefixOf]

set_option maxRecDepth 100000 in
set_option maxHeartbeats 4000000 in
theorem aliveC_any (w : World) (hG : Gl w) : Calls Tryz.prog 5 #[] w fun e w' => e = .returned (.bool true) ∧ Nw w w' := by
  have HG := Lib.hid hG
  have eq3 : ∀ W, (binOp .eql 42 (.agg #[.int .i64 66, .int .i64 71, .int .i64 71]) (.agg #[.int .i64 66, .int .i64 71, .int .i64 71])).run Tryz.prog W = .ok (.bool true) W := fun _ => by kernel_rfl
  have h0 : Rd (w.alloc (.cells #[.int .i64 10, .int .u64 5, .int .i64 20, .int .u64 5, .int .i64 30, .int .u64 5] 27)) w.heap.size (some ⟨w.heap.size, 0, none⟩) (cS zs3) := (Ow.lit w 27 2 3 #[.int .i64 10, .int .u64 5, .int .i64 20, .int .u64 5, .int .i64 30, .int .u64 5] rfl (by omega)).rd
  have hN1 : Nw w (w.alloc (.cells #[.int .i64 10, .int .u64 5, .int .i64 20, .int .u64 5, .int .i64 30, .int .u64 5] 27)) := (Nw.refl w).alloc' _
  have H0 := Lib.hid h0
  have HN1 := Lib.hid hN1
  clear hG h0 hN1
  go_enter Tryz.func5, Tryz.ntmps5
  go_wp2_with fail
  generalize w.alloc (.cells #[.int .i64 10, .int .u64 5, .int .i64 20, .int .u64 5, .int .i64 30, .int .u64 5] 27) = w1 at *
  have hN1 := HN1.out
  obtain ⟨B, hB⟩ : ∃ B, pk (cbits (tsOf zs3) (vsOf zs3)) = B := ⟨_, rfl⟩
  have hE := Encode_ok w1 w.heap.size (some ⟨w.heap.size, 0, none⟩) 3 3 zs3 rfl (by omega) (by omega) H0.out in3 (HG.out.nw hN1)
  rw [hB] at hE
  have HB := Lib.hid hB
  have HE := Lib.hid hE
  clear hE hB
  refine HE.out.mono ?_
  rintro e w2 ⟨b2, A2, c2, rfl, hO2, hb2, hN2⟩
  have hW2 := hN1.trans hN2
  have HO2 := Lib.hid hO2
  have HD := Lib.hid (Dec3 w2 b2 A2 B.length c2 B HB.out rfl hO2.cap.1 hO2.rd (HG.out.nw hW2))
  clear hO2
  go_wp2_with fail
  refine HD.out.mono ?_
  rintro e w3 ⟨b3, A3, c3, rfl, hO3, hb3, hN3⟩
  have HO3 := Lib.hid hO3
  have hW3 := hW2.trans hN3
  have HP : Hid (∀ W, Nw w3 W → Calls Tryz.prog 13 #[.slice A2 B.length c2, .slice (some ⟨W.heap.size, 0, none⟩) 2 2] (W.alloc (.cells #[.int .u8 1, .int .u8 2] 5)) fun e w' => e = .returned (.bool true) ∧ (W.alloc (.cells #[.int .u8 1, .int .u8 2] 5)) = w') := by
    refine Lib.hid fun W hN => ?_
    obtain ⟨B', hB'⟩ := pk3
    rw [HB.out] at hB'
    have hr := ((HO2.out.rd.nw hN3).nw hN).nw ((Nw.refl W).alloc' (.cells #[.int .u8 1, .int .u8 2] 5))
    have hc := HO2.out.cap.1
    rw [hB'] at hr hc ⊢
    exact prefix12 _ b2 W.heap.size A2 _ c2 B' rfl hc hr (Ow.lit W 5 1 2 #[.int .u8 1, .int .u8 2] rfl (by omega)).rd
  have HQ : Hid (∀ W, Nw w3 W → Calls Tryz.prog 10 #[.slice (some ⟨w.heap.size, 0, none⟩) 3 3, .slice A3 3 c3] W fun e w' => e = .returned (.bool true) ∧ Dr W w') := by
    refine Lib.hid fun W hN => ?_
    have h := EqualS_any W w.heap.size b3 (some ⟨w.heap.size, 0, none⟩) A3 3 3 3 c3 zs3 zs3 rfl rfl (by omega) (by omega) (((H0.out.nw hN2).nw hN3).nw hN) (HO3.out.nw hN).rd
    rwa [decide_eq_true rfl] at h
  have HS : Hid (∀ W, Nw w W → Calls Tryz.prog 14 #[.slice (some ⟨W.heap.size, 0, none⟩) 3 3] (W.alloc (.cells #[.int .u64 5, .int .u64 5, .int .u64 5] 25)) fun e w' => e = .returned (.agg #[.int .i64 66, .int .i64 71, .int .i64 71]) ∧ Nw (W.alloc (.cells #[.int .u64 5, .int .u64 5, .int .u64 5] 25)) w') := by
    refine Lib.hid fun W hN => ?_
    have h := Sizes_any (W.alloc (.cells #[.int .u64 5, .int .u64 5, .int .u64 5] 25)) W.heap.size (some ⟨W.heap.size, 0, none⟩) 3 3 [5, 5, 5] rfl (by omega) (Ow.lit W 25 1 3 #[.int .u64 5, .int .u64 5, .int .u64 5] rfl (by omega)).rd (by simp) (by decide) (HG.out.nw (hN.alloc' _))
    rwa [x555, r555, s555] at h
  have HC : Hid (∀ W, Nw w W → Calls Tryz.prog 15 #[.slice (some ⟨W.heap.size, 0, none⟩) 3 3] (W.alloc (.cells #[.int .u64 5, .int .u64 5, .int .u64 5] 25)) fun e w' => e = .returned (.int .i64 1) ∧ Nw (W.alloc (.cells #[.int .u64 5, .int .u64 5, .int .u64 5] 25)) w') := by
    refine Lib.hid fun W hN => ?_
    have h := Choose_any (W.alloc (.cells #[.int .u64 5, .int .u64 5, .int .u64 5] 25)) W.heap.size (some ⟨W.heap.size, 0, none⟩) 3 3 [5, 5, 5] rfl (by omega) (Ow.lit W 25 1 3 #[.int .u64 5, .int .u64 5, .int .u64 5] rfl (by omega)).rd (by simp) (by decide) (HG.out.nw (hN.alloc' _))
    rwa [t555] at h
  have HSp : Hid (∀ W, Nw w3 W → Calls Tryz.prog 16 #[.slice (some ⟨w.heap.size, 0, none⟩) 3 3] W fun e w' => ∃ Ap cp, e = .returned (.slice Ap 1 cp) ∧ Nw W w') := by
    refine Lib.hid fun W hN => ?_
    refine (Split_any W w.heap.size (some ⟨w.heap.size, 0, none⟩) 3 3 zs3 rfl (by omega) (((H0.out.nw hN2).nw hN3).nw hN) (by intro h; cases h)).mono ?_
    rintro e w' ⟨bs, bp, A2, c2, Ap, cp, rfl, _, _, _, _, h⟩
    exact ⟨Ap, cp, rfl, h⟩
  clear hO3 HD HE
  go_wp2_with fail
  refine (HP.out _ (Nw.refl w3)).mono ?_
  rintro e w4 ⟨rfl, hw4⟩
  have hN4 : Nw w3 w4 := by rw [← hw4]; exact (Nw.refl w3).alloc' _
  clear hw4
  go_wp2_with fail
  refine (HQ.out _ hN4).mono ?_
  rintro e w5 ⟨rfl, hD5⟩
  have hN5 := hN4.trans hD5.nw
  have hW5 := hW3.trans hN5
  go_wp2_with fail
  refine (HS.out _ hW5).mono ?_
  rintro e w6 ⟨rfl, hN6⟩
  have hW6 := (hW5.alloc' _).trans hN6
  have hN6' := (hN5.alloc' _).trans hN6
  go_wp2_with fail
  refine (HC.out _ hW6).mono ?_
  rintro e w7 ⟨rfl, hN7⟩
  have hW7 := (hW6.alloc' _).trans hN7
  have hN7' := (hN6'.alloc' _).trans hN7
  go_wp2_with fail
  refine (HSp.out _ hN7').mono ?_
  rintro e w8 ⟨Ap, cp, rfl, hN8⟩
  go_wp2
  go_ret
  exact ⟨rfl, hW7.trans hN8⟩
end Go.Proofs.YtjepaneniodbpaaGreatDoor
