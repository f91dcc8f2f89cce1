/- Sorting in place: breakPatterns. -/
import Derived.Test.YtbdpimnbjonhlaaSortP
import Derived.Test.YtbdpimnbjonhlaaWidth
namespace Go.Proofs.Ytbdpimnbjonhlaa
open Go Go.RowKit Go.Sort

def Xr (w : World) (g : Nat) : Prop := ∃ z : Int, 0 ≤ z ∧ z ≤ 18446744073709551615 ∧ w.heap[g]? = some (.cells #[.int .u64 z] 98 (0, 0))

theorem xor_range (a b : Int) : 0 ≤ bits .xor .u64 a b ∧ bits .xor .u64 a b ≤ 18446744073709551615 := by
  have h : bits .xor .u64 a b = IntKind.u64.wrap (BitVec.ofInt 64 a ^^^ BitVec.ofInt 64 b).toNat := rfl
  rw [h, IntKind.wrap_u64]
  omega

theorem Next_any (w : World) (g : Nat) (h : Xr w g) :
    Calls Try.prog 64 #[.pointer (some ⟨g, 0, none⟩)] w fun e w' => ∃ z : Int, e = .returned (.int .u64 z) ∧ 0 ≤ z ∧ z ≤ 18446744073709551615 ∧ Xr w' g ∧ Kp g g w w' := by
  obtain ⟨z, h0, h1, hb⟩ := h
  have hc := cell_of_one hb
  have hf := free_of_one hb
  have HB0 := Lib.hid hb
  clear hb
  go_enter Try.func64, Try.ntmps64
  go_wp2
  go_region
  all_goals go_wp2
  have hr1 := xor_range z (IntKind.u64.wrap (z * 8192))
  generalize bits BinOp.xor IntKind.u64 z (IntKind.u64.wrap (z * 8192)) = z1 at *
  have hb1 : (w.setCell ⟨g, 0, none⟩ (.int .u64 z1)).drew.heap[g]? = some (.cells #[.int .u64 z1] 98 (0, 0)) := one_setCell HB0.out
  have hk1 : Kp g g w (w.setCell ⟨g, 0, none⟩ (.int .u64 z1)).drew := ((Kp.refl g g w).setCell' (.inl rfl) _).drewN' 1
  generalize (w.setCell ⟨g, 0, none⟩ (.int .u64 z1)).drew = w1 at *
  have hc1 := cell_of_one hb1
  have hf1 := free_of_one hb1
  have HB1 := Lib.hid hb1
  have HK1 := Lib.hid hk1
  clear hb1 hk1
  go_region
  all_goals go_wp2
  have hr2 := xor_range z1 (z1 / 128)
  generalize bits BinOp.xor IntKind.u64 z1 (z1 / 128) = z2 at *
  have hb2 : (w1.setCell ⟨g, 0, none⟩ (.int .u64 z2)).drew.heap[g]? = some (.cells #[.int .u64 z2] 98 (0, 0)) := one_setCell HB1.out
  have hk2 : Kp g g w (w1.setCell ⟨g, 0, none⟩ (.int .u64 z2)).drew := (HK1.out.setCell' (.inl rfl) _).drewN' 1
  generalize (w1.setCell ⟨g, 0, none⟩ (.int .u64 z2)).drew = w2 at *
  have hc2 := cell_of_one hb2
  have hf2 := free_of_one hb2
  have HB2 := Lib.hid hb2
  have HK2 := Lib.hid hk2
  clear hb2 hk2
  go_region
  all_goals go_wp2
  have hr3 := xor_range z2 (IntKind.u64.wrap (z2 * 131072))
  generalize bits BinOp.xor IntKind.u64 z2 (IntKind.u64.wrap (z2 * 131072)) = z3 at *
  have hb3 : (w2.setCell ⟨g, 0, none⟩ (.int .u64 z3)).drew.heap[g]? = some (.cells #[.int .u64 z3] 98 (0, 0)) := one_setCell HB2.out
  have hk3 : Kp g g w (w2.setCell ⟨g, 0, none⟩ (.int .u64 z3)).drew := (HK2.out.setCell' (.inl rfl) _).drewN' 1
  generalize (w2.setCell ⟨g, 0, none⟩ (.int .u64 z3)).drew = w3 at *
  have hc3 := cell_of_one hb3
  have hf3 := free_of_one hb3
  have HB3 := Lib.hid hb3
  have HK3 := Lib.hid hk3
  clear hb3 hk3
  go_wp2
  go_ret
  exact ⟨z3, rfl, hr3.1, hr3.2, ⟨z3, hr3.1, hr3.2, HB3.out⟩, HK3.out⟩

theorem nextPow_any (w : World) (l : Nat) (h : l ≤ 4611686018427387904) (h1 : 0 < l) :
    Calls Try.prog 63 #[.int .i64 (l : Int)] w fun e w' => ∃ m : Nat, e = .returned (.int .u64 (m : Int)) ∧ 0 < m ∧ m ≤ 2 * l ∧ w = w' := by
  have hw := wd_spec (l + 1) (by omega)
  have hwe : wd (l + 1) = Lib.bitLen l := by unfold wd; rw [if_neg (by omega), Nat.add_sub_cancel]
  rw [hwe] at hw
  have h2 : Lib.bitLen l ≤ 63 := hw.2 63 (by have : (2 : Nat) ^ 63 = 9223372036854775808 := by decide
                                             omega)
  have h3 : 2 ^ Lib.bitLen l ≤ 2 * l := by
    rcases Nat.eq_zero_or_pos (Lib.bitLen l) with h0 | h0
    · rw [h0]; omega
    · have e : 2 ^ Lib.bitLen l = 2 * 2 ^ (Lib.bitLen l - 1) := by rw [← Nat.pow_succ']; congr 1; omega
      have : ¬ l + 1 ≤ 2 ^ (Lib.bitLen l - 1) := fun hh => by have := hw.2 _ hh; omega
      omega
  have H3 := Lib.hid h3
  clear hw hwe h3
  have e1 : IntKind.u64.wrap (l : Int) = (l : Int) := IntWalk.u64_in _ (by omega)
  go_enter Try.func63, Try.ntmps63
  go_wp2_with (go_at_call 38; refine (Try.bits_Len (l : Int) w (by omega) (by omega)).mono ?_; rintro e w' ⟨rfl, rfl⟩)
  go_ret
  have h4 : (2 : Nat) ^ Lib.bitLen l ≤ 2 * l := H3.out
  have h5 : 0 < 2 ^ Lib.bitLen l := Nat.pow_pos (by omega)
  have h6 : ((2 : Int) ^ Lib.bitLen l) = ((2 ^ Lib.bitLen l : Nat) : Int) := by simp
  refine ⟨2 ^ Lib.bitLen l, ?_, h5, h4, rfl⟩
  rw [h6]
  generalize 2 ^ Lib.bitLen l = m at *
  exact ret_u64 (IntWalk.u64_in _ (by omega))

theorem Xr.nw {w w' : World} {g : Nat} (h : Xr w g) (hk : Nw w w') : Xr w' g := by
  obtain ⟨z, a, b, h⟩ := h
  exact ⟨z, a, b, (hk.block g (lt_of_block h)).trans h⟩
theorem Xr.set_ {w : World} {g : Nat} (h : Xr w g) (p : Addr) (u : Value) (hp : p.block ≠ g) : Xr (w.setCell p u) g := by
  obtain ⟨z, a, b, h⟩ := h
  exact ⟨z, a, b, (Below.heap_setCell w p u g (Ne.symm hp)).trans h⟩

theorem and_range (z : Int) (m : Nat) (h0 : 0 ≤ z) (h1 : z ≤ 18446744073709551615) (hm : 0 < m) (hm2 : m ≤ 9223372036854775807) : ∃ o : Nat, bits .and .u64 z ((m : Int) - 1) = (o : Int) ∧ o < m := by
  refine ⟨z.toNat &&& (m - 1), ?_, ?_⟩
  · rw [u64_and z _ h0 (by omega) (by omega) (by omega)]
    congr 2
    omega
  · have := Nat.and_le_right (n := z.toNat) (m := m - 1)
    omega

set_option maxHeartbeats 1600000 in
theorem breakPatterns_any (w : World) (b c x y : Nat) (d : Array Nat) (hH : Dv w b c d) (hxy : x + 12 < y) (hy : y ≤ d.size) (hsz : d.size < 2305843009213693951) :
    Calls Try.prog 56 #[.slice (some ⟨b, 0, none⟩) d.size c, .int .i64 (x : Int), .int .i64 (y : Int)] w fun e w' =>
      ∃ d' : Array Nat, e = .returned (.tuple #[]) ∧ d'.size = d.size ∧ Dv w' b c d' ∧ Kp b b w w' ∧ PermIn x y d d' := by
  obtain ⟨l, hl⟩ : ∃ l, l = y - x := ⟨_, rfl⟩
  obtain ⟨t4, ht⟩ : ∃ t, t = l / 4 := ⟨_, rfl⟩
  obtain ⟨t2, ht2⟩ : ∃ t2, t2 = t4 * 2 := ⟨_, rfl⟩
  obtain ⟨i0, hi0⟩ : ∃ i, i + 1 = x + t2 := ⟨x + t2 - 1, by omega⟩
  have e0 : (y : Int) - (x : Int) = (l : Int) := by omega
  have e1 : (l : Int) / 4 = (t4 : Int) := by omega
  have e2 : (t4 : Int) * 2 = (t2 : Int) := by omega
  have e3 : (x : Int) + (t2 : Int) = ((i0 + 1 : Nat) : Int) := by omega
  have e4 : IntKind.u64.wrap (l : Int) = (l : Int) := IntWalk.u64_in _ (by omega)
  have h2 : x + 5 ≤ i0 := by omega
  have h3 : i0 + 5 ≤ y := by omega
  have h4 : x + l ≤ y := by omega
  have h5 : y ≤ x + l := by omega
  have HH := Lib.hid hH
  have hbl := hH.lt
  have hbg : b ≠ w.heap.size := by omega
  clear hl ht ht2 hi0 hH
  go_enter Try.func56, Try.ntmps56
  go_wp2_with (go_at_call 63; refine (nextPow_any _ l (by omega) (by omega)).mono ?_; rintro e w' ⟨m, rfl, hm0, hm1, rfl⟩)
  have HX0 : Xr (w.alloc (.cells #[.int .u64 (l : Int)] 98)) w.heap.size := ⟨(l : Int), by omega, by omega, heap_alloc_new w _⟩
  have HN0 := Nw.alloc' (Nw.refl w) (.cells #[.int .u64 (l : Int)] 98)
  go_loopw [9] (fun vi wr => ∃ (t : Nat) (dk : Array Nat), vi = .int .i64 ((i0 + t : Nat) : Int) ∧ t ≤ 3 ∧ dk.size = d.size ∧ Dv wr b c dk ∧ Xr wr w.heap.size ∧ Kp b b w wr ∧ PermIn x y d dk) (fun vi _ => (i0 + 3 - intOf vi).toNat)
  case atStart => exact ⟨0, d, rfl, by omega, rfl, HH.out.nw HN0, HX0, HN0.kp b b, permIn_refl _ _ _⟩
  case round =>
    clear HX0 HN0
    obtain ⟨t, dk, rfl, ht, hsk, hD, hX, hK, hPM⟩ := hrel
    have HS := Lib.hid hsk
    have HPM := Lib.hid hPM
    obtain ⟨idx, hidx⟩ : ∃ i, i = i0 + t := ⟨_, rfl⟩
    rw [← hidx]
    have HIDX := Lib.hid hidx
    have hx1 : i0 ≤ idx := by omega
    have hx2 : idx ≤ i0 + 3 := by omega
    by_cases hlt : t < 3
    · have hle : idx ≤ i0 + 2 := by omega
      have hle2 : (idx : Int) ≤ (i0 : Int) + 1 + 1 := by omega
      clear hsk hPM hidx
      go_wp2_with fail
      refine (Next_any _ _ hX).mono ?_
      rintro e w1 ⟨z, rfl, z0, z1, hX1, hK1⟩
      obtain ⟨o, ho, hom⟩ := and_range z m z0 z1 hm0 (by omega)
      have hDw := hD.kp hK1 hbg hbg
      have HX1 := Lib.hid hX1
      have HK1 := Lib.hid (hK.trans hK1 (.inr (.inr (Nat.le_refl _))) (.inr (.inr (Nat.le_refl _))))
      have em : IntKind.u64.wrap ((m : Int) - 1) = (m : Int) - 1 := IntWalk.u64_in _ (by omega)
      have eo : IntKind.i64.wrap (o : Int) = (o : Int) := IntWalk.i64_in _ (by omega)
      clear hX hD hK hX1 hK1
      by_cases hol : l ≤ o
      · obtain ⟨o2, ho2⟩ : ∃ o2, o2 = o - l := ⟨_, rfl⟩
        have eo2 : (o : Int) - (l : Int) = (o2 : Int) := by omega
        have ho2l : o2 < l := by omega
        clear ho2
        obtain ⟨jdx, hjdx⟩ : ∃ j, j = x + o2 := ⟨_, rfl⟩
        have ej : (x : Int) + (o2 : Int) = (jdx : Int) := by omega
        have hjy : jdx < y := by omega
        have hxj : x ≤ jdx := by omega
        have wj : IntKind.i64.wrap (jdx : Int) = (jdx : Int) := IntWalk.i64_in _ (by omega)
        clear hjdx
        have hci := hDw.cell (j := idx) (by have := HS.out; omega)
        have hcj := hDw.cell (j := jdx) (by have := HS.out; omega)
        have hfi := hDw.free idx (by have := HS.out; omega)
        have hfj := hDw.free jdx (by have := HS.out; omega)
        obtain ⟨q1, hp1⟩ : ∃ r, r = dk[idx]! := ⟨_, rfl⟩
        obtain ⟨q2, hp2⟩ : ∃ r, r = dk[jdx]! := ⟨_, rfl⟩
        rw [← hp1] at hci
        rw [← hp2] at hcj
        have HP12 := Lib.hid (And.intro hp1 hp2)
        have HDW := Lib.hid hDw
        have k1 : (idx : Int) < (d.size : Int) := by omega
        have k2 : (jdx : Int) < (d.size : Int) := by omega
        obtain ⟨v2, hst2⟩ := sw_cell (p := ⟨b, idx, none⟩) (u := .int .u64 (q2 : Int)) hcj
        clear hp1 hp2 hDw
        go_wp2
        go_region
        all_goals go_wp2
        go_roundw
        case rel =>
          obtain ⟨hp1, hp2⟩ := HP12.out
          refine ⟨t + 1, swp dk idx jdx, by have := HIDX.out; go_num, by omega, by rw [size_swp]; exact HS.out, ?_, ?_, ?_, permIn_trans _ _ _ _ _ HPM.out (swp_permIn dk x y idx jdx (by omega) (by omega) (by omega) (by omega) (by have := HS.out; omega))⟩
          · rw [hp1, hp2]
            exact (HDW.out.swap idx jdx).nw (Nw.drewN _ 1)
          · exact ((HX1.out.set_ ⟨b, idx, none⟩ _ (by exact hbg)).set_ ⟨b, jdx, none⟩ _ (by exact hbg)).nw (Nw.drewN _ 1)
          · exact ((HK1.out.setCell' (.inl rfl) _).setCell' (.inl rfl) _).drewN' 1
        case measure => simp [intOf]; omega
      · have hol2 : o < l := by omega
        obtain ⟨jdx, hjdx⟩ : ∃ j, j = x + o := ⟨_, rfl⟩
        have ej : (x : Int) + (o : Int) = (jdx : Int) := by omega
        have hjy : jdx < y := by omega
        have hxj : x ≤ jdx := by omega
        have wj : IntKind.i64.wrap (jdx : Int) = (jdx : Int) := IntWalk.i64_in _ (by omega)
        clear hjdx
        have hci := hDw.cell (j := idx) (by have := HS.out; omega)
        have hcj := hDw.cell (j := jdx) (by have := HS.out; omega)
        have hfi := hDw.free idx (by have := HS.out; omega)
        have hfj := hDw.free jdx (by have := HS.out; omega)
        obtain ⟨q1, hp1⟩ : ∃ r, r = dk[idx]! := ⟨_, rfl⟩
        obtain ⟨q2, hp2⟩ : ∃ r, r = dk[jdx]! := ⟨_, rfl⟩
        rw [← hp1] at hci
        rw [← hp2] at hcj
        have HP12 := Lib.hid (And.intro hp1 hp2)
        have HDW := Lib.hid hDw
        have k1 : (idx : Int) < (d.size : Int) := by omega
        have k2 : (jdx : Int) < (d.size : Int) := by omega
        obtain ⟨v2, hst2⟩ := sw_cell (p := ⟨b, idx, none⟩) (u := .int .u64 (q2 : Int)) hcj
        clear hp1 hp2 hDw
        go_wp2
        go_region
        all_goals go_wp2
        go_roundw
        case rel =>
          obtain ⟨hp1, hp2⟩ := HP12.out
          refine ⟨t + 1, swp dk idx jdx, by have := HIDX.out; go_num, by omega, by rw [size_swp]; exact HS.out, ?_, ?_, ?_, permIn_trans _ _ _ _ _ HPM.out (swp_permIn dk x y idx jdx (by omega) (by omega) (by omega) (by omega) (by have := HS.out; omega))⟩
          · rw [hp1, hp2]
            exact (HDW.out.swap idx jdx).nw (Nw.drewN _ 1)
          · exact ((HX1.out.set_ ⟨b, idx, none⟩ _ (by exact hbg)).set_ ⟨b, jdx, none⟩ _ (by exact hbg)).nw (Nw.drewN _ 1)
          · exact ((HK1.out.setCell' (.inl rfl) _).setCell' (.inl rfl) _).drewN' 1
        case measure => simp [intOf]; omega
    · have hgt : ¬ (idx : Int) ≤ (i0 : Int) + 1 + 1 := by omega
      have hgt2 : i0 + 2 < idx := by omega
      clear hsk hPM hidx
      go_wp2
      go_end0
      exact ⟨rfl, dk, HS.out, hD, hK, HPM.out⟩
end Go.Proofs.Ytbdpimnbjonhlaa
