/- Sorting in place: partialInsertionSort. -/
import Derived.Test.YtbdpimnbjonhlaaSortP
import Derived.Sort.WalkA6
namespace Go.Proofs.Ytbdpimnbjonhlaa
open Go Go.RowKit Go.Sort

set_option maxRecDepth 100000 in
set_option maxHeartbeats 3200000 in
theorem partialIns_any (w : World) (b c x y : Nat) (d : Array Nat) (hH : Dv w b c d) (hxy : x + 12 < y) (hy : y ≤ d.size) (hsz : d.size < 4611686018427387904) :
    Calls Try.prog 59 #[.slice (some ⟨b, 0, none⟩) d.size c, .int .i64 (x : Int), .int .i64 (y : Int)] w fun e w' =>
      e = .returned (.bool (Sort.partialInsertionSort ltN d x y).2) ∧ Dv w' b c (Sort.partialInsertionSort ltN d x y).1 ∧ Kp b b w w' := by
  go_enter Try.func59, Try.ntmps59
  go_wp2
  go_loopg [7, 8] 5 (fun k vi vs wr => ∃ (i s : Nat) (dk : Array Nat), vi = .int .i64 i ∧ vs = .int .i64 s ∧ s ≤ 5 ∧ k = 5 - s ∧ x < i ∧ i ≤ y ∧ dk.size = d.size ∧ Dv wr b c dk ∧ Kp b b w wr ∧ partialIns ltN x y (5 - s) i dk = Sort.partialInsertionSort ltN d x y)
  case atStart => exact ⟨x + 1, 0, d, by go_num, rfl, by omega, rfl, by omega, by omega, rfl, hH, Kp.refl _ _ _, rfl⟩
  case round =>
    obtain ⟨i, s, dk, rfl, rfl, hs5, hk, h1, h2, hsk, hD, hK, hO⟩ := hrel
    have HO := Lib.hid hO
    have HS := Lib.hid hsk
    have HD := Lib.hid hD
    have HKK := Lib.hid hk
    clear hO hsk hD hk hH
    by_cases hs : s < 5
    · go_upto_block 2 with fail
      go_cut [7] (fun v w2 => ∃ k : Nat, v = .int .i64 k ∧ i ≤ k ∧ k ≤ y ∧ scanSorted ltN dk y i = k ∧ Dr wr w2)
      case first =>
        go_wp2_with fail
        go_loopg [7] (y - i) (fun m v w2 => ∃ k : Nat, v = .int .i64 k ∧ m = y - k ∧ i ≤ k ∧ k ≤ y ∧ scanSorted ltN dk y k = scanSorted ltN dk y i ∧ Dr wr w2)
        case atStart => exact ⟨i, rfl, rfl, by omega, by omega, rfl, Dr.refl _⟩
        case round =>
          obtain ⟨k, rfl, hm, h3, h4, h5, hd⟩ := hrel
          have HM := Lib.hid hm
          have H5 := Lib.hid h5
          have HD2 := Lib.hid (HD.out.nw hd.nw)
          clear hm h5
          by_cases hk : k < y
          · obtain ⟨k, rfl⟩ : ∃ t, k = t + 1 := ⟨k - 1, by omega⟩
            have hg : ((k + 1 : Nat) : Int) < (y : Int) := by omega
            have hg2 : (k : Int) + 1 < (y : Int) := by omega
            have hck := HD2.out.cell (j := k) (by have := HS.out; omega)
            have hck1 := HD2.out.cell (j := k + 1) (by have := HS.out; omega)
            have hfk := HD2.out.free k (by have := HS.out; omega)
            have hfk1 := HD2.out.free (k + 1) (by have := HS.out; omega)
            have i0 : (0 : Int) ≤ (k : Int) + 1 := by omega
            have i1 : (k : Int) + 1 < (d.size : Int) := by omega
            have i2 : ((k : Int) + 1).toNat = k + 1 := by omega
            have i3 : (k : Int) < (d.size : Int) := by omega
            have e1 : IntKind.i64.wrap (k : Int) = (k : Int) := IntWalk.i64_in _ (by omega)
            obtain ⟨p, hp⟩ : ∃ p, p = dk[k]! := ⟨_, rfl⟩
            obtain ⟨q, hq⟩ : ∃ q, q = dk[k + 1]! := ⟨_, rfl⟩
            rw [← hp] at hck
            rw [← hq] at hck1
            have HPQ := Lib.hid (And.intro hp hq)
            clear hp hq
            by_cases hcmp : q < p
            · go_wp2
              go_quiet ((go_at_call 48; exact quiet1 (Less_any _ _ _)))
              go_wp2
              go_meet
              case rel =>
                obtain ⟨hp, hq⟩ := HPQ.out
                exact ⟨k + 1, rfl, h3, h4, by rw [← H5.out]; exact scanSorted_stop ltN dk y (k + 1) (.inr (by simp only [Nat.add_sub_cancel]; rw [decide_eq_true_iff]; omega)), hd.step _⟩
            · go_wp2
              go_quiet ((go_at_call 48; exact quiet1 (Less_any _ _ _)))
              go_wp2
              go_roundg (gk - 1)
              case measure => have := HM.out; omega
              case rel =>
                obtain ⟨hp, hq⟩ := HPQ.out
                have := HM.out
                exact ⟨k + 1 + 1, by go_num, by omega, by omega, by omega, by rw [← H5.out]; exact (scanSorted_go ltN dk y (k + 1) (by omega) (by simp only [Nat.add_sub_cancel]; rw [decide_eq_false_iff_not]; omega)).symm, hd.step _⟩
          · have hg : decide ((k : Int) < (y : Int)) = false := by rw [decide_eq_false_iff_not]; omega
            go_wp2
            go_quiet (fail)
            go_wp2
            go_meet
            case rel => exact ⟨k, rfl, h3, h4, by rw [← H5.out]; exact scanSorted_stop ltN dk y k (.inl hk), hd.step _⟩
      case rest =>
        obtain ⟨k, rfl, h3, h4, h5, hd⟩ := hcut
        have H5 := Lib.hid h5
        have HD2 := Lib.hid (HD.out.nw hd.nw)
        have HK2 := Lib.hid (hK.nw' hd.nw)
        clear h5 hd
        by_cases hky : k = y
        · have hkb : ((k : Int) == (y : Int)) = true := by rw [beq_iff_eq]; omega
          have HKY := Lib.hid hky
          clear hky
          go_wp2
          go_ret
          have h6 := pi_true ltN x y s i dk hs (by rw [H5.out, HKY.out])
          rw [HO.out] at h6
          rw [h6]
          exact ⟨rfl, HD2.out, HK2.out⟩
        · have hkb : ((k : Int) == (y : Int)) = false := by rw [beq_eq_false_iff_ne]; omega
          have hlt : k < y := by omega
          clear hky
          by_cases h50 : y - x < 50
          · have h50' : (y : Int) - (x : Int) < 50 := by omega
            go_wp2
            go_ret
            have h6 := pi_short ltN x y s i dk hs (by rw [H5.out]; omega) h50
            rw [HO.out] at h6
            rw [h6]
            exact ⟨rfl, HD2.out, HK2.out⟩
          · have h50' : ¬ (y : Int) - (x : Int) < 50 := by omega
            obtain ⟨k, rfl⟩ : ∃ t, k = t + 1 := ⟨k - 1, by omega⟩
            have hck := HD2.out.cell (j := k) (by have := HS.out; omega)
            have hck1 := HD2.out.cell (j := k + 1) (by have := HS.out; omega)
            have hfk := HD2.out.free k (by have := HS.out; omega)
            have hfk1 := HD2.out.free (k + 1) (by have := HS.out; omega)
            have i0 : (0 : Int) ≤ (k : Int) + 1 := by omega
            have i1 : (k : Int) + 1 < (d.size : Int) := by omega
            have i2 : ((k : Int) + 1).toNat = k + 1 := by omega
            have i3 : (k : Int) < (d.size : Int) := by omega
            have e1 : IntKind.i64.wrap (k : Int) = (k : Int) := IntWalk.i64_in _ (by omega)
            obtain ⟨p, hp⟩ : ∃ p, p = dk[k]! := ⟨_, rfl⟩
            obtain ⟨q, hq⟩ : ∃ q, q = dk[k + 1]! := ⟨_, rfl⟩
            rw [← hp] at hck
            rw [← hq] at hck1
            have HPQ := Lib.hid (And.intro hp hq)
            clear hp hq
            go_wp2
            go_region
            all_goals go_upto_if 61 with fail
            have hD3 : Dv ((wc.setCell ⟨b, k + 1, none⟩ (.int .u64 (p : Int))).setCell ⟨b, k, none⟩ (.int .u64 (q : Int))).drew b c (swp dk (k + 1) k) := by
              obtain ⟨hp, hq⟩ := HPQ.out
              rw [hp, hq]
              exact (HD2.out.swap (k + 1) k).nw (Nw.drewN _ 1)
            have hK3 : Kp b b w ((wc.setCell ⟨b, k + 1, none⟩ (.int .u64 (p : Int))).setCell ⟨b, k, none⟩ (.int .u64 (q : Int))).drew := ((HK2.out.setCell' (.inl rfl) _).setCell' (.inl rfl) _).drewN' 1
            generalize ((wc.setCell ⟨b, k + 1, none⟩ (.int .u64 (p : Int))).setCell ⟨b, k, none⟩ (.int .u64 (q : Int))).drew = w3 at *
            have hs1 : (swp dk (k + 1) k).size = d.size := by rw [size_swp]; exact HS.out
            have hfd : fixDown ltN x (k + 1) (swp dk (k + 1) k) = if k + 1 - x ≥ 2 then shiftDown ltN k (swp dk (k + 1) k) else swp dk (k + 1) k := rfl
            have hgo := pi_go ltN x y s i (k + 1) dk hs H5.out (by omega) h50
            simp only [Nat.add_sub_cancel] at hgo
            rw [HO.out] at hgo
            generalize swp dk (k + 1) k = d1 at *
            have HD3 := Lib.hid hD3
            have HK3 := Lib.hid hK3
            have HS1 := Lib.hid hs1
            have HFD := Lib.hid hfd
            have HGO := Lib.hid hgo
            clear hD3 hK3 hs1 hfd hgo hck hck1 hfk hfk1 HPQ H5 HD2 HK2 HD HO HS i0 i1 i2 i3
            go_cut [9] (fun _ w4 => ∃ d2 : Array Nat, d2.size = d.size ∧ fixDown ltN x (k + 1) d1 = d2 ∧ Dv w4 b c d2 ∧ Kp b b w w4)
            case first =>
              by_cases hk2 : k + 1 - x ≥ 2
              · have hk2' : (2 : Int) ≤ (k : Int) + 1 - (x : Int) := by omega
                go_wp2_with fail
                go_loopg [9] k (fun m v w4 => ∃ (j : Nat) (dj : Array Nat), v = .int .i64 j ∧ m = j ∧ j ≤ k ∧ dj.size = d.size ∧ Dv w4 b c dj ∧ Kp b b w w4 ∧ shiftDown ltN j dj = shiftDown ltN k d1)
                case atStart => exact ⟨k, d1, rfl, rfl, by omega, HS1.out, HD3.out, HK3.out, rfl⟩
                case round =>
                  obtain ⟨j, dj, rfl, hm, h6, hsj, hDj, hKj, hI⟩ := hrel
                  have HM := Lib.hid hm
                  have HSJ := Lib.hid hsj
                  have HDJ := Lib.hid hDj
                  have HI := Lib.hid hI
                  clear hm hsj hDj hI
                  by_cases hj : 1 ≤ j
                  · obtain ⟨j, rfl⟩ : ∃ t, j = t + 1 := ⟨j - 1, by omega⟩
                    have hg : (1 : Int) ≤ (j : Int) + 1 := by omega
                    have hg' : (1 : Int) ≤ ((j + 1 : Nat) : Int) := by omega
                    have hck := HDJ.out.cell (j := j) (by have := HSJ.out; omega)
                    have hck1 := HDJ.out.cell (j := j + 1) (by have := HSJ.out; omega)
                    have hfk := HDJ.out.free j (by have := HSJ.out; omega)
                    have hfk1 := HDJ.out.free (j + 1) (by have := HSJ.out; omega)
                    have i0 : (0 : Int) ≤ (j : Int) + 1 := by omega
                    have i1 : (j : Int) + 1 < (d.size : Int) := by omega
                    have i2 : ((j : Int) + 1).toNat = j + 1 := by omega
                    have i3 : (j : Int) < (d.size : Int) := by omega
                    have e1 : IntKind.i64.wrap (j : Int) = (j : Int) := IntWalk.i64_in _ (by omega)
                    obtain ⟨p, hp⟩ : ∃ p, p = dj[j]! := ⟨_, rfl⟩
                    obtain ⟨q, hq⟩ : ∃ q, q = dj[j + 1]! := ⟨_, rfl⟩
                    rw [← hp] at hck
                    rw [← hq] at hck1
                    have HPQ := Lib.hid (And.intro hp hq)
                    clear hp hq
                    by_cases hcmp : q < p
                    · go_wp2
                      go_quiet ((go_at_call 48; exact quiet1 (Less_any _ _ _)))
                      go_wp2
                      go_region
                      all_goals go_wp2
                      go_roundg j
                      case measure => have := HM.out; omega
                      case rel =>
                        obtain ⟨hp, hq⟩ := HPQ.out
                        refine ⟨j, swp dj (j + 1) j, by go_num, rfl, by omega, by rw [size_swp]; exact HSJ.out, ?_, ((hKj.drewN' _).setCell' (.inl rfl) _).setCell' (.inl rfl) _, ?_⟩
                        · rw [hp, hq]
                          exact (HDJ.out.nw (Nw.drewN wr _)).swap (j + 1) j
                        · rw [← HI.out, shiftDown_go ltN (j + 1) dj (by omega) (by simp only [Nat.add_sub_cancel]; rw [decide_eq_true_iff]; omega)]
                          rfl
                    · go_wp2
                      go_quiet ((go_at_call 48; exact quiet1 (Less_any _ _ _)))
                      go_wp2
                      go_meet
                      case rel =>
                        obtain ⟨hp, hq⟩ := HPQ.out
                        refine ⟨dj, HSJ.out, ?_, HDJ.out.nw (Nw.drewN wr _), hKj.drewN' _⟩
                        rw [HFD.out, if_pos hk2, ← HI.out, shiftDown_stop ltN (j + 1) dj (.inr (by simp only [Nat.add_sub_cancel]; rw [decide_eq_false_iff_not]; omega))]
                  · obtain rfl : j = 0 := by omega
                    go_wp2
                    go_meet
                    case rel => exact ⟨dj, HSJ.out, by rw [HFD.out, if_pos hk2, ← HI.out, shiftDown_stop ltN 0 dj (.inl rfl)], HDJ.out, hKj⟩
              · have hk2' : ¬ (2 : Int) ≤ (k : Int) + 1 - (x : Int) := by omega
                go_wp2
                go_meet
                case rel => exact ⟨d1, HS1.out, by rw [HFD.out, if_neg hk2], HD3.out, HK3.out⟩
            case rest =>
              obtain ⟨d2, hs2, hf2, hD4, hK4⟩ := hcut
              have hfu : fixUp ltN y (k + 1) d2 = if y - (k + 1) ≥ 2 then shiftUp ltN y (k + 2) d2 else d2 := rfl
              have hgo := HGO.out
              rw [hf2] at hgo
              have HS2 := Lib.hid hs2
              have HD4 := Lib.hid hD4
              have HK4 := Lib.hid hK4
              have HFU := Lib.hid hfu
              have HGO2 := Lib.hid hgo
              clear hs2 hf2 hD4 hK4 hfu hgo HGO HFD HS1 HD3 HK3
              have hfin : ∀ d3, fixUp ltN y (k + 1) d2 = d3 → partialIns ltN x y (5 - (s + 1)) (k + 1) d3 = Sort.partialInsertionSort ltN d x y := fun d3 h => by
                have := HGO2.out
                rw [h] at this
                exact this.symm
              have FIN := Lib.hid hfin
              clear hfin
              by_cases hk2 : y - (k + 1) ≥ 2
              · have hk2' : (2 : Int) ≤ (y : Int) - ((k : Int) + 1) := by omega
                go_wp2_with fail
                go_loopg [10] (y - (k + 2)) (fun m v w4 => ∃ (j : Nat) (dj : Array Nat), v = .int .i64 j ∧ m = y - j ∧ k + 2 ≤ j ∧ j ≤ y ∧ dj.size = d.size ∧ Dv w4 b c dj ∧ Kp b b w w4 ∧ shiftUp ltN y j dj = shiftUp ltN y (k + 2) d2)
                case atStart => exact ⟨k + 2, d2, by go_num, rfl, by omega, by omega, HS2.out, HD4.out, HK4.out, rfl⟩
                case round =>
                  obtain ⟨j, dj, rfl, hm, h6, h7, hsj, hDj, hKj, hI⟩ := hrel
                  have HM := Lib.hid hm
                  have HSJ := Lib.hid hsj
                  have HDJ := Lib.hid hDj
                  have HI := Lib.hid hI
                  clear hm hsj hDj hI
                  by_cases hj : j < y
                  · obtain ⟨j, rfl⟩ : ∃ t, j = t + 1 := ⟨j - 1, by omega⟩
                    have hg : (j : Int) + 1 < (y : Int) := by omega
                    have hg' : ((j + 1 : Nat) : Int) < (y : Int) := by omega
                    have hck := HDJ.out.cell (j := j) (by have := HSJ.out; omega)
                    have hck1 := HDJ.out.cell (j := j + 1) (by have := HSJ.out; omega)
                    have hfk := HDJ.out.free j (by have := HSJ.out; omega)
                    have hfk1 := HDJ.out.free (j + 1) (by have := HSJ.out; omega)
                    have i0 : (0 : Int) ≤ (j : Int) + 1 := by omega
                    have i1 : (j : Int) + 1 < (d.size : Int) := by omega
                    have i2 : ((j : Int) + 1).toNat = j + 1 := by omega
                    have i3 : (j : Int) < (d.size : Int) := by omega
                    have e1 : IntKind.i64.wrap (j : Int) = (j : Int) := IntWalk.i64_in _ (by omega)
                    obtain ⟨p, hp⟩ : ∃ p, p = dj[j]! := ⟨_, rfl⟩
                    obtain ⟨q, hq⟩ : ∃ q, q = dj[j + 1]! := ⟨_, rfl⟩
                    rw [← hp] at hck
                    rw [← hq] at hck1
                    have HPQ := Lib.hid (And.intro hp hq)
                    clear hp hq
                    by_cases hcmp : q < p
                    · go_wp2
                      go_quiet ((go_at_call 48; exact quiet1 (Less_any _ _ _)))
                      go_wp2
                      go_region
                      all_goals go_wp2
                      go_roundg (gk - 1)
                      case measure => have := HM.out; omega
                      case rel =>
                        obtain ⟨hp, hq⟩ := HPQ.out
                        have := HM.out
                        refine ⟨j + 1 + 1, swp dj (j + 1) j, by go_num, by omega, by omega, by omega, by rw [size_swp]; exact HSJ.out, ?_, ((hKj.drewN' _).setCell' (.inl rfl) _).setCell' (.inl rfl) _, ?_⟩
                        · rw [hp, hq]
                          exact (HDJ.out.nw (Nw.drewN wr _)).swap (j + 1) j
                        · rw [← HI.out, shiftUp_go ltN y (j + 1) dj hj (by simp only [Nat.add_sub_cancel]; rw [decide_eq_true_iff]; omega)]
                          rfl
                    · go_wp2
                      go_quiet ((go_at_call 48; exact quiet1 (Less_any _ _ _)))
                      go_wp2
                      go_roundg (5 - (s + 1))
                      case measure => have := HKK.out; omega
                      case rel =>
                        obtain ⟨hp, hq⟩ := HPQ.out
                        refine ⟨k + 1, s + 1, dj, by go_num, by go_num, by omega, rfl, by omega, by omega, HSJ.out, HDJ.out.nw (Nw.drewN wr _), hKj.drewN' _, FIN.out dj ?_⟩
                        rw [HFU.out, if_pos hk2, ← HI.out, shiftUp_stop ltN y (j + 1) dj (.inr (by simp only [Nat.add_sub_cancel]; rw [decide_eq_false_iff_not]; omega))]
                  · have hg : ¬ (j : Int) < (y : Int) := by omega
                    go_wp2
                    go_roundg (5 - (s + 1))
                    case measure => have := HKK.out; omega
                    case rel => exact ⟨k + 1, s + 1, dj, by go_num, by go_num, by omega, rfl, by omega, by omega, HSJ.out, HDJ.out, hKj, FIN.out dj (by rw [HFU.out, if_pos hk2, ← HI.out, shiftUp_stop ltN y j dj (.inl hj)])⟩
              · have hk2' : ¬ (2 : Int) ≤ (y : Int) - ((k : Int) + 1) := by omega
                go_wp2
                go_roundg (5 - (s + 1))
                case measure => have := HKK.out; omega
                case rel => exact ⟨k + 1, s + 1, d2, by go_num, by go_num, by omega, rfl, by omega, by omega, HS2.out, HD4.out, HK4.out, FIN.out d2 (by rw [HFU.out, if_neg hk2])⟩
    · obtain rfl : s = 5 := by omega
      go_wp2
      go_ret
      have h3 := HO.out
      rw [pi_end] at h3
      rw [← h3]
      exact ⟨rfl, HD.out, hK⟩
end Go.Proofs.Ytbdpimnbjonhlaa
