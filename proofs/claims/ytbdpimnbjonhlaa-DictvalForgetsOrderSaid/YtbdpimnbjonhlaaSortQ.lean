/- Sorting in place: the partition. -/
import Derived.Test.YtbdpimnbjonhlaaSortP
namespace Go.Proofs.Ytbdpimnbjonhlaa
open Go Go.RowKit Go.Sort

set_option maxRecDepth 100000 in
set_option maxHeartbeats 1600000 in
theorem partition_any (w : World) (b c x y pv : Nat) (d : Array Nat) (hH : Dv w b c d) (hx : x ≤ pv) (hpv : pv < y) (hy : y ≤ d.size) (hsz : d.size < 2305843009213693951) :
    Calls Try.prog 61 #[.slice (some ⟨b, 0, none⟩) d.size c, .int .i64 (x : Int), .int .i64 (y : Int), .int .i64 (pv : Int)] w fun e w' =>
      ∃ (mid : Nat) (ap : Bool) (d' : Array Nat), e = .returned (.tuple #[.int .i64 (mid : Int), .bool ap]) ∧ Dv w' b c d' ∧ Kp b b w w' ∧ x ≤ mid ∧ mid < y ∧ PermIn x y d d' ∧ (∀ i, x ≤ i → i < mid → d'[i]! < d'[mid]!) ∧ (∀ i, mid < i → i < y → d'[mid]! ≤ d'[i]!) := by
  have hcx := hH.cell (j := x) (by omega)
  have hcp := hH.cell (j := pv) (by omega)
  have hfx := hH.free x (by omega)
  have hfp := hH.free pv (by omega)
  obtain ⟨p, hp⟩ : ∃ p, p = d[pv]! := ⟨_, rfl⟩
  obtain ⟨q, hq⟩ : ∃ q, q = d[x]! := ⟨_, rfl⟩
  rw [← hp] at hcp
  rw [← hq] at hcx
  have HP := Lib.hid hp
  have HQ := Lib.hid hq
  have HD := Lib.hid hH
  clear hp hq hH
  have i1 : (x : Int) < (d.size : Int) := by omega
  have i2 : (pv : Int) < (d.size : Int) := by omega
  obtain ⟨v', hst⟩ := sw_cell (p := ⟨b, x, none⟩) (u := .int .u64 (p : Int)) hcp
  go_enter Try.func61, Try.ntmps61
  go_wp2
  go_region
  have hd1 : Dv ((w.setCell ⟨b, x, none⟩ (.int .u64 (p : Int))).setCell ⟨b, pv, none⟩ (.int .u64 (q : Int))).drew b c (swp d x pv) := by
    have h2 := HD.out.swap x pv
    rw [← HP.out, ← HQ.out] at h2
    exact h2.nw (Nw.drewN _ 1)
  have HD1 := Lib.hid hd1
  have HK1 := Lib.hid (((Kp.refl b b w).setCell' (p := ⟨b, x, none⟩) (.inl rfl) (.int .u64 (p : Int))).setCell' (p := ⟨b, pv, none⟩) (.inl rfl) (.int .u64 (q : Int)) |>.drewN' 1)
  have HPM := Lib.hid (swp_permIn d x y x pv (by omega) (by omega) (by omega) (by omega) hy)
  have HX := Lib.hid (show (swp d x pv)[x]! = p from by rw [HP.out, swp_get d (by omega) (by omega) x]; by_cases h : x = pv <;> simp [h])
  clear hd1 hst hcx hcp hfx hfp
  have HK1' : Hid (Kp b b w ((w.setCell ⟨b, x, none⟩ (.int .u64 (p : Int))).setCell ⟨b, pv, none⟩ (.int .u64 (q : Int))).drew) := HK1
  generalize hd1 : swp d x pv = d1 at *
  generalize ((w.setCell ⟨b, x, none⟩ (.int .u64 (p : Int))).setCell ⟨b, pv, none⟩ (.int .u64 (q : Int))).drew = wr at *
  have HS := Lib.hid (show d1.size = d.size from by rw [← hd1, size_swp])
  have HDD := Lib.hid hd1
  clear hd1 HK1
  have HDk := HD1
  obtain ⟨i, hi⟩ : ∃ i, i = x + 1 := ⟨_, rfl⟩
  obtain ⟨j, hj⟩ : ∃ j, j = y - 1 := ⟨_, rfl⟩
  have ei : (x : Int) + 1 = (i : Int) := by omega
  have ej : (y : Int) - 1 = (j : Int) := by omega
  have h1 : x < i := by omega
  have h2 : i ≤ j + 1 := by omega
  have h3 : j < y := by omega
  have HI := Lib.hid hi
  have HJ := Lib.hid hj
  clear hi hj
  go_upto_block 0 with fail
  go_cut [10] (fun s w2 => ∃ i' : Nat, s = .int .i64 i' ∧ i ≤ i' ∧ i' ≤ j + 1 ∧ (∀ t, i ≤ t → t < i' → d1[t]! < p) ∧ (i' ≤ j → p ≤ d1[i']!) ∧ Dr wr w2)
  case first =>
    go_wp2_with fail
    go_loopg [10] (j + 1 - i) (fun k vi w2 => ∃ i' : Nat, vi = .int .i64 i' ∧ k = j + 1 - i' ∧ i ≤ i' ∧ i' ≤ j + 1 ∧ (∀ t, i ≤ t → t < i' → d1[t]! < p) ∧ Dr wr w2)
    case atStart => exact ⟨i, rfl, by omega, by omega, by omega, fun t h1 h2 => by omega, Dr.refl _⟩
    case round =>
      obtain ⟨i', rfl, hk', h4, h5, h6, hd⟩ := hrel
      have H6 := Lib.hid h6
      have HK' := Lib.hid hk'
      clear h6 hk'
      by_cases hg : i' ≤ j
      · have hi's : i' < d.size := by omega
        have hc1 := (HDk.out.nw hd.nw).cell (j := i') (by have := HS.out; omega)
        have hc2 := (HDk.out.nw hd.nw).cell (j := x) (by have := HS.out; omega)
        rw [HX.out] at hc2
        obtain ⟨r, hr⟩ : ∃ r, r = d1[i']! := ⟨_, rfl⟩
        rw [← hr] at hc1
        have HR := Lib.hid hr
        clear hr
        have j1 : (i' : Int) < (d.size : Int) := by omega
        by_cases hcmp : r < p
        · go_wp2
          go_quiet ((go_at_call 48; exact quiet1 (Less_any _ _ _)))
          go_wp2
          go_roundg (gk - 1)
          case measure => have := HK'.out; omega
          case rel =>
            have := HK'.out
            refine ⟨i' + 1, by go_num, by omega, by omega, by omega, fun t h1 h2 => ?_, hd.step _⟩
            rcases Nat.lt_or_ge t i' with h | h
            · exact H6.out t h1 h
            · obtain rfl : t = i' := by omega
              have := HR.out; omega
        · go_wp2
          go_quiet ((go_at_call 48; exact quiet1 (Less_any _ _ _)))
          go_wp2
          go_meet
          case rel => exact ⟨i', rfl, h4, h5, H6.out, fun _ => by have := HR.out; omega, hd.step _⟩
      · have hg' : decide ((i' : Int) ≤ (j : Int)) = false := by rw [decide_eq_false_iff_not]; omega
        go_wp2
        go_quiet (fail)
        go_wp2
        go_meet
        case rel => exact ⟨i', rfl, h4, h5, H6.out, fun h => absurd h hg, hd.step _⟩
  case rest =>
    obtain ⟨i', rfl, h4, h5, h6, h7, hd⟩ := hcut
    have H6 := Lib.hid h6
    have H7 := Lib.hid h7
    have HW := Lib.hid hd
    clear h6 h7 hd
    go_upto_block 2 with fail
    go_cut [11] (fun s w2 => ∃ j' : Nat, s = .int .i64 j' ∧ i' ≤ j' + 1 ∧ j' ≤ j ∧ (∀ t, j' < t → t ≤ j → p ≤ d1[t]!) ∧ (i' ≤ j' → d1[j']! < p) ∧ Dr wr w2)
    case first =>
      go_wp2_with fail
      go_loopg [11] (j + 1 - i') (fun k vj w2 => ∃ j' : Nat, vj = .int .i64 j' ∧ k = j' + 1 - i' ∧ i' ≤ j' + 1 ∧ j' ≤ j ∧ (∀ t, j' < t → t ≤ j → p ≤ d1[t]!) ∧ Dr wr w2)
      case atStart => exact ⟨j, rfl, by omega, by omega, by omega, fun t h1 h2 => by omega, HW.out⟩
      case round =>
        obtain ⟨j', rfl, hk', h8, h9, h10, hd⟩ := hrel
        have H10 := Lib.hid h10
        have HK' := Lib.hid hk'
        clear h10 hk'
        by_cases hg : i' ≤ j'
        · have hj's : j' < d.size := by omega
          have hc1 := (HDk.out.nw hd.nw).cell (j := j') (by have := HS.out; omega)
          have hc2 := (HDk.out.nw hd.nw).cell (j := x) (by have := HS.out; omega)
          rw [HX.out] at hc2
          obtain ⟨r, hr⟩ : ∃ r, r = d1[j']! := ⟨_, rfl⟩
          rw [← hr] at hc1
          have HR := Lib.hid hr
          clear hr
          have j1 : (j' : Int) < (d.size : Int) := by omega
          by_cases hcmp : r < p
          · go_wp2
            go_quiet ((go_at_call 48; exact quiet1 (Less_any _ _ _)))
            go_wp2
            go_meet
            case rel => exact ⟨j', rfl, h8, h9, H10.out, fun _ => by have := HR.out; omega, hd.step _⟩
          · go_wp2
            go_quiet ((go_at_call 48; exact quiet1 (Less_any _ _ _)))
            go_wp2
            go_roundg (gk - 1)
            case measure => have := HK'.out; omega
            case rel =>
              have := HK'.out
              refine ⟨j' - 1, by go_num, by omega, by omega, by omega, fun t h1 h2 => ?_, hd.step _⟩
              rcases Nat.lt_or_ge j' t with h | h
              · exact H10.out t h h2
              · obtain rfl : t = j' := by omega
                have := HR.out; omega
        · have hg' : decide ((i' : Int) ≤ (j' : Int)) = false := by rw [decide_eq_false_iff_not]; omega
          go_wp2
          go_quiet (fail)
          go_wp2
          go_meet
          case rel => exact ⟨j', rfl, h8, h9, H10.out, fun h => absurd h hg, hd.step _⟩
    case rest =>
      obtain ⟨j', rfl, h8, h9, h10, h11, hd⟩ := hcut
      have H10 := Lib.hid h10
      have H11 := Lib.hid h11
      have HW2 := Lib.hid hd
      clear h10 h11 hd
      have hij := HI.out
      have hjj := HJ.out
      have HLOP := Lib.hid (show ∀ t, x < t → t < i' → d1[t]! < p from fun t a1 a2 => H6.out t (by omega) a2)
      have HHIP := Lib.hid (show ∀ t, j' < t → t < y → p ≤ d1[t]! from fun t a1 a2 => H10.out t a1 (by omega))
      clear hij hjj
      by_cases hend : j' < i'
      · have hj'1 : i' = j' + 1 := by omega
        have hj'0 : x ≤ j' := by omega
        have hj's : j' < d.size := by omega
        clear hj'1
        have hdw := HDk.out.nw HW2.out.nw
        have hci := hdw.cell (j := j') (by have := HS.out; omega)
        have hcj := hdw.cell (j := x) (by have := HS.out; omega)
        have hfi := hdw.free j' (by have := HS.out; omega)
        have hfj := hdw.free x (by have := HS.out; omega)
        obtain ⟨q1, hp1⟩ : ∃ r, r = d1[j']! := ⟨_, rfl⟩
        obtain ⟨q2, hp2⟩ : ∃ r, r = d1[x]! := ⟨_, rfl⟩
        rw [← hp1] at hci
        rw [← hp2] at hcj
        have HP12 := Lib.hid (And.intro hp1 hp2)
        have HDW := Lib.hid hdw
        have k1 : (j' : Int) < (d.size : Int) := by omega
        have k2 : (x : Int) < (d.size : Int) := by omega
        obtain ⟨v2, hst2⟩ := sw_cell (p := ⟨b, j', none⟩) (u := .int .u64 (q2 : Int)) hcj
        clear hp1 hp2 hdw
        go_wp2
        go_region
        all_goals go_wp2
        go_ret2
        have hs := HS.out
        have hget := swp_get d1 (i := j') (j := x) (by omega) (by omega)
        have hm : (swp d1 j' x)[j']! = p := by
          rw [hget j']
          by_cases h : j' = x
          · rw [if_pos h, h]; exact HX.out
          · rw [if_neg h, if_pos rfl]; exact HX.out
        refine ⟨j', true, swp d1 j' x, rfl, ?_, (((HK1'.out.nw' HW2.out.nw).setCell' (.inl rfl) _).setCell' (.inl rfl) _).drewN' 1, by omega, by omega, permIn_trans _ _ _ _ _ HPM.out (swp_permIn d1 x y j' x (by omega) (by omega) (by omega) (by omega) (by omega)), ?_, ?_⟩
        · obtain ⟨hp1, hp2⟩ := HP12.out
          rw [hp1, hp2]
          exact (HDW.out.swap j' x).nw (Nw.drewN _ 1)
        · intro t h1 h2
          rw [hm, hget t]
          by_cases h : t = x
          · rw [if_pos h]
            exact HLOP.out j' (by omega) (by omega)
          · rw [if_neg h, if_neg (by omega)]
            exact HLOP.out t (by omega) (by omega)
        · intro t h1 h2
          rw [hm, hget t, if_neg (by omega), if_neg (by omega)]
          exact HHIP.out t (by omega) (by omega)
      · have hl1 : i' < j' := by
          rcases Nat.lt_or_ge i' j' with h | h
          · exact h
          · obtain rfl : i' = j' := by omega
            have := H7.out (by omega); have := H11.out (by omega); omega
        have hdw := HDk.out.nw HW2.out.nw
        have hci := hdw.cell (j := i') (by have := HS.out; omega)
        have hcj := hdw.cell (j := j') (by have := HS.out; omega)
        have hfi := hdw.free i' (by have := HS.out; omega)
        have hfj := hdw.free j' (by have := HS.out; omega)
        obtain ⟨q1, hp1⟩ : ∃ r, r = d1[i']! := ⟨_, rfl⟩
        obtain ⟨q2, hp2⟩ : ∃ r, r = d1[j']! := ⟨_, rfl⟩
        rw [← hp1] at hci
        rw [← hp2] at hcj
        have HP12 := Lib.hid (And.intro hp1 hp2)
        have HDW := Lib.hid hdw
        have k1 : (i' : Int) < (d.size : Int) := by omega
        have k2 : (j' : Int) < (d.size : Int) := by omega
        have hne1 : ¬ i' = j' := by omega
        have hne2 : ¬ j' = i' := by omega
        clear hp1 hp2 hdw
        have ei2 : (i' : Int) + 1 = ((i' + 1 : Nat) : Int) := by omega
        have ej2 : (j' : Int) - 1 = ((j' - 1 : Nat) : Int) := by omega
        clear ei2 ej2
        go_wp2
        go_region
        all_goals go_wp2
        have HP1 : Hid (Kp b b w ((wc.setCell ⟨b, i', none⟩ (.int .u64 (q2 : Int))).setCell ⟨b, j', none⟩ (.int .u64 (q1 : Int))).drew) := Lib.hid ((((HK1'.out.nw' HW2.out.nw).setCell' (.inl rfl) _).setCell' (.inl rfl) _).drewN' 1)
        have HP2 : Hid (Dv ((wc.setCell ⟨b, i', none⟩ (.int .u64 (q2 : Int))).setCell ⟨b, j', none⟩ (.int .u64 (q1 : Int))).drew b c (swp d1 i' j')) := Lib.hid (by
          obtain ⟨hp1, hp2⟩ := HP12.out
          rw [hp1, hp2]
          exact (HDW.out.swap i' j').nw (Nw.drewN _ 1))
        go_loopg [10, 11] (j' - i' - 1) (fun k vi vj wr => ∃ (i j : Nat) (dk : Array Nat), vi = .int .i64 i ∧ vj = .int .i64 j ∧ k = j + 1 - i ∧ x < i ∧ i ≤ j + 1 ∧ j < y ∧ dk.size = d.size ∧ Dv wr b c dk ∧ Kp b b w wr ∧ PermIn x y d dk ∧ dk[x]! = p ∧
          (∀ t, x < t → t < i → dk[t]! < p) ∧ (∀ t, j < t → t < y → p ≤ dk[t]!))
        case atStart =>
          have hs := HS.out
          have hget := swp_get d1 (i := i') (j := j') (by omega) (by omega)
          refine ⟨i' + 1, j' - 1, swp d1 i' j', by go_num, by go_num, by omega, by omega, by omega, by omega, by rw [size_swp]; exact hs, HP2.out, HP1.out,
            permIn_trans _ _ _ _ _ HPM.out (swp_permIn d1 x y i' j' (by omega) (by omega) (by omega) (by omega) (by omega)), ?_, ?_, ?_⟩
          · rw [hget x, if_neg (by omega), if_neg (by omega)]; exact HX.out
          · intro t a1 a2
            rw [hget t]
            by_cases e1 : t = j'
            · omega
            · rw [if_neg e1]
              by_cases e2 : t = i'
              · rw [if_pos e2]; exact H11.out (by omega)
              · rw [if_neg e2]; exact HLOP.out t a1 (by omega)
          · intro t a1 a2
            rw [hget t]
            by_cases e1 : t = j'
            · rw [if_pos e1]; exact H7.out (by omega)
            · rw [if_neg e1, if_neg (by omega)]; exact HHIP.out t (by omega) a2
        case round =>
          clear HLOP HHIP H6 H7 H10 H11 HW HW2 HDk HX HPM HS HP12 HDW HP1 HP2 HK1' hci hcj hfi hfj
          clear k1 k2 hne1 hne2 hl1 hend
          obtain ⟨i, j, dk, rfl, rfl, hk, h1, h2, h3, hs, hD, hK, hP, hX, hlo, hhi⟩ := hrel
          have HS := Lib.hid hs
          have HDk := Lib.hid hD
          have HPk := Lib.hid hP
          have HXk := Lib.hid hX
          have HLO := Lib.hid hlo
          have HHI := Lib.hid hhi
          have HKK := Lib.hid hk
          clear hs hD hP hX hlo hhi hk
          go_upto_block 6 with fail
          go_cut [10] (fun s w2 => ∃ i2 : Nat, s = .int .i64 i2 ∧ i ≤ i2 ∧ i2 ≤ j + 1 ∧ (∀ t, i ≤ t → t < i2 → dk[t]! < p) ∧ (i2 ≤ j → p ≤ dk[i2]!) ∧ Dr wr w2)
          case first =>
            go_wp2_with fail
            go_loopg [10] (j + 1 - i) (fun k vi w2 => ∃ i2 : Nat, vi = .int .i64 i2 ∧ k = j + 1 - i2 ∧ i ≤ i2 ∧ i2 ≤ j + 1 ∧ (∀ t, i ≤ t → t < i2 → dk[t]! < p) ∧ Dr wr w2)
            case atStart => exact ⟨i, rfl, by omega, by omega, by omega, fun t h1 h2 => by omega, Dr.refl _⟩
            case round =>
              obtain ⟨i2, rfl, hk', h4, h5, h6, hd⟩ := hrel
              have H6 := Lib.hid h6
              have HK' := Lib.hid hk'
              clear h6 hk'
              by_cases hg : i2 ≤ j
              · have hi's : i2 < d.size := by omega
                have hc1 := (HDk.out.nw hd.nw).cell (j := i2) (by have := HS.out; omega)
                have hc2 := (HDk.out.nw hd.nw).cell (j := x) (by have := HS.out; omega)
                rw [HXk.out] at hc2
                obtain ⟨r, hr⟩ : ∃ r, r = dk[i2]! := ⟨_, rfl⟩
                rw [← hr] at hc1
                have HR := Lib.hid hr
                clear hr
                have j1 : (i2 : Int) < (d.size : Int) := by omega
                by_cases hcmp : r < p
                · go_wp2
                  go_quiet ((go_at_call 48; exact quiet1 (Less_any _ _ _)))
                  go_wp2
                  go_roundg (gk - 1)
                  case measure => have := HK'.out; omega
                  case rel =>
                    have := HK'.out
                    refine ⟨i2 + 1, by go_num, by omega, by omega, by omega, fun t h1 h2 => ?_, hd.step _⟩
                    rcases Nat.lt_or_ge t i2 with h | h
                    · exact H6.out t h1 h
                    · obtain rfl : t = i2 := by omega
                      have := HR.out; omega
                · go_wp2
                  go_quiet ((go_at_call 48; exact quiet1 (Less_any _ _ _)))
                  go_wp2
                  go_meet
                  case rel => exact ⟨i2, rfl, h4, h5, H6.out, fun _ => by have := HR.out; omega, hd.step _⟩
              · have hg' : decide ((i2 : Int) ≤ (j : Int)) = false := by rw [decide_eq_false_iff_not]; omega
                go_wp2
                go_quiet (fail)
                go_wp2
                go_meet
                case rel => exact ⟨i2, rfl, h4, h5, H6.out, fun h => absurd h hg, hd.step _⟩
          case rest =>
            obtain ⟨i2, rfl, g4, g5, g6, g7, hd⟩ := hcut
            have G6 := Lib.hid g6
            have G7 := Lib.hid g7
            have GW := Lib.hid hd
            clear g6 g7 hd
            go_upto_block 8 with fail
            go_cut [11] (fun s w2 => ∃ j2 : Nat, s = .int .i64 j2 ∧ i2 ≤ j2 + 1 ∧ j2 ≤ j ∧ (∀ t, j2 < t → t ≤ j → p ≤ dk[t]!) ∧ (i2 ≤ j2 → dk[j2]! < p) ∧ Dr wr w2)
            case first =>
              go_wp2_with fail
              go_loopg [11] (j + 1 - i2) (fun k vj w2 => ∃ j2 : Nat, vj = .int .i64 j2 ∧ k = j2 + 1 - i2 ∧ i2 ≤ j2 + 1 ∧ j2 ≤ j ∧ (∀ t, j2 < t → t ≤ j → p ≤ dk[t]!) ∧ Dr wr w2)
              case atStart => exact ⟨j, rfl, by omega, by omega, by omega, fun t h1 h2 => by omega, GW.out⟩
              case round =>
                obtain ⟨j2, rfl, hk', h8, h9, h10, hd⟩ := hrel
                have H10 := Lib.hid h10
                have HK' := Lib.hid hk'
                clear h10 hk'
                by_cases hg : i2 ≤ j2
                · have hj's : j2 < d.size := by omega
                  have hc1 := (HDk.out.nw hd.nw).cell (j := j2) (by have := HS.out; omega)
                  have hc2 := (HDk.out.nw hd.nw).cell (j := x) (by have := HS.out; omega)
                  rw [HXk.out] at hc2
                  obtain ⟨r, hr⟩ : ∃ r, r = dk[j2]! := ⟨_, rfl⟩
                  rw [← hr] at hc1
                  have HR := Lib.hid hr
                  clear hr
                  have j1 : (j2 : Int) < (d.size : Int) := by omega
                  by_cases hcmp : r < p
                  · go_wp2
                    go_quiet ((go_at_call 48; exact quiet1 (Less_any _ _ _)))
                    go_wp2
                    go_meet
                    case rel => exact ⟨j2, rfl, h8, h9, H10.out, fun _ => by have := HR.out; omega, hd.step _⟩
                  · go_wp2
                    go_quiet ((go_at_call 48; exact quiet1 (Less_any _ _ _)))
                    go_wp2
                    go_roundg (gk - 1)
                    case measure => have := HK'.out; omega
                    case rel =>
                      have := HK'.out
                      refine ⟨j2 - 1, by go_num, by omega, by omega, by omega, fun t h1 h2 => ?_, hd.step _⟩
                      rcases Nat.lt_or_ge j2 t with h | h
                      · exact H10.out t h h2
                      · obtain rfl : t = j2 := by omega
                        have := HR.out; omega
                · have hg' : decide ((i2 : Int) ≤ (j2 : Int)) = false := by rw [decide_eq_false_iff_not]; omega
                  go_wp2
                  go_quiet (fail)
                  go_wp2
                  go_meet
                  case rel => exact ⟨j2, rfl, h8, h9, H10.out, fun h => absurd h hg, hd.step _⟩
            case rest =>
              obtain ⟨j2, rfl, g8, g9, g10, g11, hd⟩ := hcut
              have G10 := Lib.hid g10
              have G11 := Lib.hid g11
              have GW2 := Lib.hid hd
              clear g10 g11 hd
              have HLOP := Lib.hid (show ∀ t, x < t → t < i2 → dk[t]! < p from fun t a1 a2 => by
                rcases Nat.lt_or_ge t i with h | h
                · exact HLO.out t a1 h
                · exact G6.out t h a2)
              have HHIP := Lib.hid (show ∀ t, j2 < t → t < y → p ≤ dk[t]! from fun t a1 a2 => by
                rcases Nat.lt_or_ge j t with h | h
                · exact HHI.out t h a2
                · exact G10.out t a1 h)
              by_cases hend : j2 < i2
              · have hj'0 : x ≤ j2 := by omega
                have hj's : j2 < d.size := by omega
                have hdw := HDk.out.nw GW2.out.nw
                have hci := hdw.cell (j := j2) (by have := HS.out; omega)
                have hcj := hdw.cell (j := x) (by have := HS.out; omega)
                have hfi := hdw.free j2 (by have := HS.out; omega)
                have hfj := hdw.free x (by have := HS.out; omega)
                obtain ⟨q1, hp1⟩ : ∃ r, r = dk[j2]! := ⟨_, rfl⟩
                obtain ⟨q2, hp2⟩ : ∃ r, r = dk[x]! := ⟨_, rfl⟩
                rw [← hp1] at hci
                rw [← hp2] at hcj
                have HP12 := Lib.hid (And.intro hp1 hp2)
                have HDW := Lib.hid hdw
                have k1 : (j2 : Int) < (d.size : Int) := by omega
                have k2 : (x : Int) < (d.size : Int) := by omega
                obtain ⟨v2, hst2⟩ := sw_cell (p := ⟨b, j2, none⟩) (u := .int .u64 (q2 : Int)) hcj
                clear hp1 hp2 hdw
                go_wp2
                go_region
                all_goals go_wp2
                go_ret2
                have hs := HS.out
                have hget := swp_get dk (i := j2) (j := x) (by omega) (by omega)
                have hm : (swp dk j2 x)[j2]! = p := by
                  rw [hget j2]
                  by_cases h : j2 = x
                  · rw [if_pos h, h]; exact HXk.out
                  · rw [if_neg h, if_pos rfl]; exact HXk.out
                refine ⟨j2, false, swp dk j2 x, rfl, ?_, (((hK.nw' GW2.out.nw).setCell' (.inl rfl) _).setCell' (.inl rfl) _).drewN' 1, by omega, by omega, permIn_trans _ _ _ _ _ HPk.out (swp_permIn dk x y j2 x (by omega) (by omega) (by omega) (by omega) (by omega)), ?_, ?_⟩
                · obtain ⟨hp1, hp2⟩ := HP12.out
                  rw [hp1, hp2]
                  exact (HDW.out.swap j2 x).nw (Nw.drewN _ 1)
                · intro t h1 h2
                  rw [hm, hget t]
                  by_cases h : t = x
                  · rw [if_pos h]
                    exact HLOP.out j2 (by omega) (by omega)
                  · rw [if_neg h, if_neg (by omega)]
                    exact HLOP.out t (by omega) (by omega)
                · intro t h1 h2
                  rw [hm, hget t, if_neg (by omega), if_neg (by omega)]
                  exact HHIP.out t (by omega) (by omega)
              · have hl1 : i2 < j2 := by
                  rcases Nat.lt_or_ge i2 j2 with h | h
                  · exact h
                  · obtain rfl : i2 = j2 := by omega
                    have := G7.out (by omega); have := G11.out (by omega); omega
                have hdw := HDk.out.nw GW2.out.nw
                have hci := hdw.cell (j := i2) (by have := HS.out; omega)
                have hcj := hdw.cell (j := j2) (by have := HS.out; omega)
                have hfi := hdw.free i2 (by have := HS.out; omega)
                have hfj := hdw.free j2 (by have := HS.out; omega)
                obtain ⟨q1, hp1⟩ : ∃ r, r = dk[i2]! := ⟨_, rfl⟩
                obtain ⟨q2, hp2⟩ : ∃ r, r = dk[j2]! := ⟨_, rfl⟩
                rw [← hp1] at hci
                rw [← hp2] at hcj
                have HP12 := Lib.hid (And.intro hp1 hp2)
                have HDW := Lib.hid hdw
                have k1 : (i2 : Int) < (d.size : Int) := by omega
                have k2 : (j2 : Int) < (d.size : Int) := by omega
                have hne1 : ¬ i2 = j2 := by omega
                have hne2 : ¬ j2 = i2 := by omega
                clear hp1 hp2 hdw
                go_wp2
                go_region
                all_goals go_wp2
                go_roundg (j2 - i2 - 1)
                case measure => have := HKK.out; omega
                case rel =>
                  obtain ⟨hp1, hp2⟩ := HP12.out
                  have hs := HS.out
                  have hget := swp_get dk (i := i2) (j := j2) (by omega) (by omega)
                  refine ⟨i2 + 1, j2 - 1, swp dk i2 j2, by go_num, by go_num, by omega, by omega, by omega, by omega, by rw [size_swp]; exact hs, ?_, (((hK.nw' GW2.out.nw).setCell' (.inl rfl) _).setCell' (.inl rfl) _).drewN' 1,
                    permIn_trans _ _ _ _ _ HPk.out (swp_permIn dk x y i2 j2 (by omega) (by omega) (by omega) (by omega) (by omega)), ?_, ?_, ?_⟩
                  · rw [hp1, hp2]
                    exact (HDW.out.swap i2 j2).nw (Nw.drewN _ 1)
                  · rw [hget x, if_neg (by omega), if_neg (by omega)]; exact HXk.out
                  · intro t a1 a2
                    rw [hget t]
                    by_cases e1 : t = j2
                    · omega
                    · rw [if_neg e1]
                      by_cases e2 : t = i2
                      · rw [if_pos e2]; exact G11.out (by omega)
                      · rw [if_neg e2]; exact HLOP.out t a1 (by omega)
                  · intro t a1 a2
                    rw [hget t]
                    by_cases e1 : t = j2
                    · rw [if_pos e1]; exact G7.out (by omega)
                    · rw [if_neg e1, if_neg (by omega)]; exact HHIP.out t (by omega) a2
end Go.Proofs.Ytbdpimnbjonhlaa
