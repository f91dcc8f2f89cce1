/- Sorting in place: the two partitions. -/
import Derived.Test.YtbdpimnbjonhlaaSortH
import Derived.Sort.LotD7
import Derived.Sort.LotC
import Derived.Deep.DeepCutAuto
import Derived.Deep.CutBlock
namespace Go.Proofs.Ytbdpimnbjonhlaa
open Go Go.RowKit Go.Sort

theorem sw_cell {w : World} {p q : Addr} {u v : Value} (h : w.cell? q = some v) : ∃ v', (w.setCell p u).cell? q = some v' := cell?_setCell_some (w := w) (p := p) (x := u) (q := q) (v := v) h

set_option maxRecDepth 100000 in
set_option maxHeartbeats 1600000 in
theorem partEq_any (w : World) (b c x y pv : Nat) (d : Array Nat) (hH : Dv w b c d) (hx : x ≤ pv) (hpv : pv < y) (hy : y ≤ d.size) (hsz : d.size < 2305843009213693951) :
    Calls Try.prog 60 #[.slice (some ⟨b, 0, none⟩) d.size c, .int .i64 (x : Int), .int .i64 (y : Int), .int .i64 (pv : Int)] w fun e w' =>
      ∃ (mid : Nat) (d' : Array Nat), e = .returned (.int .i64 (mid : Int)) ∧ Dv w' b c d' ∧ Kp b b w w' ∧ x < mid ∧ mid ≤ y ∧ PermIn x y d d' ∧ (∀ i, x ≤ i → i < mid → d'[i]! ≤ d[pv]!) ∧ (∀ i, mid ≤ i → i < y → d[pv]! < d'[i]!) := by
  have hcx := hH.cell (j := x) (by omega)
  have hcp := hH.cell (j := pv) (by omega)
  have hfx := hH.free x (by omega)
  have hfp := hH.free pv (by omega)
  obtain ⟨p, hp⟩ : ∃ p, p = d[pv]! := ⟨_, rfl⟩
  obtain ⟨q, hq⟩ : ∃ q, q = d[x]! := ⟨_, rfl⟩
  rw [← hp] at hcp
  rw [← hq] at hcx
  have HP := Lib.hid hp
  have HQ := Lib.hid hq
  have HD := Lib.hid hH
  clear hp hq hH
  have i1 : (x : Int) < (d.size : Int) := by omega
  have i2 : (pv : Int) < (d.size : Int) := by omega
  obtain ⟨v', hst⟩ := sw_cell (p := ⟨b, x, none⟩) (u := .int .u64 (p : Int)) hcp
  go_enter Try.func60, Try.ntmps60
  go_wp2
  go_region
  all_goals go_wp2
  have hd1 : Dv ((w.setCell ⟨b, x, none⟩ (.int .u64 (p : Int))).setCell ⟨b, pv, none⟩ (.int .u64 (q : Int))).drew b c (swp d x pv) := by
    have h2 := HD.out.swap x pv
    rw [← HP.out, ← HQ.out] at h2
    exact h2.nw (Nw.drewN _ 1)
  have HD1 := Lib.hid hd1
  have HK1 := Lib.hid (((Kp.refl b b w).setCell' (p := ⟨b, x, none⟩) (.inl rfl) (.int .u64 (p : Int))).setCell' (p := ⟨b, pv, none⟩) (.inl rfl) (.int .u64 (q : Int)) |>.drewN' 1)
  have HPM := Lib.hid (swp_permIn d x y x pv (by omega) (by omega) (by omega) (by omega) hy)
  have HX := Lib.hid (show (swp d x pv)[x]! = p from by rw [HP.out, swp_get d (by omega) (by omega) x]; by_cases h : x = pv <;> simp [h])
  clear hd1 hst hcx hcp hfx hfp
  go_loopg [9, 10] (y - x - 1) (fun k vi vj wr => ∃ (i j : Nat) (dk : Array Nat), vi = .int .i64 i ∧ vj = .int .i64 j ∧ k = j + 1 - i ∧ x < i ∧ i ≤ j + 1 ∧ j < y ∧ dk.size = d.size ∧ Dv wr b c dk ∧ Kp b b w wr ∧ PermIn x y d dk ∧ dk[x]! = p ∧
    (∀ t, x ≤ t → t < i → dk[t]! ≤ p) ∧ (∀ t, j < t → t < y → p < dk[t]!))
  case atStart =>
    refine ⟨x + 1, y - 1, swp d x pv, by go_num, by go_num, by omega, by omega, by omega, by omega, by rw [size_swp], HD1.out, HK1.out, HPM.out, HX.out, fun t h1 h2 => ?_, fun t h1 h2 => by omega⟩
    obtain rfl : t = x := by omega
    exact Nat.le_of_eq HX.out
  case round =>
    obtain ⟨i, j, dk, rfl, rfl, hk, h1, h2, h3, hs, hD, hK, hP, hX, hlo, hhi⟩ := hrel
    have HS := Lib.hid hs
    have HDk := Lib.hid hD
    have HPk := Lib.hid hP
    have HXk := Lib.hid hX
    have HLO := Lib.hid hlo
    have HHI := Lib.hid hhi
    have HKK := Lib.hid hk
    clear hs hD hP hX hlo hhi hk
    go_upto_block 2 with fail
    go_cut [9] (fun s w2 => ∃ i' : Nat, s = .int .i64 i' ∧ i ≤ i' ∧ i' ≤ j + 1 ∧ (∀ t, i ≤ t → t < i' → dk[t]! ≤ p) ∧ (i' ≤ j → p < dk[i']!) ∧ Dr wr w2)
    case first =>
      go_wp2_with fail
      go_loopg [9] (j + 1 - i) (fun k vi w2 => ∃ i' : Nat, vi = .int .i64 i' ∧ k = j + 1 - i' ∧ i ≤ i' ∧ i' ≤ j + 1 ∧ (∀ t, i ≤ t → t < i' → dk[t]! ≤ p) ∧ Dr wr w2)
      case atStart => exact ⟨i, rfl, by omega, by omega, by omega, fun t h1 h2 => by omega, Dr.refl _⟩
      case round =>
        obtain ⟨i', rfl, hk', h4, h5, h6, hd⟩ := hrel
        have H6 := Lib.hid h6
        have HK' := Lib.hid hk'
        clear h6 hk'
        by_cases hg : i' ≤ j
        · have hi's : i' < d.size := by omega
          have hc1 := (HDk.out.nw hd.nw).cell (j := i') (by have := HS.out; omega)
          have hc2 := (HDk.out.nw hd.nw).cell (j := x) (by have := HS.out; omega)
          rw [HXk.out] at hc2
          obtain ⟨r, hr⟩ : ∃ r, r = dk[i']! := ⟨_, rfl⟩
          rw [← hr] at hc1
          have HR := Lib.hid hr
          clear hr
          have j1 : (i' : Int) < (d.size : Int) := by omega
          by_cases hcmp : p < r
          · go_wp2
            go_quiet ((go_at_call 48; exact quiet1 (Less_any _ _ _)))
            go_wp2
            go_meet
            case rel => exact ⟨i', rfl, h4, h5, H6.out, fun _ => by have := HR.out; omega, hd.step _⟩
          · go_wp2
            go_quiet ((go_at_call 48; exact quiet1 (Less_any _ _ _)))
            go_wp2
            go_roundg (gk - 1)
            case measure => have := HK'.out; omega
            case rel =>
              have := HK'.out
              refine ⟨i' + 1, by go_num, by omega, by omega, by omega, fun t h1 h2 => ?_, hd.step _⟩
              rcases Nat.lt_or_ge t i' with h | h
              · exact H6.out t h1 h
              · obtain rfl : t = i' := by omega
                have := HR.out; omega
        · have hg' : decide ((i' : Int) ≤ (j : Int)) = false := by rw [decide_eq_false_iff_not]; omega
          go_wp2
          go_quiet (fail)
          go_wp2
          go_meet
          case rel => exact ⟨i', rfl, h4, h5, H6.out, fun h => absurd h hg, hd.step _⟩
    case rest =>
      obtain ⟨i', rfl, h4, h5, h6, h7, hd⟩ := hcut
      have H6 := Lib.hid h6
      have H7 := Lib.hid h7
      have HW := Lib.hid hd
      clear h6 h7 hd
      go_upto_block 4 with fail
      go_cut [10] (fun s w2 => ∃ j' : Nat, s = .int .i64 j' ∧ i' ≤ j' + 1 ∧ j' ≤ j ∧ (∀ t, j' < t → t ≤ j → p < dk[t]!) ∧ (i' ≤ j' → dk[j']! ≤ p) ∧ Dr wr w2)
      case first =>
        go_wp2_with fail
        go_loopg [10] (j + 1 - i') (fun k vj w2 => ∃ j' : Nat, vj = .int .i64 j' ∧ k = j' + 1 - i' ∧ i' ≤ j' + 1 ∧ j' ≤ j ∧ (∀ t, j' < t → t ≤ j → p < dk[t]!) ∧ Dr wr w2)
        case atStart => exact ⟨j, rfl, by omega, by omega, by omega, fun t h1 h2 => by omega, HW.out⟩
        case round =>
          obtain ⟨j', rfl, hk', h8, h9, h10, hd⟩ := hrel
          have H10 := Lib.hid h10
          have HK' := Lib.hid hk'
          clear h10 hk'
          by_cases hg : i' ≤ j'
          · have hj's : j' < d.size := by omega
            have hc1 := (HDk.out.nw hd.nw).cell (j := j') (by have := HS.out; omega)
            have hc2 := (HDk.out.nw hd.nw).cell (j := x) (by have := HS.out; omega)
            rw [HXk.out] at hc2
            obtain ⟨r, hr⟩ : ∃ r, r = dk[j']! := ⟨_, rfl⟩
            rw [← hr] at hc1
            have HR := Lib.hid hr
            clear hr
            have j1 : (j' : Int) < (d.size : Int) := by omega
            by_cases hcmp : p < r
            · go_wp2
              go_quiet ((go_at_call 48; exact quiet1 (Less_any _ _ _)))
              go_wp2
              go_roundg (gk - 1)
              case measure => have := HK'.out; omega
              case rel =>
                have := HK'.out
                refine ⟨j' - 1, by go_num, by omega, by omega, by omega, fun t h1 h2 => ?_, hd.step _⟩
                rcases Nat.lt_or_ge j' t with h | h
                · exact H10.out t h h2
                · obtain rfl : t = j' := by omega
                  have := HR.out; omega
            · go_wp2
              go_quiet ((go_at_call 48; exact quiet1 (Less_any _ _ _)))
              go_wp2
              go_meet
              case rel => exact ⟨j', rfl, h8, h9, H10.out, fun _ => by have := HR.out; omega, hd.step _⟩
          · have hg' : decide ((i' : Int) ≤ (j' : Int)) = false := by rw [decide_eq_false_iff_not]; omega
            go_wp2
            go_quiet (fail)
            go_wp2
            go_meet
            case rel => exact ⟨j', rfl, h8, h9, H10.out, fun h => absurd h hg, hd.step _⟩
      case rest =>
        obtain ⟨j', rfl, h8, h9, h10, h11, hd⟩ := hcut
        have H10 := Lib.hid h10
        have H11 := Lib.hid h11
        have HW2 := Lib.hid hd
        clear h10 h11 hd
        by_cases hend : j' < i'
        · go_wp2
          go_ret
          refine ⟨i', dk, rfl, (HDk.out.nw HW2.out.nw), hK.nw' HW2.out.nw, by omega, by omega, HPk.out, ?_, ?_⟩ <;> rw [← HP.out]
          · intro t h1 h2
            rcases Nat.lt_or_ge t i with h | h
            · exact HLO.out t h1 h
            · exact H6.out t h h2
          · intro t h1 h2
            rcases Nat.lt_or_ge j t with h | h
            · exact HHI.out t h h2
            · exact H10.out t (by omega) h
        · have hl1 : i' < j' := by
            rcases Nat.lt_or_ge i' j' with h | h
            · exact h
            · obtain rfl : i' = j' := by omega
              have := H7.out (by omega); have := H11.out (by omega); omega
          have hDw := HDk.out.nw HW2.out.nw
          have hci := hDw.cell (j := i') (by have := HS.out; omega)
          have hcj := hDw.cell (j := j') (by have := HS.out; omega)
          have hfi := hDw.free i' (by have := HS.out; omega)
          have hfj := hDw.free j' (by have := HS.out; omega)
          obtain ⟨p1, hp1⟩ : ∃ r, r = dk[i']! := ⟨_, rfl⟩
          obtain ⟨p2, hp2⟩ : ∃ r, r = dk[j']! := ⟨_, rfl⟩
          rw [← hp1] at hci
          rw [← hp2] at hcj
          have HP12 := Lib.hid (And.intro hp1 hp2)
          have HDW := Lib.hid hDw
          clear hp1 hp2 hDw
          have j1 : (i' : Int) < (d.size : Int) := by omega
          have j2 : (j' : Int) < (d.size : Int) := by omega
          have hne1 : ¬ i' = j' := by omega
          have hne2 : ¬ j' = i' := by omega
          go_wp2
          go_region
          all_goals go_wp2
          go_roundg (j' - i' - 1)
          case measure => have := HKK.out; omega
          case rel =>
            obtain ⟨hp1, hp2⟩ := HP12.out
            have hs := HS.out
            have hget := swp_get dk (i := i') (j := j') (by omega) (by omega)
            refine ⟨i' + 1, j' - 1, swp dk i' j', by go_num, by go_num, by omega, by omega, by omega, by omega, by rw [size_swp]; exact hs, ?_, (((hK.nw' HW2.out.nw).setCell' (.inl rfl) _).setCell' (.inl rfl) _).drewN' 1,
              permIn_trans _ _ _ _ _ HPk.out (swp_permIn dk x y i' j' (by omega) (by omega) (by omega) (by omega) (by omega)), ?_, ?_, ?_⟩
            · rw [hp1, hp2]
              exact (HDW.out.swap i' j').nw (Nw.drewN _ 1)
            · rw [hget x, if_neg (by omega), if_neg (by omega)]; exact HXk.out
            · intro t h1 h2
              rw [hget t]
              split
              · rename_i h; first | exact H11.out (by omega) | (have := H7.out (by omega); omega)
              · split
                · rename_i h; first | exact H11.out (by omega) | omega
                · rcases Nat.lt_or_ge t i with h | h
                  · exact HLO.out t h1 h
                  · exact H6.out t h (by omega)
            · intro t h1 h2
              rw [hget t]
              split
              · rename_i h; first | exact H7.out (by omega) | omega
              · split
                · rename_i h; first | exact H7.out (by omega) | omega
                · rcases Nat.lt_or_ge j t with h | h
                  · exact HHI.out t h h2
                  · exact H10.out t (by omega) h
end Go.Proofs.Ytbdpimnbjonhlaa
