/- Sorting in place: pdqsort and slices.Sort. -/
import Derived.Test.YtbdpimnbjonhlaaSortQ
import Derived.Test.YtbdpimnbjonhlaaSortC
import Derived.Test.YtbdpimnbjonhlaaSortB
import Derived.Test.YtbdpimnbjonhlaaSortI
namespace Go.Proofs.Ytbdpimnbjonhlaa
open Go Go.RowKit Go.Sort

/-- what a call of pdqsort on [x, y) leaves -/
def Pdq (b c x y : Nat) (d : Array Nat) (w w' : World) : Prop := ∃ d' : Array Nat, d'.size = d.size ∧ Dv w' b c d' ∧ Kp b b w w' ∧ PermIn x y d d' ∧ SortedIn ltN x y d'

set_option maxRecDepth 100000 in
set_option maxHeartbeats 6400000 in
theorem pdq_step (N : Nat)
    (ih : ∀ (w : World) (b c x y limit : Nat) (d : Array Nat), y - x < N → Dv w b c d → x ≤ y → y ≤ d.size → d.size < 2305843009213693951 → limit ≤ 1000 → Sort.Below ltN x y d →
      Calls Try.prog 49 #[.slice (some ⟨b, 0, none⟩) d.size c, .int .i64 (x : Int), .int .i64 (y : Int), .int .i64 (limit : Int)] w fun e w' => e = .returned (.tuple #[]) ∧ Pdq b c x y d w w')
    (w : World) (b c x y limit : Nat) (d : Array Nat) (hN : y - x ≤ N) (hH : Dv w b c d) (hxy : x ≤ y) (hy : y ≤ d.size) (hsz : d.size < 2305843009213693951) (hl : limit ≤ 1000) (hB : Sort.Below ltN x y d) :
    Calls Try.prog 49 #[.slice (some ⟨b, 0, none⟩) d.size c, .int .i64 (x : Int), .int .i64 (y : Int), .int .i64 (limit : Int)] w fun e w' => e = .returned (.tuple #[]) ∧ Pdq b c x y d w w' := by
  have IH := Lib.hid ih
  have HB := Lib.hid hB
  have HH := Lib.hid hH
  clear ih hB hH
  go_enter Try.func49, Try.ntmps49
  go_wp2
  go_loopg [1, 2, 3, 8, 9] (y - x) (fun k v1 v2 v3 v8 v9 wr => ∃ (p q L : Nat) (wb wp : Bool) (e : Array Nat), v1 = .int .i64 p ∧ v2 = .int .i64 q ∧ v3 = .int .i64 L ∧ v8 = .bool wb ∧ v9 = .bool wp ∧ k = q - p ∧ q - p ≤ N ∧ L ≤ 1000 ∧ Dv wr b c e ∧ Kp b b w wr ∧ St x y d p q e)
  case atStart => exact ⟨x, y, limit, true, true, d, rfl, rfl, rfl, rfl, rfl, rfl, hN, hl, HH.out, Kp.refl _ _ _, St.start hxy hy HB.out⟩
  case round =>
    obtain ⟨p, q, L, wb, wp, e, rfl, rfl, rfl, rfl, rfl, hk, hqN, hL, hD, hK, hS⟩ := hrel
    have g1 := hS.hab
    have g2 := hS.hy
    have HSZ := Lib.hid hS.size
    have HK := Lib.hid hk
    have HD := Lib.hid hD
    have HS := Lib.hid hS
    clear hk hD hS
    have hqs : q ≤ d.size := by omega
    by_cases h12 : q - p ≤ 12
    · have h12' : (q : Int) - (p : Int) ≤ 12 := by omega
      have hc := insertionSort_any wr b c p q e HD.out g1 (by rw [HSZ.out]; exact hqs) (by rw [HSZ.out]; omega)
      rw [HSZ.out] at hc
      have HC := Lib.hid hc
      clear hc
      go_wp2_with fail
      refine HC.out.mono ?_
      rintro e1 w1 ⟨rfl, hD1, hK1⟩
      go_wp2
      refine bodyPost_ret (results_none rfl _ _ _) rfl ?_
      have hi := insertionSort_holds (lt := ltN) swo_ltN e p q g1 (by rw [HSZ.out]; exact hqs)
      obtain ⟨z1, z2, z3⟩ := HS.out.done hi.1 hi.2
      exact ⟨rfl, _, z1, hD1, hK.trans hK1 (.inl rfl) (.inl rfl), z2, z3⟩
    · have h12' : ¬ (q : Int) - (p : Int) ≤ 12 := by omega
      by_cases hL0 : L = 0
      · have hc := heapSort_any wr b c p q e HD.out g1 (by rw [HSZ.out]; exact hqs) (by rw [HSZ.out]; omega)
        rw [HSZ.out] at hc
        have HC := Lib.hid hc
        have hL0' : (((L : Nat) : Int) == 0) = true := by rw [beq_iff_eq]; omega
        clear hc hL0
        go_wp2_with fail
        refine HC.out.mono ?_
        rintro e1 w1 ⟨rfl, hD1, hK1⟩
        go_wp2
        refine bodyPost_ret (results_none rfl _ _ _) rfl ?_
        have hi := heapSort_holds (lt := ltN) swo_ltN e p q g1 (by rw [HSZ.out]; exact hqs)
        obtain ⟨z1, z2, z3⟩ := HS.out.done hi.1 hi.2
        exact ⟨rfl, _, z1, hD1, hK.trans hK1 (.inl rfl) (.inl rfl), z2, z3⟩
      · have hL0' : (((L : Nat) : Int) == 0) = false := by rw [beq_eq_false_iff_ne]; omega
        have hL1 : 1 ≤ L := by omega
        clear hL0
        go_upto_if 35 with fail
        go_cut [3] (fun v w2 => ∃ (L2 : Nat) (e2 : Array Nat), v = .int .i64 L2 ∧ L2 ≤ 1000 ∧ Dv w2 b c e2 ∧ Kp b b w w2 ∧ St x y d p q e2)
        case first =>
          cases wb
          · have hc := breakPatterns_any wr b c p q e HD.out (by omega) (by rw [HSZ.out]; exact hqs) (by rw [HSZ.out]; omega)
            rw [HSZ.out] at hc
            have HC := Lib.hid hc
            clear hc
            go_wp2_with fail
            refine HC.out.mono ?_
            rintro e1 w1 ⟨d1, rfl, hs1, hD1, hK1, hP1⟩
            have HP1 := Lib.hid hP1
            have HS1 := Lib.hid hs1
            clear hP1 hs1
            go_wp2
            go_meet
            case rel => exact ⟨L - 1, d1, by go_num, by omega, hD1, hK.trans hK1 (.inl rfl) (.inl rfl), HS.out.step HP1.out⟩
          · go_wp2
            go_meet
            case rel => exact ⟨L, e, rfl, hL, HD.out, hK, HS.out⟩
        case rest =>
          obtain ⟨L2, e2, rfl, hL2, hD2, hK2, hS2⟩ := hcut
          have HD2 := Lib.hid hD2
          have HK2 := Lib.hid hK2
          have HS2 := Lib.hid hS2
          have HZ2 := Lib.hid hS2.size
          clear hD2 hK2 hS2 HD HS HSZ hK
          have hc := choosePivot_any wc b c p q e2 HD2.out (by omega) (by rw [HZ2.out]; exact hqs) (by rw [HZ2.out]; omega)
          rw [HZ2.out] at hc
          have HC := Lib.hid hc
          clear hc
          go_wp2_with fail
          refine HC.out.mono ?_
          rintro e1 w1 ⟨pv, h, rfl, hp1, hp2, hh, hN1⟩
          have HN1 := Lib.hid hN1
          clear hN1
          go_upto_if 50 with fail
          go_cut [11, 12] (fun v v' w2 => ∃ (pv h : Nat) (e3 : Array Nat), v = .int .i64 pv ∧ v' = .int .i64 h ∧ p ≤ pv ∧ pv < q ∧ Dv w2 b c e3 ∧ Kp b b w w2 ∧ St x y d p q e3)
          case first =>
            by_cases h2 : h = 2
            · have h2' : (((h : Nat) : Int) == 2) = true := by rw [beq_iff_eq]; omega
              have hc := reverseRange_any w1 b c p q e2 (HD2.out.nw HN1.out) (by omega) (by rw [HZ2.out]; exact hqs) (by rw [HZ2.out]; omega)
              rw [HZ2.out] at hc
              have HC2 := Lib.hid hc
              clear hc h2
              go_wp2_with fail
              refine HC2.out.mono ?_
              rintro e1 w2 ⟨rfl, hD3, hK3⟩
              go_wp2
              go_meet
              case rel => exact ⟨q - 1 - (pv - p), 1, _, by go_num, rfl, by omega, by omega, hD3, (HK2.out.nw' HN1.out).trans hK3 (.inl rfl) (.inl rfl), HS2.out.step (reverseRange_holds e2 p q g1 (by rw [HZ2.out]; exact hqs))⟩
            · have h2' : (((h : Nat) : Int) == 2) = false := by rw [beq_eq_false_iff_ne]; omega
              clear h2
              go_wp2
              go_meet
              case rel => exact ⟨pv, h, e2, rfl, rfl, hp1, hp2, HD2.out.nw HN1.out, HK2.out.nw' HN1.out, HS2.out⟩
          case rest =>
            clear hp1 hp2 hh HN1 HC
            obtain ⟨pv, h, e3, rfl, rfl, hp1, hp2, hD3, hK3, hS3⟩ := hcut
            have HD3 := Lib.hid hD3
            have HK3 := Lib.hid hK3
            have HS3 := Lib.hid hS3
            have HZ3 := Lib.hid hS3.size
            clear hD3 hK3 hS3 HD2 HK2 HS2 HZ2
            go_upto_region 15 with fail
            go_cut [68] (fun v w2 => (∃ B : Bool, v = .bool B) ∧ w2 = wc)
            case first =>
              cases wb <;> cases wp
              all_goals
                go_wp2
                go_meet
                case rel => exact ⟨⟨_, rfl⟩, rfl⟩
            case rest =>
              obtain ⟨⟨B, rfl⟩, rfl⟩ := hcut
              go_upto_if 68 with fail
              go_cut [69] (fun _ w2 => ∃ e4 : Array Nat, Dv w2 b c e4 ∧ Kp b b w w2 ∧ St x y d p q e4)
              case first =>
                cases B
                · go_wp2
                  go_meet
                  case rel => exact ⟨e3, HD3.out, HK3.out, HS3.out⟩
                · have hc := partialIns_any wc b c p q e3 HD3.out (by omega) (by rw [HZ3.out]; exact hqs) (by rw [HZ3.out]; omega)
                  rw [HZ3.out] at hc
                  have hi := partialInsertionSort_holds (lt := ltN) swo_ltN e3 p q (by omega) (by rw [HZ3.out]; exact hqs) HS3.out.below
                  generalize Sort.partialInsertionSort ltN e3 p q = R at *
                  obtain ⟨r, rb⟩ := R
                  cases rb
                  · have HC2 := Lib.hid hc
                    have HI := Lib.hid hi
                    clear hc hi
                    go_wp2_with fail
                    refine HC2.out.mono ?_
                    rintro e1 w2 ⟨rfl, hD4, hK4⟩
                    go_wp2
                    go_meet
                    case rel => exact ⟨r, hD4, HK3.out.trans hK4 (.inl rfl) (.inl rfl), HS3.out.step HI.out.1⟩
                  · have HC2 := Lib.hid hc
                    have HI1 := Lib.hid hi.1
                    have HI2 := Lib.hid (hi.2 rfl)
                    clear hc hi
                    go_wp2_with fail
                    refine HC2.out.mono ?_
                    rintro e1 w2 ⟨rfl, hD4, hK4⟩
                    go_wp2
                    refine bodyPost_ret (results_none rfl _ _ _) rfl ?_
                    obtain ⟨z1, z2, z3⟩ := HS3.out.done HI1.out HI2.out
                    exact ⟨rfl, r, z1, hD4, HK3.out.trans hK4 (.inl rfl) (.inl rfl), z2, z3⟩
              case rest =>
                obtain ⟨e4, hD4, hK4, hS4⟩ := hcut
                have HD4 := Lib.hid hD4
                have HK4 := Lib.hid hK4
                have HS4 := Lib.hid hS4
                have HZ4 := Lib.hid hS4.size
                clear hD4 hK4 hS4 HD3 HK3 HS3 HZ3
                go_upto_region 17 with fail
                go_cut [87] (fun v w2 => ∃ B : Bool, v = .bool B ∧ Dr wc w2 ∧ (B = true → 0 < p ∧ e4[pv]! ≤ e4[p - 1]!))
                case first =>
                  by_cases hp0 : 0 < p
                  · obtain ⟨p, rfl⟩ : ∃ t, p = t + 1 := ⟨p - 1, by omega⟩
                    have hg : (0 : Int) < (p : Int) + 1 := by omega
                    have c1 := HD4.out.cell (j := p) (by rw [HZ4.out]; omega)
                    have c2 := HD4.out.cell (j := pv) (by rw [HZ4.out]; omega)
                    obtain ⟨u1, hu1⟩ : ∃ r, r = e4[p]! := ⟨_, rfl⟩
                    obtain ⟨u2, hu2⟩ : ∃ r, r = e4[pv]! := ⟨_, rfl⟩
                    rw [← hu1] at c1
                    rw [← hu2] at c2
                    have HU := Lib.hid (And.intro hu1 hu2)
                    clear hu1 hu2
                    have i1 : (p : Int) < (d.size : Int) := by omega
                    have i2 : (pv : Int) < (d.size : Int) := by omega
                    have w1' : IntKind.i64.wrap (p : Int) = (p : Int) := IntWalk.i64_in _ (by omega)
                    by_cases hcmp : u1 < u2
                    · go_quiet ((go_at_call 48; exact quiet1 (Less_any _ _ _)))
                      go_wp2
                      go_meet
                      case rel => exact ⟨_, rfl, Dr.mk _ _, fun h => by simp at h⟩
                    · go_quiet ((go_at_call 48; exact quiet1 (Less_any _ _ _)))
                      go_wp2
                      go_meet
                      case rel => exact ⟨_, rfl, Dr.mk _ _, fun _ => ⟨by omega, by obtain ⟨a, b⟩ := HU.out; simp only [Nat.add_sub_cancel]; omega⟩⟩
                  · obtain rfl : p = 0 := by omega
                    go_quiet (fail)
                    go_wp2
                    go_meet
                    case rel => exact ⟨_, rfl, Dr.mk _ _, fun h => by simp at h⟩
                case rest =>
                  obtain ⟨B, rfl, hd, hBt⟩ := hcut
                  have HDX := Lib.hid (HD4.out.nw hd.nw)
                  have HKX := Lib.hid (HK4.out.nw' hd.nw)
                  clear hd HD4 HK4
                  cases B
                  · clear hBt
                    have hc := partition_any wc b c p q pv e4 HDX.out hp1 hp2 (by rw [HZ4.out]; exact hqs) (by rw [HZ4.out]; omega)
                    rw [HZ4.out] at hc
                    have HC2 := Lib.hid hc
                    clear hc
                    go_wp2_with fail
                    refine HC2.out.mono ?_
                    rintro e1 w2 ⟨m, ap, d', rfl, hD5, hK5, hm1, hm2, hP5, hlo, hhi⟩
                    have HP5 := Lib.hid hP5
                    have HLO := Lib.hid hlo
                    have HHI := Lib.hid hhi
                    have HZ5 := Lib.hid (show d'.size = d.size from by rw [hP5.1, HZ4.out])
                    have HD5 := Lib.hid hD5
                    have HK5 := Lib.hid (HKX.out.trans hK5 (.inl rfl) (.inl rfl))
                    clear hP5 hlo hhi hD5 hK5 HDX HKX
                    by_cases hlr : m - p < q - m
                    · have hlr' : (m : Int) - (p : Int) < (q : Int) - (m : Int) := by omega
                      have hc := IH.out w2 b c p m L2 d' (by omega) HD5.out hm1 (by rw [HZ5.out]; omega) (by rw [HZ5.out]; omega) hL2 (HS4.out.belowL hm2 HP5.out)
                      rw [HZ5.out] at hc
                      have HC3 := Lib.hid hc
                      clear hc
                      go_wp2_with fail
                      refine HC3.out.mono ?_
                      rintro e2 w3 ⟨rfl, d6, hs6, hD6, hK6, hP6, hO6⟩
                      have HS6 := Lib.hid (HS4.out.left hm1 hm2 HP5.out HLO.out HHI.out hP6 hO6)
                      have HK6 := Lib.hid (HK5.out.trans hK6 (.inl rfl) (.inl rfl))
                      have HD6 := Lib.hid hD6
                      clear hs6 hD6 hK6 hP6 hO6
                      go_wp2
                      go_roundg (q - (m + 1))
                      case measure => have := HK.out; omega
                      case rel => exact ⟨m + 1, q, L2, _, _, d6, by go_num, rfl, rfl, rfl, rfl, rfl, by omega, hL2, HD6.out, HK6.out, HS6.out⟩
                    · have hlr' : ¬ (m : Int) - (p : Int) < (q : Int) - (m : Int) := by omega
                      have hc := IH.out w2 b c (m + 1) q L2 d' (by omega) HD5.out (by omega) (by rw [HZ5.out]; omega) (by rw [HZ5.out]; omega) hL2 (belowR HHI.out)
                      rw [HZ5.out, show ((m + 1 : Nat) : Int) = (m : Int) + 1 from by omega] at hc
                      have HC3 := Lib.hid hc
                      clear hc
                      go_wp2_with fail
                      refine HC3.out.mono ?_
                      rintro e2 w3 ⟨rfl, d6, hs6, hD6, hK6, hP6, hO6⟩
                      have HS6 := Lib.hid (HS4.out.right hm1 hm2 HP5.out HLO.out HHI.out hP6 hO6)
                      have HK6 := Lib.hid (HK5.out.trans hK6 (.inl rfl) (.inl rfl))
                      have HD6 := Lib.hid hD6
                      clear hs6 hD6 hK6 hP6 hO6
                      go_wp2
                      go_roundg (m - p)
                      case measure => have := HK.out; omega
                      case rel => exact ⟨p, m, L2, _, _, d6, rfl, rfl, rfl, rfl, rfl, rfl, by omega, hL2, HD6.out, HK6.out, HS6.out⟩
                  · have HBT := Lib.hid (hBt rfl)
                    clear hBt
                    have hc := partEq_any wc b c p q pv e4 HDX.out hp1 hp2 (by rw [HZ4.out]; exact hqs) (by rw [HZ4.out]; omega)
                    rw [HZ4.out] at hc
                    have HC2 := Lib.hid hc
                    clear hc
                    go_wp2_with fail
                    refine HC2.out.mono ?_
                    rintro e1 w2 ⟨m, d', rfl, hD5, hK5, hm1, hm2, hP5, hlo, hhi⟩
                    have HS5 := Lib.hid (HS4.out.eq HBT.out.1 HBT.out.2 hm1 hm2 hP5 hlo hhi)
                    have HD5 := Lib.hid hD5
                    have HK5 := Lib.hid (HKX.out.trans hK5 (.inl rfl) (.inl rfl))
                    clear hP5 hlo hhi hD5 hK5
                    go_wp2
                    go_roundg (q - m)
                    case measure => have := HK.out; omega
                    case rel => exact ⟨m, q, L2, wb, wp, d', rfl, rfl, rfl, rfl, rfl, rfl, by omega, hL2, HD5.out, HK5.out, HS5.out⟩

theorem pdq_all (N : Nat) : ∀ (w : World) (b c x y limit : Nat) (d : Array Nat), y - x < N → Dv w b c d → x ≤ y → y ≤ d.size → d.size < 2305843009213693951 → limit ≤ 1000 → Sort.Below ltN x y d →
    Calls Try.prog 49 #[.slice (some ⟨b, 0, none⟩) d.size c, .int .i64 (x : Int), .int .i64 (y : Int), .int .i64 (limit : Int)] w fun e w' => e = .returned (.tuple #[]) ∧ Pdq b c x y d w w' := by
  induction N with
  | zero => intro w b c x y limit d h; omega
  | succ N ih => exact fun w b c x y limit d h1 h2 h3 h4 h5 h6 h7 => pdq_step N ih w b c x y limit d (by omega) h2 h3 h4 h5 h6 h7

end Go.Proofs.Ytbdpimnbjonhlaa
