/- The reference's Check of a label set. -/
import Derived.Test.YtoogadidbbpplaaLabChk
namespace Go.Proofs.Ytoogadidbbpplaa
open Go Go.RowKit Go.Sort

set_option maxRecDepth 100000 in
set_option maxHeartbeats 1600000 in
theorem RCheckL_any (w : World) (b : Nat) (A : Option Addr) (n c : Nat) (l : List Lab) (hn : n = l.length) (hm : n ≤ 1000000) (hr : Rd w b A (cL l)) :
    Calls Try.prog 26 #[.slice A n c] w fun e w' => e = .returned (.int .i64 (chkL l : Nat)) ∧ Nw w w' := by
  subst hn
  have HR := Lib.hid hr
  obtain ⟨C, hC⟩ : ∃ C, chkL l = C := ⟨_, rfl⟩
  rw [hC]
  have HC := Lib.hid hC
  clear hr hC
  go_enter Try.func26, Try.ntmps26
  go_wp2
  go_loopw [3] (fun i wr => ∃ k : Nat, k ≤ l.length ∧ i = .int .i64 k ∧ Hid (C = chkF (prevN l k) (l.drop k)) ∧ Hid (Nw w wr)) (fun i _ => l.length - (intOf i).toNat)
  case atStart => exact ⟨0, by omega, rfl, Lib.hid (by rw [← HC.out]; rfl), Lib.hid (Nw.refl _)⟩
  case round =>
    obtain ⟨k, hk, rfl, HX, HN⟩ := hrel
    by_cases hlt : k < l.length
    · have hltI : (k : Int) < (l.length : Int) := by omega
      obtain ⟨o, rfl, hbw, hc0, hc1⟩ := two_at (HR.out.nw HN.out) hlt
      have hX := HX.out
      rw [drop_cons hlt] at hX
      have HPX := Lib.hid (show prevN l (k + 1) = some l[k].1 from by unfold prevN; rw [if_neg (by omega), Nat.add_sub_cancel, List.getElem?_eq_getElem hlt]; rfl)
      have HPV := Lib.hid fun (h : k - 1 < l.length) => two_at (HR.out.nw HN.out) h
      generalize l[k] = x at *
      obtain ⟨a, d⟩ := x
      dsimp only at hc0 hc1 HPX
      have HS := Lib.hid fun W => one_any W a d
      obtain ⟨E, hE⟩ : ∃ E, oneE (a, d) = E := ⟨_, rfl⟩
      rw [hE] at HS
      have HE := Lib.hid hE
      clear hE
      by_cases hE0 : E = 0
      · have hE1 : ((E : Int) != 0) = false := by rw [bne_eq_false_iff_eq]; omega
        by_cases hk0 : k = 0
        · subst hk0
          rw [show prevN l 0 = none from rfl] at hX
          have HX2 := Lib.hid (show C = chkF (some a) (l.drop 1) from by
            rw [hX]
            show (if oneE (a, d) ≠ 0 then oneE (a, d) else chkF (some a) (l.drop (0 + 1))) = _
            rw [if_neg (by rw [HE.out]; simp [hE0])])
          simp only [Nat.zero_mul, Nat.add_zero] at hc0 hc1
          have i0 : (0 : Int) < (l.length : Int) := by omega
          clear hX HX
          go_wp2_with (go_at_call 46; refine (HS.out _).mono ?_; rintro e w3 ⟨rfl, hN3⟩)
          have HN3 := Lib.hid (HN.out.trans hN3)
          clear hN3 hc0 hc1
          refine wp_region_quiet_lit (by kernel_rfl) (by kernel_rfl) ?_
          repeat (with_reducible refine wpQuiet_step ?_; intro K hK; go_simp; refine hK _ ?_; clear hK K)
          with_reducible refine wpQuiet_nil ?_
          rintro _ ⟨nq, rfl⟩
          have HNq := Lib.hid (HN3.out.trans (Nw.drewN w3 nq))
          generalize World.drewN w3 nq = wq at *
          go_wp2_with fail
          refine wp_region_quiet_lit (by kernel_rfl) (by kernel_rfl) ?_
          repeat (with_reducible refine wpQuiet_step ?_; intro K hK; go_simp; refine hK _ ?_; clear hK K)
          with_reducible refine wpQuiet_nil ?_
          rintro _ ⟨nq, rfl⟩
          have HNz := Lib.hid (HNq.out.trans (Nw.drewN wq nq))
          generalize World.drewN wq nq = wz at *
          go_wp2_with fail
          go_roundw
          case rel => exact ⟨1, by omega, by go_num, by rw [HPX.out]; exact HX2, HNz⟩
          case measure => simp [intOf]; omega
        · have hk0' : (0 : Int) < (k : Int) := by omega
          have hkd : decide (0 < k) = true := by rw [decide_eq_true_iff]; omega
          have j0 : (0 : Int) ≤ (k : Int) - 1 := by omega
          have j1 : (k : Int) - 1 < (l.length : Int) := by omega
          have j2 : ((k : Int) - 1).toNat = k - 1 := by omega
          obtain ⟨o', e', _, hp0, hp1⟩ := HPV.out (by omega)
          obtain rfl : o' = o := by injection e' with e'; injection e' with _ e' _; exact e'.symm
          have HPP := Lib.hid (show prevN l k = some l[k - 1].1 from by unfold prevN; rw [if_neg hk0, List.getElem?_eq_getElem (by omega)]; rfl)
          generalize l[k - 1] = y at *
          obtain ⟨p, r⟩ := y
          dsimp only at hp0 hp1 HPP
          rw [HPP.out] at hX
          obtain ⟨s, hs⟩ : ∃ s, cmpS p a = s := ⟨_, rfl⟩
          have hsin := cmpS_in p a
          rw [hs] at hsin
          have HX2 := Lib.hid (show C = if s = 0 then 18 else if s = 1 then 16 else chkF (some a) (l.drop (k + 1)) from by
            rw [hX]
            show (if oneE (a, d) ≠ 0 then oneE (a, d) else if cmpS p a = 0 then 18 else if cmpS p a = 1 then 16 else chkF (some a) (l.drop (k + 1))) = _
            rw [if_neg (by rw [HE.out]; simp [hE0]), hs])
          have HCE := Lib.hid fun W (hN : Nw wr W) => And.intro (cell_old hN hbw hc0) (cell_old hN hbw hp0)
          have HSS := Lib.hid hs
          clear hX HX hs hp1
          rcases hsin with rfl | rfl | rfl
          · have h1 : (a.toList == p.toList) = false := by
              rw [beq_eq_false_iff_ne]; intro h; have := cmpS_neg.1 HSS.out; rw [h, bl_irrefl] at this; cases this
            have h2 : Op.bytesLess a.toList p.toList = false := bl_asymm _ _ (cmpS_neg.1 HSS.out)
            have HX3 := Lib.hid (show C = chkF (some a) (l.drop (k + 1)) from by rw [HX2.out]; rfl)
            go_wp2_with (go_at_call 46; refine (HS.out _).mono ?_; rintro e w3 ⟨rfl, hN3⟩)
            obtain ⟨d0, d1⟩ := HCE.out _ hN3
            clear hc0 hc1 hp0
            go_quiet (fail)
            have hNq := hN3.trans (Nw.drewN w3 nq)
            obtain ⟨d2, d3⟩ := HCE.out _ hNq
            generalize World.drewN w3 nq = wq at *
            clear d0 d1
            go_wp2_with fail
            go_quiet (fail)
            have HNz := Lib.hid (HN.out.trans (hNq.trans (Nw.drewN wq nq)))
            generalize World.drewN wq nq = wz at *
            go_wp2_with fail
            go_roundw
            case rel => exact ⟨k + 1, by omega, by go_num, by rw [HPX.out]; exact HX3, HNz⟩
            case measure => simp [intOf]; omega
          · have h1 : (a.toList == p.toList) = true := by
              have := cmpS_zero.1 HSS.out; subst this; simp
            have HX3 := Lib.hid (show C = 18 from by rw [HX2.out]; rfl)
            go_wp2_with (go_at_call 46; refine (HS.out _).mono ?_; rintro e w3 ⟨rfl, hN3⟩)
            obtain ⟨d0, d1⟩ := HCE.out _ hN3
            clear hc0 hc1 hp0
            go_quiet (fail)
            have HNz := Lib.hid (HN.out.trans (hN3.trans (Nw.drewN w3 nq)))
            generalize World.drewN w3 nq = wz at *
            go_wp2_with fail
            go_ret
            rw [HX3.out]
            exact ⟨rfl, HNz.out⟩
          · have h2 : Op.bytesLess a.toList p.toList = true := cmpS_pos.1 HSS.out
            have h1 : (a.toList == p.toList) = false := by
              rw [beq_eq_false_iff_ne]; intro h; rw [h, bl_irrefl] at h2; cases h2
            have HX3 := Lib.hid (show C = 16 from by rw [HX2.out]; rfl)
            go_wp2_with (go_at_call 46; refine (HS.out _).mono ?_; rintro e w3 ⟨rfl, hN3⟩)
            obtain ⟨d0, d1⟩ := HCE.out _ hN3
            clear hc0 hc1 hp0
            go_quiet (fail)
            have hNq := hN3.trans (Nw.drewN w3 nq)
            obtain ⟨d2, d3⟩ := HCE.out _ hNq
            generalize World.drewN w3 nq = wq at *
            clear d0 d1
            go_wp2_with fail
            go_quiet (fail)
            have HNz := Lib.hid (HN.out.trans (hNq.trans (Nw.drewN wq nq)))
            generalize World.drewN wq nq = wz at *
            go_wp2_with fail
            go_ret
            rw [HX3.out]
            exact ⟨rfl, HNz.out⟩
      · have hE1 : ((E : Int) != 0) = true := by rw [bne_iff_ne]; omega
        have HX2 := Lib.hid (show C = E from by
          rw [hX]
          cases prevN l k with
          | none =>
            show (if oneE (a, d) ≠ 0 then oneE (a, d) else _) = _
            rw [if_pos (by rw [HE.out]; exact hE0), HE.out]
          | some q =>
            show (if oneE (a, d) ≠ 0 then oneE (a, d) else _) = _
            rw [if_pos (by rw [HE.out]; exact hE0), HE.out])
        clear hX HX
        go_wp2_with (go_at_call 46; refine (HS.out _).mono ?_; rintro e w3 ⟨rfl, hN3⟩)
        go_ret
        rw [HX2.out]
        exact ⟨rfl, HN.out.trans hN3⟩
    · obtain rfl : k = l.length := by omega
      have hX := HX.out
      rw [List.drop_length] at hX
      have HX2 := Lib.hid (show C = 0 from by rw [hX]; cases prevN l l.length <;> rfl)
      go_wp2
      go_ret
      rw [HX2.out]
      exact ⟨rfl, HN.out⟩
end Go.Proofs.Ytoogadidbbpplaa
