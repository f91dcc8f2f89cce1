/- Lists of labels compared: labels.Compare and the reference's Compare. -/
import Derived.Test.YtoogadidbbpplaaGreatCmp
namespace Go.Proofs.YtoogadidbbpplaaGreat
open Go Go.RowKit Go.Sort

def cmpLs : List Lab → List Lab → Int
  | [], [] => 0
  | [], _ :: _ => -1
  | _ :: _, [] => 1
  | x :: a, y :: b => if cmpL x y ≠ 0 then cmpL x y else cmpLs a b
theorem cmpLs_nil_r {a : List Lab} (h : a ≠ []) : cmpLs a [] = 1 := by cases a with | nil => exact (h rfl).elim | cons _ _ => rfl
theorem drop_cons {α : Type} {l : List α} {k : Nat} (h : k < l.length) : l.drop k = l[k] :: l.drop (k + 1) := List.drop_eq_getElem_cons h
theorem cmpLs_ends (a b : List Lab) (k : Nat) (ha : a.length ≤ k) : cmpLs (a.drop k) (b.drop k) = if k < b.length then -1 else 0 := by
  rw [List.drop_eq_nil_of_le ha]
  split
  · rename_i h; rw [drop_cons h]; rfl
  · rw [List.drop_eq_nil_of_le (by omega)]; rfl

set_option maxRecDepth 100000 in
theorem CompareFunc_any (w : World) (b1 b2 : Nat) (A1 A2 : Option Addr) (n1 c1 n2 c2 : Nat) (l1 l2 : List Lab) (hn1 : n1 = l1.length) (hn2 : n2 = l2.length) (hm1 : n1 ≤ 1000000) (hm2 : n2 ≤ 1000000) (hr1 : Rd w b1 A1 (cL l1)) (hr2 : Rd w b2 A2 (cL l2)) :
    Calls Tryz.prog 71 #[.slice A1 n1 c1, .slice A2 n2 c2, .func (.func 72) #[] #[]] w fun e w' => e = .returned (.int .i64 (cmpLs l1 l2)) ∧ Gr w w' := by
  subst hn1 hn2
  have HR1 := Lib.hid hr1
  have HR2 := Lib.hid hr2
  obtain ⟨C, hC⟩ : ∃ C, cmpLs l1 l2 = C := ⟨_, rfl⟩
  rw [hC]
  have HC := Lib.hid hC
  clear hr1 hr2 hC
  go_enter Tryz.func71, Tryz.ntmps71
  go_wp2
  go_loopw [13] (fun i wr => ∃ k : Nat, k ≤ l1.length ∧ i = .int .i64 k ∧ k ≤ l2.length ∧ Hid (C = cmpLs (l1.drop k) (l2.drop k)) ∧ Hid (Gr w wr)) (fun i _ => l1.length - (intOf i).toNat)
  case atStart => exact ⟨0, by omega, rfl, by omega, Lib.hid HC.out.symm, Lib.hid (Gr.refl _)⟩
  case round =>
    obtain ⟨k, hk, rfl, hk2, HX, HN⟩ := hrel
    by_cases hlt : k < l1.length
    · have hltI : (k : Int) < (l1.length : Int) := by omega
      obtain ⟨o, rfl, _, hc0, hc1⟩ := two_at (HR1.out.nw HN.out.nw) hlt
      have hd1 := drop_cons hlt
      by_cases hlt2 : k < l2.length
      · have hltI2 : ¬ (l2.length : Int) ≤ (k : Int) := by omega
        have hltI3 : (k : Int) < (l2.length : Int) := by omega
        obtain ⟨o2, rfl, hb2, hd0, hd1'⟩ := two_at (HR2.out.nw HN.out.nw) hlt2
        have hX := HX.out
        rw [hd1, drop_cons hlt2] at hX
        have HX2 := Lib.hid (show C = if cmpL l1[k] l2[k] ≠ 0 then cmpL l1[k] l2[k] else cmpLs (l1.drop (k + 1)) (l2.drop (k + 1)) from hX)
        clear hX HX hd1 HR1 HR2
        generalize l1[k] = x at *
        generalize l2[k] = y at *
        obtain ⟨c, hc⟩ : ∃ c, cmpL x y = c := ⟨_, rfl⟩
        have HV := Lib.hid fun W => cmpLab_any W x y
        rw [hc] at HV HX2
        clear hc
        go_wp2_with fail
        refine (HV.out _).mono ?_
        rintro e w2 ⟨rfl, hN2⟩
        have hNN := ((HN.out.alloc' _).alloc' _).trans hN2
        by_cases hz : c = 0
        · have hz1 : (c != 0) = false := by rw [bne_eq_false_iff_eq]; exact hz
          have hX := HX2.out
          rw [if_neg (by simp [hz])] at hX
          have HX3 := Lib.hid hX
          clear hX hz hN2
          go_wp2_with fail
          go_roundw
          case rel => exact ⟨k + 1, by omega, by go_num, by omega, HX3, Lib.hid hNN⟩
          case measure => simp [intOf]; omega
        · have hz1 : (c != 0) = true := by rw [bne_iff_ne]; exact hz
          have hX := HX2.out
          rw [if_pos hz] at hX
          have HX3 := Lib.hid hX
          clear hX hN2
          go_wp2_with fail
          go_ret
          rw [HX3.out]
          exact ⟨rfl, hNN⟩
      · have hltI2 : (l2.length : Int) ≤ (k : Int) := by omega
        have hX := HX.out
        rw [hd1, show l2.drop k = [] from List.drop_eq_nil_of_le (by omega)] at hX
        have HX2 := Lib.hid (show C = 1 from hX)
        clear hX HX hd1
        go_wp2
        go_ret
        rw [HX2.out]
        exact ⟨rfl, HN.out.alloc' _⟩
    · obtain rfl : k = l1.length := by omega
      have hX := HX.out
      rw [cmpLs_ends l1 l2 _ (Nat.le_refl _)] at hX
      by_cases hs : l1.length < l2.length
      · rw [if_pos hs] at hX
        have HX2 := Lib.hid hX
        have hsI : (l1.length : Int) < (l2.length : Int) := by omega
        clear hX HX
        go_wp2
        go_ret
        rw [HX2.out]
        exact ⟨rfl, HN.out⟩
      · rw [if_neg hs] at hX
        have HX2 := Lib.hid hX
        have hsI : ¬ (l1.length : Int) < (l2.length : Int) := by omega
        clear hX HX
        go_wp2
        go_ret
        rw [HX2.out]
        exact ⟨rfl, HN.out⟩
theorem CompareL_any (w : World) (b1 b2 : Nat) (A1 A2 : Option Addr) (n1 c1 n2 c2 : Nat) (l1 l2 : List Lab) (hn1 : n1 = l1.length) (hn2 : n2 = l2.length) (hm1 : n1 ≤ 1000000) (hm2 : n2 ≤ 1000000) (hr1 : Rd w b1 A1 (cL l1)) (hr2 : Rd w b2 A2 (cL l2)) :
    Calls Tryz.prog 53 #[.slice A1 n1 c1, .slice A2 n2 c2] w fun e w' => e = .returned (.int .i64 (cmpLs l1 l2)) ∧ Gr w w' := by
  have HC := Lib.hid (CompareFunc_any w b1 b2 A1 A2 n1 c1 n2 c2 l1 l2 hn1 hn2 hm1 hm2 hr1 hr2)
  clear hn1 hn2 hr1 hr2
  go_enter Tryz.func53, Tryz.ntmps53
  go_wp2_with (go_at_call 71; refine HC.out.mono ?_; rintro e w1 ⟨rfl, hN⟩)
  go_ret
  exact ⟨rfl, hN⟩

set_option maxRecDepth 100000 in
set_option maxHeartbeats 1600000 in
theorem RCompareL_any (w : World) (b1 b2 : Nat) (A1 A2 : Option Addr) (n1 c1 n2 c2 : Nat) (l1 l2 : List Lab) (hn1 : n1 = l1.length) (hn2 : n2 = l2.length) (hm1 : n1 ≤ 1000000) (hm2 : n2 ≤ 1000000) (hr1 : Rd w b1 A1 (cL l1)) (hr2 : Rd w b2 A2 (cL l2)) :
    Calls Tryz.prog 32 #[.slice A1 n1 c1, .slice A2 n2 c2] w fun e w' => e = .returned (.int .i64 (cmpLs l1 l2)) ∧ Dr w w' := by
  subst hn1 hn2
  have HR1 := Lib.hid hr1
  have HR2 := Lib.hid hr2
  obtain ⟨C, hC⟩ : ∃ C, cmpLs l1 l2 = C := ⟨_, rfl⟩
  rw [hC]
  have HC := Lib.hid hC
  clear hr1 hr2 hC
  go_enter Tryz.func32, Tryz.ntmps32
  go_wp2
  go_loopw [5] (fun i wr => ∃ k : Nat, k ≤ l1.length ∧ i = .int .i64 k ∧ k ≤ l2.length ∧ Hid (C = cmpLs (l1.drop k) (l2.drop k)) ∧ Hid (Dr w wr)) (fun i _ => l1.length - (intOf i).toNat)
  case atStart => exact ⟨0, by omega, rfl, by omega, Lib.hid HC.out.symm, Lib.hid (Dr.refl _)⟩
  case round =>
    obtain ⟨k, hk, rfl, hk2, HX, HD⟩ := hrel
    by_cases hlt : k < l1.length
    · have hltI : (k : Int) < (l1.length : Int) := by omega
      have hltd : decide ((k : Int) < (l1.length : Int)) = true := by rw [decide_eq_true_iff]; exact hltI
      have hd1 := drop_cons hlt
      by_cases hlt2 : k < l2.length
      · have hltI3 : (k : Int) < (l2.length : Int) := by omega
        have hltd3 : decide ((k : Int) < (l2.length : Int)) = true := by rw [decide_eq_true_iff]; exact hltI3
        obtain ⟨o, rfl, _, hc0, hc1⟩ := two_at (HR1.out.nw HD.out.nw) hlt
        obtain ⟨o2, rfl, hb2, hd0, hd1'⟩ := two_at (HR2.out.nw HD.out.nw) hlt2
        have hX := HX.out
        rw [hd1, drop_cons hlt2] at hX
        have HX2 := Lib.hid (show C = if cmpL l1[k] l2[k] ≠ 0 then cmpL l1[k] l2[k] else cmpLs (l1.drop (k + 1)) (l2.drop (k + 1)) from hX)
        clear hX HX hd1 HR1 HR2
        generalize l1[k] = x at *
        generalize l2[k] = y at *
        obtain ⟨x1, x2⟩ := x
        obtain ⟨y1, y2⟩ := y
        have HO1 := Lib.hid fun W => order_any W x1 y1
        have HO2 := Lib.hid fun W => order_any W x2 y2
        have hcl : cmpL (x1, x2) (y1, y2) = if cmpS x1 y1 ≠ 0 then cmpS x1 y1 else cmpS x2 y2 := rfl
        rw [hcl] at HX2
        clear hcl
        dsimp only at hc0 hc1 hd0 hd1'
        generalize cmpS x1 y1 = e1 at *
        generalize cmpS x2 y2 = e2 at *
        have hb1 := lt_of_cell hc0
        have HT := Lib.hid fun W (hN : Nw wr W) => And.intro (cell_old hN hb1 hc1) (cell_old hN hb2 hd1')
        go_wp2_with fail
        go_quiet ((go_at_call 56; exact Calls.quiet_of_same ((HO1.out _).mono fun _ _ h => ⟨h.1, h.2.symm⟩)))
        obtain ⟨hc1n, hd1n⟩ := HT.out _ (Nw.drewN wr nq)
        have HDq := Lib.hid (HD.out.step nq)
        generalize World.drewN wr nq = wq at *
        clear hc0 hd0 hc1 hd1'
        by_cases hz : e1 = 0
        · have hz1 : (e1 == 0) = true := by rw [beq_iff_eq]; exact hz
          have hX := HX2.out
          rw [if_neg (show ¬ e1 ≠ 0 by simp [hz])] at hX
          have HX3 := Lib.hid hX
          clear hX HX2
          go_wp2_with fail
          go_quiet ((go_at_call 56; exact Calls.quiet_of_same ((HO2.out _).mono fun _ _ h => ⟨h.1, h.2.symm⟩)))
          have HDz := Lib.hid (HDq.out.step nq)
          generalize World.drewN wq nq = wz at *
          by_cases hz2 : e2 = 0
          · have hz3 : (e2 != 0) = false := by rw [bne_eq_false_iff_eq]; exact hz2
            have hX := HX3.out
            rw [if_neg (by simp [hz2])] at hX
            have HX4 := Lib.hid hX
            clear hX hz2 HX3
            go_wp2_with fail
            go_roundw
            case rel => exact ⟨k + 1, by omega, by go_num, by omega, HX4, HDz⟩
            case measure => simp [intOf]; omega
          · have hz3 : (e2 != 0) = true := by rw [bne_iff_ne]; exact hz2
            have hX := HX3.out
            rw [if_pos hz2] at hX
            have HX4 := Lib.hid hX
            clear hX HX3
            go_wp2_with fail
            go_ret
            rw [HX4.out]
            exact ⟨rfl, HDz.out⟩
        · have hz1 : (e1 == 0) = false := by rw [beq_eq_false_iff_ne]; exact hz
          have hz2 : (e1 != 0) = true := by rw [bne_iff_ne]; exact hz
          have hX := HX2.out
          rw [if_pos (show (if e1 ≠ 0 then e1 else e2) ≠ 0 by rw [if_pos hz]; exact hz), if_pos hz] at hX
          have HX3 := Lib.hid hX
          clear hX HX2
          go_wp2_with fail
          go_ret
          rw [HX3.out]
          exact ⟨rfl, HDq.out⟩
      · have hltd3 : decide ((k : Int) < (l2.length : Int)) = false := by rw [decide_eq_false_iff_not]; omega
        have hX := HX.out
        rw [hd1, show l2.drop k = [] from List.drop_eq_nil_of_le (by omega)] at hX
        have HX2 := Lib.hid (show C = 1 from hX)
        have hs1 : ¬ (l1.length : Int) < (l2.length : Int) := by omega
        have hs2 : (l2.length : Int) < (l1.length : Int) := by omega
        clear hX HX hd1
        go_wp2
        go_ret
        rw [HX2.out]
        exact ⟨rfl, HD.out⟩
    · obtain rfl : k = l1.length := by omega
      have hX := HX.out
      rw [cmpLs_ends l1 l2 _ (Nat.le_refl _)] at hX
      by_cases hs : l1.length < l2.length
      · rw [if_pos hs] at hX
        have HX2 := Lib.hid hX
        have hsI : (l1.length : Int) < (l2.length : Int) := by omega
        clear hX HX
        go_wp2
        go_ret
        rw [HX2.out]
        exact ⟨rfl, HD.out⟩
      · rw [if_neg hs] at hX
        have HX2 := Lib.hid hX
        have hsI : ¬ (l1.length : Int) < (l2.length : Int) := by omega
        have hsJ : ¬ (l2.length : Int) < (l1.length : Int) := by omega
        clear hX HX
        go_wp2
        go_ret
        rw [HX2.out]
        exact ⟨rfl, HD.out⟩
end Go.Proofs.YtoogadidbbpplaaGreat
