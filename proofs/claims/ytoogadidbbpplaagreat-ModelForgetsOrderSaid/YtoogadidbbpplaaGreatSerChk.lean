/- Series checked: single, bySet, ascending; Check of model and of its reference. -/
import Derived.Test.YtoogadidbbpplaaGreatSmpChk
namespace Go.Proofs.YtoogadidbbpplaaGreat
open Go Go.RowKit Go.Sort

/-- the error of a series by itself -/
def serE (s : Ser) : Nat := if chkL s.labs ≠ 0 then chkL s.labs else if s.smps.length = 0 then 21 else tmE s.smps
abbrev vSer (s : Ser) : Value := .agg #[.slice s.al s.labs.length s.cl, .slice s.as_ s.smps.length s.cs]
theorem singleSer_any (w : World) (s : Ser) (hs : SerOk w s) (h1 : s.labs.length ≤ 1000000) (h2 : s.smps.length ≤ 1000000) :
    Calls Tryz.prog 24 #[vSer s] w fun e w' => e = .returned (.int .i64 (serE s : Nat)) ∧ Nw w w' := by
  have HL := Lib.hid fun W (hN : Nw w W) => CheckL_any W s.bl s.al s.labs.length s.cl s.labs rfl h1 (hs.1.rd.nw hN)
  have HA := Lib.hid fun W (hN : Nw w W) => ascS_any W s.bs s.as_ s.smps.length s.cs s.smps rfl h2 (hs.2.rd.nw hN)
  have HE := Lib.hid (show serE s = if chkL s.labs ≠ 0 then chkL s.labs else if s.smps.length = 0 then 21 else tmE s.smps from rfl)
  generalize serE s = E at *
  generalize chkL s.labs = e1 at *
  generalize tmE s.smps = e2 at *
  clear hs
  have hN1 : Nw w (w.alloc (.cells #[.slice s.al s.labs.length s.cl, .slice s.as_ s.smps.length s.cs] 37)) := (Nw.refl _).alloc' _
  have hb : (w.alloc (.cells #[.slice s.al s.labs.length s.cl, .slice s.as_ s.smps.length s.cs] 37)).heap[w.heap.size]? = some (.cells #[.slice s.al s.labs.length s.cl, .slice s.as_ s.smps.length s.cs] 37 (0, 0)) := heap_alloc_new _ _
  by_cases h0 : e1 = 0
  · have h0b : ((e1 : Int) != 0) = false := by rw [bne_eq_false_iff_eq]; omega
    have hE := HE.out
    rw [if_neg (by simp [h0])] at hE
    by_cases hl : s.smps.length = 0
    · rw [if_pos hl] at hE
      have HE2 := Lib.hid hE
      have hlb : ((s.smps.length : Int) == 0) = true := by rw [beq_iff_eq]; omega
      have HL0 := Lib.hid hl
      clear hE hl
      go_enter Tryz.func24, Tryz.ntmps24
      go_wp2_with (go_at_call 48; refine (HL.out _ hN1).mono ?_; rintro e w1 ⟨rfl, hN⟩; have hc1 := (cell_at (k := 1) ((hN.block _ (lt_of_block hb)).trans hb)).trans rfl)
      go_ret
      rw [HE2.out]
      exact ⟨rfl, hN1.trans hN⟩
    · rw [if_neg hl] at hE
      have HE2 := Lib.hid hE
      have hlb : ((s.smps.length : Int) == 0) = false := by rw [beq_eq_false_iff_ne]; omega
      clear hE
      go_enter Tryz.func24, Tryz.ntmps24
      go_wp2_with (first
        | (go_at_call 51; refine (HA.out _ (hN1.trans hN)).mono ?_; rintro e w2 ⟨rfl, hN2⟩)
        | (go_at_call 48; refine (HL.out _ hN1).mono ?_; rintro e w1 ⟨rfl, hN⟩; have hc1 := (cell_at (k := 1) ((hN.block _ (lt_of_block hb)).trans hb)).trans rfl))
      go_ret
      rw [HE2.out]
      exact ⟨rfl, (hN1.trans hN).trans hN2⟩
  · have h0b : ((e1 : Int) != 0) = true := by rw [bne_iff_ne]; omega
    have hE := HE.out
    rw [if_pos h0] at hE
    have HE2 := Lib.hid hE
    clear hE
    go_enter Tryz.func24, Tryz.ntmps24
    go_wp2_with (go_at_call 48; refine (HL.out _ hN1).mono ?_; rintro e w1 ⟨rfl, hN⟩)
    go_ret
    rw [HE2.out]
    exact ⟨rfl, hN1.trans hN⟩
theorem bySet_any (w : World) (s t : Ser) (hs : SerOk w s) (ht : SerOk w t) (h1 : s.labs.length ≤ 1000000) (h2 : t.labs.length ≤ 1000000) :
    Calls Tryz.prog 26 #[vSer s, vSer t] w fun e w' => e = .returned (.int .i64 (cmpLs s.labs t.labs)) ∧ Gr w w' := by
  have HC := Lib.hid fun W (hN : Nw w W) => CompareL_any W s.bl t.bl s.al t.al s.labs.length s.cl t.labs.length t.cl s.labs t.labs rfl rfl h1 h2 (hs.1.rd.nw hN) (ht.1.rd.nw hN)
  generalize cmpLs s.labs t.labs = C at *
  clear hs ht
  go_enter Tryz.func26, Tryz.ntmps26
  go_wp2_with (go_at_call 53; refine (HC.out _ (((Nw.refl w).alloc' _).alloc' _)).mono ?_; rintro e w1 ⟨rfl, hN⟩)
  go_ret
  exact ⟨rfl, (((Gr.refl w).alloc' _).alloc' _).trans hN⟩

theorem cmpL_in (x y : Lab) : cmpL x y = -1 ∨ cmpL x y = 0 ∨ cmpL x y = 1 := by
  unfold cmpL
  split
  · exact cmpS_in _ _
  · exact cmpS_in _ _
theorem cmpLs_in : ∀ a b : List Lab, cmpLs a b = -1 ∨ cmpLs a b = 0 ∨ cmpLs a b = 1 := by
  intro a
  induction a with
  | nil => intro b; cases b with | nil => exact .inr (.inl rfl) | cons _ _ => exact .inl rfl
  | cons x a ih =>
    intro b
    cases b with
    | nil => exact .inr (.inr rfl)
    | cons y b =>
      have e : cmpLs (x :: a) (y :: b) = if cmpL x y ≠ 0 then cmpL x y else cmpLs a b := rfl
      rw [e]
      split
      · exact cmpL_in x y
      · exact ih b
/-- the error of series behind one -/
def asF : Ser → List Ser → Nat
  | _, [] => 0
  | p, x :: l => if cmpLs p.labs x.labs = 0 then 19 else if cmpLs p.labs x.labs = 1 then 16 else asF x l
def asE : List Ser → Nat
  | [] => 0
  | x :: l => asF x l
theorem asE_step {l : List Ser} {k : Nat} (h0 : 0 < k) (h : k < l.length) : asE (l.drop (k - 1)) = if cmpLs l[k - 1].labs l[k].labs = 0 then 19 else if cmpLs l[k - 1].labs l[k].labs = 1 then 16 else asE (l.drop k) := by
  rw [drop_cons (show k - 1 < l.length by omega), show k - 1 + 1 = k by omega, drop_cons h]
  rfl
theorem asE_end {l : List Ser} {k : Nat} (h : l.length ≤ k) : asE (l.drop (k - 1)) = 0 := by
  by_cases h1 : k - 1 < l.length
  · rw [drop_cons h1, List.drop_eq_nil_of_le (by omega)]; rfl
  · rw [List.drop_eq_nil_of_le (by omega)]; rfl

set_option maxRecDepth 100000 in
set_option maxHeartbeats 1600000 in
theorem ascR_any (w : World) (b : Nat) (A : Option Addr) (n c : Nat) (l : List Ser) (hn : n = l.length) (hm : n ≤ 1000000) (hr : Rd w b A (cR l)) (hok : ∀ s ∈ l, SerOk w s ∧ s.labs.length ≤ 1000000) :
    Calls Tryz.prog 27 #[.slice A n c, .func (.func 26) #[] #[], .int .i64 19] w fun e w' => e = .returned (.int .i64 (asE l : Nat)) ∧ Nw w w' := by
  subst hn
  have HR := Lib.hid hr
  have HOK := Lib.hid hok
  obtain ⟨C, hC⟩ : ∃ C, asE l = C := ⟨_, rfl⟩
  rw [hC]
  have HC := Lib.hid hC
  clear hr hC hok
  go_enter Tryz.func27, Tryz.ntmps27
  go_wp2
  go_step3
  go_wp2
  go_step3
  go_wp2
  go_loopw [7, 8] (fun v i wr => v = .int .i64 0 ∧ ∃ k : Nat, 1 ≤ k ∧ i = .int .i64 k ∧ (k ≤ l.length ∨ k = 1) ∧ Hid (C = asE (l.drop (k - 1))) ∧ Hid (Nw w wr)) (fun _ i _ => l.length - (intOf i).toNat)
  case atStart => exact ⟨rfl, 1, by omega, rfl, .inr rfl, Lib.hid HC.out.symm, Lib.hid (Nw.refl _)⟩
  case round =>
    obtain ⟨rfl, k, hk, rfl, hkl, HX, HN⟩ := hrel
    by_cases hlt : k < l.length
    · obtain ⟨m, rfl⟩ : ∃ m, k = m + 1 := ⟨k - 1, by omega⟩
      have hltI : (m : Int) + 1 < (l.length : Int) := by omega
      obtain ⟨o, rfl, hbw, hc0, hc1⟩ := two_at (HR.out.nw HN.out) hlt
      obtain ⟨o', e', _, hp0, hp1⟩ := two_at (HR.out.nw HN.out) (show m < l.length by omega)
      obtain rfl : o' = o := by injection e' with e'; injection e' with _ e' _; exact e'.symm
      have hX := HX.out
      rw [asE_step (by omega) hlt] at hX
      simp only [Nat.add_sub_cancel] at hX
      rw [show ((m + 1 : Nat) : Int) = (m : Int) + 1 from by push_cast; rfl]
      have HX2 := Lib.hid hX
      have HOx := Lib.hid (HOK.out l[m + 1] (List.getElem_mem hlt))
      have HOy := Lib.hid (HOK.out l[m] (List.getElem_mem (by omega)))
      generalize l[m + 1] = x at *
      generalize l[m] = y at *
      have j0 : (0 : Int) ≤ (m : Int) + 1 := by omega
      have j1 : (m : Int) < (l.length : Int) := by omega
      have j2 : ((m : Int) + 1).toNat = m + 1 := by omega
      have j3 : IntKind.i64.wrap (m : Int) = (m : Int) := IntWalk.i64_in _ (by omega)
      obtain ⟨s, hs⟩ : ∃ s, cmpLs y.labs x.labs = s := ⟨_, rfl⟩
      have hsin := cmpLs_in y.labs x.labs
      rw [hs] at hsin HX2
      have H0 : Hid (∀ W, Nw wr W → W.cell? ⟨b, o' + m * 2, none⟩ = some (.slice y.al y.labs.length y.cl) ∧ W.cell? ⟨b, o' + m * 2 + 1, none⟩ = some (.slice y.as_ y.smps.length y.cs) ∧ W.cell? ⟨b, o' + (m + 1) * 2, none⟩ = some (.slice x.al x.labs.length x.cl) ∧ W.cell? ⟨b, o' + (m + 1) * 2 + 1, none⟩ = some (.slice x.as_ x.smps.length x.cs)) :=
        Lib.hid fun W hN => ⟨cell_old hN hbw hp0, cell_old hN hbw hp1, cell_old hN hbw hc0, cell_old hN hbw hc1⟩
      have HB : Hid (∀ W, (W.cell? ⟨b, o' + m * 2, none⟩ = some (.slice y.al y.labs.length y.cl) ∧ W.cell? ⟨b, o' + m * 2 + 1, none⟩ = some (.slice y.as_ y.smps.length y.cs) ∧ W.cell? ⟨b, o' + (m + 1) * 2, none⟩ = some (.slice x.al x.labs.length x.cl) ∧ W.cell? ⟨b, o' + (m + 1) * 2 + 1, none⟩ = some (.slice x.as_ x.smps.length x.cs)) ∧ Nw wr W →
          Calls Tryz.prog 26 #[vSer y, vSer x] W fun e w' => e = .returned (.int .i64 s) ∧ ((w'.cell? ⟨b, o' + m * 2, none⟩ = some (.slice y.al y.labs.length y.cl) ∧ w'.cell? ⟨b, o' + m * 2 + 1, none⟩ = some (.slice y.as_ y.smps.length y.cs) ∧ w'.cell? ⟨b, o' + (m + 1) * 2, none⟩ = some (.slice x.al x.labs.length x.cl) ∧ w'.cell? ⟨b, o' + (m + 1) * 2 + 1, none⟩ = some (.slice x.as_ x.smps.length x.cs)) ∧ Nw wr w')) := by
        refine Lib.hid fun W hS => ?_
        have hNW := HN.out.trans hS.2
        have h := bySet_any W y x (HOy.out.1.nw hNW) (HOx.out.1.nw hNW) HOy.out.2 HOx.out.2
        rw [hs] at h
        refine h.mono ?_
        rintro e w' ⟨rfl, hG⟩
        have hN := hG.nw
        exact ⟨rfl, H0.out _ (hS.2.trans hN), hS.2.trans hN⟩
      have E0 := Lib.hid (And.intro (H0.out _ (Nw.refl wr)) (Nw.refl wr))
      have E1 := Lib.hid (And.intro (H0.out _ (Nw.drewO wr)) (Nw.drewO wr))
      clear hX HX hs
      go_wp2_with fail
      go_region_held3 (fun w' => (w'.cell? ⟨b, o' + m * 2, none⟩ = some (.slice y.al y.labs.length y.cl) ∧ w'.cell? ⟨b, o' + m * 2 + 1, none⟩ = some (.slice y.as_ y.smps.length y.cs) ∧ w'.cell? ⟨b, o' + (m + 1) * 2, none⟩ = some (.slice x.al x.labs.length x.cl) ∧ w'.cell? ⟨b, o' + (m + 1) * 2 + 1, none⟩ = some (.slice x.as_ x.smps.length x.cs)) ∧ Nw wr w')
        (first | exact E0.out | exact E1.out | exact hS)
        (first
          | (go_at_call 26; refine (HB.out _ (by assumption)).mono ?_; rintro e w5 ⟨rfl, hS⟩))
      have HNz := Lib.hid (HN.out.trans hS.2)
      clear hS
      rcases hsin with rfl | rfl | rfl
      · have HX3 := Lib.hid (show C = asE (l.drop (m + 1 + 1 - 1)) from by rw [HX2.out]; rfl)
        go_wp2_with fail
        go_roundw
        case rel => exact ⟨rfl, m + 1 + 1, by omega, by go_num, .inl (by omega), HX3, HNz⟩
        case measure => simp [intOf]; omega
      · have HX3 := Lib.hid (show C = 19 from by rw [HX2.out]; rfl)
        go_wp2_with fail
        try simp only [Exit.noGoto]
        go_ret
        rw [HX3.out]
        exact ⟨rfl, HNz.out⟩
      · have HX3 := Lib.hid (show C = 16 from by rw [HX2.out]; rfl)
        go_wp2_with fail
        try simp only [Exit.noGoto]
        go_ret
        rw [HX3.out]
        exact ⟨rfl, HNz.out⟩
    · have hX := HX.out
      rw [asE_end (by omega)] at hX
      have HX2 := Lib.hid hX
      have hltI : ¬ (k : Int) < (l.length : Int) := by omega
      clear hX HX
      go_wp2
      go_ret
      rw [HX2.out]
      exact ⟨rfl, HN.out⟩
end Go.Proofs.YtoogadidbbpplaaGreat
