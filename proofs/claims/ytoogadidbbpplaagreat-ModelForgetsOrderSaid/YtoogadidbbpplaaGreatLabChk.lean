/- Label sets checked: single and Check of labels, one and Check of the reference. -/
import Derived.Test.YtoogadidbbpplaaGreatCmpLs
namespace Go.Proofs.YtoogadidbbpplaaGreat
open Go Go.RowKit Go.Sort

def noName (a : ByteArray) : Bool := a.toList.isEmpty
/-- the error of a label by itself -/
def oneE (x : Lab) : Nat := if noName x.1 = true then 17 else if 65535 < x.1.size ∨ 65535 < x.2.size then 7 else 0

theorem single_any (w : World) (a b : ByteArray) :
    Calls Tryz.prog 43 #[.agg #[.string a, .string b]] w fun e w' => e = .returned (.int .i64 (oneE (a, b) : Nat)) ∧ Nw w w' := by
  have HE := Lib.hid (show oneE (a, b) = (if noName a = true then 17 else if 65535 < a.size ∨ 65535 < b.size then 7 else 0) from rfl)
  generalize oneE (a, b) = E at *
  cases h0 : noName a with
  | true =>
    have hE := HE.out
    rw [if_pos h0] at hE
    have HE2 := Lib.hid hE
    have h1 : a.toList.isEmpty = true := h0
    clear hE HE h0
    go_enter Tryz.func43, Tryz.ntmps43
    go_wp2
    go_ret
    rw [HE2.out]
    exact ⟨rfl, (Nw.refl _).alloc' _⟩
  | false =>
    have hE := HE.out
    rw [if_neg (by rw [h0]; simp)] at hE
    have h1 : a.toList.isEmpty = false := h0
    clear HE h0
    by_cases hc : 65535 < a.size ∨ 65535 < b.size
    · rw [if_pos hc] at hE
      have HE2 := Lib.hid hE
      clear hE
      by_cases hab : a.size < b.size
      · have habI : (a.size : Int) < (b.size : Int) := by omega
        have hb : (65535 : Int) < (b.size : Int) := by omega
        go_enter Tryz.func43, Tryz.ntmps43
        go_wp2
        go_ret
        rw [HE2.out]
        exact ⟨rfl, (Nw.refl _).alloc' _⟩
      · have habI : ¬ (a.size : Int) < (b.size : Int) := by omega
        have hb : (65535 : Int) < (a.size : Int) := by omega
        go_enter Tryz.func43, Tryz.ntmps43
        go_wp2
        go_ret
        rw [HE2.out]
        exact ⟨rfl, (Nw.refl _).alloc' _⟩
    · rw [if_neg hc] at hE
      have HE2 := Lib.hid hE
      have h2 : a.size ≤ 65535 := by omega
      have h3 : b.size ≤ 65535 := by omega
      clear hE hc
      by_cases hab : a.size < b.size
      · have habI : (a.size : Int) < (b.size : Int) := by omega
        have hb : ¬ (65535 : Int) < (b.size : Int) := by omega
        go_enter Tryz.func43, Tryz.ntmps43
        go_wp2
        go_ret
        rw [HE2.out]
        exact ⟨rfl, (Nw.refl _).alloc' _⟩
      · have habI : ¬ (a.size : Int) < (b.size : Int) := by omega
        have hb : ¬ (65535 : Int) < (a.size : Int) := by omega
        go_enter Tryz.func43, Tryz.ntmps43
        go_wp2
        go_ret
        rw [HE2.out]
        exact ⟨rfl, (Nw.refl _).alloc' _⟩
theorem one_any (w : World) (a b : ByteArray) :
    Calls Tryz.prog 55 #[.agg #[.string a, .string b]] w fun e w' => e = .returned (.int .i64 (oneE (a, b) : Nat)) ∧ Nw w w' := by
  have HE := Lib.hid (show oneE (a, b) = (if noName a = true then 17 else if 65535 < a.size ∨ 65535 < b.size then 7 else 0) from rfl)
  generalize oneE (a, b) = E at *
  cases h0 : noName a with
  | true =>
    have hE := HE.out
    rw [if_pos h0] at hE
    have HE2 := Lib.hid hE
    have h1 : a.toList.isEmpty = true := h0
    clear hE HE h0
    go_enter Tryz.func55, Tryz.ntmps55
    go_wp2
    go_ret
    rw [HE2.out]
    exact ⟨rfl, (Nw.refl _).alloc' _⟩
  | false =>
    have hE := HE.out
    rw [if_neg (by rw [h0]; simp)] at hE
    have h1 : a.toList.isEmpty = false := h0
    clear HE h0
    by_cases ha : 65535 < a.size
    · rw [if_pos (.inl ha)] at hE
      have HE2 := Lib.hid hE
      have haI : decide ((65535 : Int) < (a.size : Int)) = true := by rw [decide_eq_true_iff]; omega
      clear hE
      go_enter Tryz.func55, Tryz.ntmps55
      go_wp2
      go_ret
      rw [HE2.out]
      exact ⟨rfl, (Nw.refl _).alloc' _⟩
    · have haI : decide ((65535 : Int) < (a.size : Int)) = false := by rw [decide_eq_false_iff_not]; omega
      by_cases hb : 65535 < b.size
      · rw [if_pos (.inr hb)] at hE
        have HE2 := Lib.hid hE
        have hbI : decide ((65535 : Int) < (b.size : Int)) = true := by rw [decide_eq_true_iff]; omega
        clear hE
        go_enter Tryz.func55, Tryz.ntmps55
        go_wp2
        go_ret
        rw [HE2.out]
        exact ⟨rfl, (Nw.refl _).alloc' _⟩
      · have hbI : decide ((65535 : Int) < (b.size : Int)) = false := by rw [decide_eq_false_iff_not]; omega
        rw [if_neg (by rintro (h | h); exact ha h; exact hb h)] at hE
        have HE2 := Lib.hid hE
        clear hE
        go_enter Tryz.func55, Tryz.ntmps55
        go_wp2
        go_ret
        rw [HE2.out]
        exact ⟨rfl, (Nw.refl _).alloc' _⟩

def chkF : Option ByteArray → List Lab → Nat
  | _, [] => 0
  | none, x :: l => if oneE x ≠ 0 then oneE x else chkF (some x.1) l
  | some p, x :: l => if oneE x ≠ 0 then oneE x else if cmpS p x.1 = 0 then 18 else if cmpS p x.1 = 1 then 16 else chkF (some x.1) l
/-- the error of a label set -/
def chkL (l : List Lab) : Nat := chkF none l
def prevN (l : List Lab) (k : Nat) : Option ByteArray := if k = 0 then none else (l[k - 1]?).map (·.1)

set_option maxRecDepth 100000 in
set_option maxHeartbeats 1600000 in
theorem CheckL_any (w : World) (b : Nat) (A : Option Addr) (n c : Nat) (l : List Lab) (hn : n = l.length) (hm : n ≤ 1000000) (hr : Rd w b A (cL l)) :
    Calls Tryz.prog 48 #[.slice A n c] w fun e w' => e = .returned (.int .i64 (chkL l : Nat)) ∧ Nw w w' := by
  subst hn
  have HR := Lib.hid hr
  obtain ⟨C, hC⟩ : ∃ C, chkL l = C := ⟨_, rfl⟩
  rw [hC]
  have HC := Lib.hid hC
  have i0 : ∀ W, (Instr.index 81 (.agg partFs) (.int .i64 0)).run Tryz.prog W = .ok (.agg #[.func (.func 64) #[] #[]]) W := fun _ => by kernel_rfl
  have fl0 : ∀ W, (Instr.field 80 (.agg #[.func (.func 64) #[] #[]]) 0).run Tryz.prog W = .ok (.func (.func 64) #[] #[]) W := fun _ => by kernel_rfl
  clear hr hC
  go_enter Tryz.func48, Tryz.ntmps48
  go_wp2_with (first
    | (go_at_call 47; refine (parts_any _).mono ?_; rintro e w1 ⟨rfl, hgr⟩)
    | (go_at_call 46; refine (by_any _ _).mono ?_; rintro e w2 ⟨rfl, rfl⟩))
  generalize hw2 : w1.alloc (.cells #[.func (.func 64) #[] #[]] 78) = w2
  have hN2 : Nw w w2 := by rw [← hw2]; exact hgr.nw.alloc' _
  have hbk : w2.heap[w1.heap.size]? = some (.cells #[.func (.func 64) #[] #[]] 78 (0, 0)) := by rw [← hw2]; exact heap_alloc_new _ _
  obtain ⟨gb, hgb⟩ : ∃ g, g = w1.heap.size := ⟨_, rfl⟩
  rw [← hgb] at hbk ⊢
  have hgl := lt_of_block hbk
  have HBK := Lib.hid hbk
  have HN2 := Lib.hid hN2
  clear hw2 hgb hgr hN2 hbk
  go_loopw [13] (fun i wr => ∃ k : Nat, k ≤ l.length ∧ i = .int .i64 k ∧ Hid (C = chkF (prevN l k) (l.drop k)) ∧ Hid (Nw w2 wr)) (fun i _ => l.length - (intOf i).toNat)
  case atStart => exact ⟨0, by omega, rfl, Lib.hid (by rw [← HC.out]; rfl), Lib.hid (Nw.refl _)⟩
  case round =>
    obtain ⟨k, hk, rfl, HX, HN⟩ := hrel
    by_cases hlt : k < l.length
    · have hltI : (k : Int) < (l.length : Int) := by omega
      obtain ⟨o, rfl, hbw, hc0, hc1⟩ := two_at ((HR.out.nw HN2.out).nw HN.out) hlt
      have hX := HX.out
      rw [drop_cons hlt] at hX
      have HPX := Lib.hid (show prevN l (k + 1) = some l[k].1 from by unfold prevN; rw [if_neg (by omega), Nat.add_sub_cancel, List.getElem?_eq_getElem hlt]; rfl)
      have HPV := Lib.hid fun (h : k - 1 < l.length) => two_at ((HR.out.nw HN2.out).nw HN.out) h
      generalize l[k] = x at *
      obtain ⟨a, d⟩ := x
      dsimp only at hc0 hc1 HPX
      have HS := Lib.hid fun W => single_any W a d
      obtain ⟨E, hE⟩ : ∃ E, oneE (a, d) = E := ⟨_, rfl⟩
      rw [hE] at HS
      have HE := Lib.hid hE
      have hNA : Nw w2 (wr.alloc (.cells #[.string a, .string d] 47)) := HN.out.alloc' _
      have HNA := Lib.hid hNA
      have hbx : (wr.alloc (.cells #[.string a, .string d] 47)).heap[wr.heap.size]? = some (.cells #[.string a, .string d] 47 (0, 0)) := heap_alloc_new _ _
      clear hE hNA
      by_cases hE0 : E = 0
      · have hE1 : ((E : Int) != 0) = false := by rw [bne_eq_false_iff_eq]; omega
        by_cases hk0 : k = 0
        · subst hk0
          rw [show prevN l 0 = none from rfl] at hX
          have HX2 := Lib.hid (show C = chkF (some a) (l.drop 1) from by
            rw [hX]
            show (if oneE (a, d) ≠ 0 then oneE (a, d) else chkF (some a) (l.drop (0 + 1))) = _
            rw [if_neg (by rw [HE.out]; simp [hE0])])
          simp only [Nat.zero_mul, Nat.add_zero] at hc0 hc1
          clear hX HX
          go_wp2_with (go_at_call 43; refine (HS.out _).mono ?_; rintro e w3 ⟨rfl, hN3⟩)
          go_roundw
          case rel => exact ⟨1, by omega, by go_num, by rw [HPX.out]; exact HX2, Lib.hid (HNA.out.trans hN3)⟩
          case measure => simp [intOf]; omega
        · have hk0' : ((k : Int) == 0) = false := by rw [beq_eq_false_iff_ne]; omega
          have j0 : (0 : Int) ≤ (k : Int) - 1 := by omega
          have j1 : (k : Int) - 1 < (l.length : Int) := by omega
          have j2 : ((k : Int) - 1).toNat = k - 1 := by omega
          obtain ⟨o', e', _, hp0, hp1⟩ := HPV.out (by omega)
          obtain rfl : o' = o := by injection e' with e'; injection e' with _ e' _; exact e'.symm
          have HPP := Lib.hid (show prevN l k = some l[k - 1].1 from by unfold prevN; rw [if_neg hk0, List.getElem?_eq_getElem (by omega)]; rfl)
          generalize l[k - 1] = y at *
          obtain ⟨p, r⟩ := y
          dsimp only at hp0 hp1 HPP
          rw [HPP.out] at hX
          obtain ⟨s, hs⟩ : ∃ s, cmpS p a = s := ⟨_, rfl⟩
          have hsin := cmpS_in p a
          rw [hs] at hsin
          have HX2 := Lib.hid (show C = if s = 0 then 18 else if s = 1 then 16 else chkF (some a) (l.drop (k + 1)) from by
            rw [hX]
            show (if oneE (a, d) ≠ 0 then oneE (a, d) else if cmpS p a = 0 then 18 else if cmpS p a = 1 then 16 else chkF (some a) (l.drop (k + 1))) = _
            rw [if_neg (by rw [HE.out]; simp [hE0]), hs])
          have HCL := Lib.hid fun W (h : W.cell? ⟨gb, 0, none⟩ = some (.func (.func 64) #[] #[])) => byC1_any W gb p r a d h
          rw [hs] at HCL
          clear hX HX hs
          go_wp2_with (go_at_call 43; refine (HS.out _).mono ?_; rintro e w3 ⟨rfl, hN3⟩)
          have hNW := HN.out.trans (((Nw.refl wr).alloc' _).trans hN3)
          have hNr : Nw wr w3 := ((Nw.refl wr).alloc' _).trans hN3
          have hx3 := (hN3.block _ (lt_of_block hbx)).trans hbx
          have hxl := lt_of_block hx3
          have hg3 := (hNW.block gb hgl).trans HBK.out
          have hg3l := lt_of_block hg3
          have hbw3 : b < w3.heap.size := Nat.lt_of_lt_of_le hbw hNr.size
          have q0 : ∀ p' : Gp, (grow (w3.drewN p'.n) p'.os).cell? ⟨b, o' + (k - 1) * 2, none⟩ = some (.string p) := cell_gr hbw3 (cell_old hNr hbw hp0)
          have q1 : ∀ p' : Gp, (grow (w3.drewN p'.n) p'.os).cell? ⟨b, o' + (k - 1) * 2 + 1, none⟩ = some (.string r) := cell_gr hbw3 (cell_old hNr hbw hp1)
          have q2 : ∀ p' : Gp, (grow (w3.drewN p'.n) p'.os).cell? ⟨wr.heap.size, 0, none⟩ = some (.string a) := cell_gr hxl (by simp [World.cell?, hx3])
          have q3 : ∀ p' : Gp, (grow (w3.drewN p'.n) p'.os).cell? ⟨wr.heap.size, 1, none⟩ = some (.string d) := cell_gr hxl (by simp [World.cell?, hx3])
          have q4 : ∀ p' : Gp, (grow (w3.drewN p'.n) p'.os).cell? ⟨gb, 0, none⟩ = some (.func (.func 64) #[] #[]) := cell_gr hg3l (by simp [World.cell?, hg3])
          have Q4 := Lib.hid q4
          have j3 : IntKind.i64.wrap ((k : Int) - 1) = (k : Int) - 1 := IntWalk.i64_in _ (by omega)
          go_wp2_with fail
          refine wp_region_gr (by kernel_rfl) (by kernel_rfl) ?_
          repeat (go_big_quiet_step (first | (go_at_call 62; refine Calls.gr (HCL.out _ (Q4.out _)))))
          refine wpQuiet_nil ?_
          rintro _ ⟨p', rfl⟩
          have HNZ := Lib.hid (HN.out.trans (hNr.trans (Gr.nw ⟨p', rfl⟩ : Nw w3 _)))
          rcases hsin with rfl | rfl | rfl
          · have HX3 := Lib.hid (show C = chkF (some a) (l.drop (k + 1)) from by rw [HX2.out]; rfl)
            go_wp2_with fail
            go_roundw
            case rel => exact ⟨k + 1, by omega, by go_num, by rw [HPX.out]; exact HX3, HNZ⟩
            case measure => simp [intOf]; omega
          · have HX3 := Lib.hid (show C = 18 from by rw [HX2.out]; rfl)
            go_wp2_with fail
            go_ret
            rw [HX3.out]
            exact ⟨rfl, HN2.out.trans HNZ.out⟩
          · have HX3 := Lib.hid (show C = 16 from by rw [HX2.out]; rfl)
            go_wp2_with fail
            go_ret
            rw [HX3.out]
            exact ⟨rfl, HN2.out.trans HNZ.out⟩
      · have hE1 : ((E : Int) != 0) = true := by rw [bne_iff_ne]; omega
        have HX2 := Lib.hid (show C = E from by
          rw [hX]
          cases prevN l k with
          | none =>
            show (if oneE (a, d) ≠ 0 then oneE (a, d) else _) = _
            rw [if_pos (by rw [HE.out]; exact hE0), HE.out]
          | some q =>
            show (if oneE (a, d) ≠ 0 then oneE (a, d) else _) = _
            rw [if_pos (by rw [HE.out]; exact hE0), HE.out])
        clear hX HX
        go_wp2_with (go_at_call 43; refine (HS.out _).mono ?_; rintro e w3 ⟨rfl, hN3⟩)
        go_ret
        rw [HX2.out]
        exact ⟨rfl, HN2.out.trans (HNA.out.trans hN3)⟩
    · obtain rfl : k = l.length := by omega
      have hX := HX.out
      rw [List.drop_length] at hX
      have HX2 := Lib.hid (show C = 0 from by rw [hX]; cases prevN l l.length <;> rfl)
      go_wp2
      go_ret
      rw [HX2.out]
      exact ⟨rfl, HN2.out.trans HN.out⟩
end Go.Proofs.YtoogadidbbpplaaGreat
