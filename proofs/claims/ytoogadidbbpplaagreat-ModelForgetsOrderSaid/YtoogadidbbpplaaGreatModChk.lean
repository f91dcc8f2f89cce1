/- A list of series checked: Check of model and of its reference. -/
import Derived.Test.YtoogadidbbpplaaGreatSerChk
namespace Go.Proofs.YtoogadidbbpplaaGreat
open Go Go.RowKit Go.Sort

def chkB : Option Ser → List Ser → Nat
  | _, [] => 0
  | none, x :: l => if serE x ≠ 0 then serE x else chkB (some x) l
  | some p, x :: l => if serE x ≠ 0 then serE x else if cmpLs p.labs x.labs = 0 then 19 else if cmpLs p.labs x.labs = 1 then 16 else chkB (some x) l
/-- the error of a list of series as a block -/
def blkE (l : List Ser) : Nat := chkB none l
def prevS (l : List Ser) (k : Nat) : Option Ser := if k = 0 then none else l[k - 1]?
theorem chkB_err {p : Option Ser} {x : Ser} {l : List Ser} (h : serE x ≠ 0) : chkB p (x :: l) = serE x := by
  cases p with
  | none => show (if serE x ≠ 0 then serE x else _) = _; rw [if_pos h]
  | some p => show (if serE x ≠ 0 then serE x else _) = _; rw [if_pos h]
theorem chkB_fst {x : Ser} {l : List Ser} (h : serE x = 0) : chkB none (x :: l) = chkB (some x) l := by
  show (if serE x ≠ 0 then serE x else _) = _
  rw [if_neg (by simp [h])]
theorem chkB_nxt {p x : Ser} {l : List Ser} (h : serE x = 0) : chkB (some p) (x :: l) = if cmpLs p.labs x.labs = 0 then 19 else if cmpLs p.labs x.labs = 1 then 16 else chkB (some x) l := by
  show (if serE x ≠ 0 then serE x else _) = _
  rw [if_neg (by simp [h])]
theorem prevS_succ {l : List Ser} {k : Nat} (h : k < l.length) : prevS l (k + 1) = some l[k] := by
  unfold prevS; rw [if_neg (by omega), Nat.add_sub_cancel, List.getElem?_eq_getElem h]
/-- a piece of a list of series lies where it lies -/
theorem rd_two {w : World} {b o : Nat} {y x : Ser} (hb : b < w.heap.size) (h0 : w.cell? ⟨b, o, none⟩ = some (.slice y.al y.labs.length y.cl)) (h1 : w.cell? ⟨b, o + 1, none⟩ = some (.slice y.as_ y.smps.length y.cs))
    (h2 : w.cell? ⟨b, o + 2, none⟩ = some (.slice x.al x.labs.length x.cl)) (h3 : w.cell? ⟨b, o + 3, none⟩ = some (.slice x.as_ x.smps.length x.cs)) : Rd w b (some ⟨b, o, none⟩) (cR [y, x]) :=
  .inr ⟨o, rfl, hb, fun j u hu => by
    match j, hu with
    | 0, hu => obtain rfl : _ = u := by simpa [cR, c2] using hu
               exact h0
    | 1, hu => obtain rfl : _ = u := by simpa [cR, c2] using hu
               exact h1
    | 2, hu => obtain rfl : _ = u := by simpa [cR, c2] using hu
               exact h2
    | 3, hu => obtain rfl : _ = u := by simpa [cR, c2] using hu
               exact h3
    | j + 4, hu => simp [cR, c2] at hu⟩
theorem rd_one {w : World} {b o : Nat} {x : Ser} (hb : b < w.heap.size) (h0 : w.cell? ⟨b, o, none⟩ = some (.slice x.al x.labs.length x.cl)) (h1 : w.cell? ⟨b, o + 1, none⟩ = some (.slice x.as_ x.smps.length x.cs)) : Rd w b (some ⟨b, o, none⟩) (cR [x]) :=
  .inr ⟨o, rfl, hb, fun j u hu => by
    match j, hu with
    | 0, hu => obtain rfl : _ = u := by simpa [cR, c2] using hu
               exact h0
    | 1, hu => obtain rfl : _ = u := by simpa [cR, c2] using hu
               exact h1
    | j + 2, hu => simp [cR, c2] at hu⟩
theorem le_sum {l : List Ser} {s : Ser} (h : s ∈ l) : s.smps.length ≤ smpSum l := by
  induction l with
  | nil => cases h
  | cons x l ih =>
    show _ ≤ ((x :: l).map _).sum
    rw [List.map_cons, List.sum_cons]
    rcases List.mem_cons.1 h with rfl | h
    · omega
    · have := ih h; unfold smpSum at this; omega

set_option maxRecDepth 100000 in
set_option maxHeartbeats 1600000 in
theorem Check_any (w : World) (b : Nat) (A : Option Addr) (n c : Nat) (l : List Ser) (hI : InSer w b A n c l) (hs : smpSum l ≤ 100000) (hn : n ≤ 100000) (hL : ∀ s ∈ l, s.labs.length ≤ 1000000) :
    Calls Tryz.prog 10 #[.slice A n c] w fun e w' => e = .returned (.int .i64 (blkE l : Nat)) ∧ Nw w w' := by
  have HK := Lib.hid (check_any w b A n c l hI hs hn)
  have hl := hI.len
  subst hl
  have HR := Lib.hid hI.rd
  have hcap := hI.cap
  have hmax := hI.max
  have HOK := Lib.hid fun s (h : s ∈ l) => And.intro (hI.ok s h) (And.intro (hL s h) (show s.smps.length ≤ 1000000 from by have := le_sum h; omega))
  obtain ⟨C, hC⟩ : ∃ C, blkE l = C := ⟨_, rfl⟩
  rw [hC]
  have HC := Lib.hid hC
  clear hI hC hs hL
  go_enter Tryz.func10, Tryz.ntmps10
  go_wp2_with (go_at_call 20; refine HK.out.mono ?_; rintro e w1 ⟨rfl, hN1⟩)
  have HN1 := Lib.hid hN1
  clear hN1
  go_loopw [15] (fun i wr => ∃ k : Nat, k ≤ l.length ∧ i = .int .i64 k ∧ Hid (C = chkB (prevS l k) (l.drop k)) ∧ Hid (Nw w wr)) (fun i _ => l.length - (intOf i).toNat)
  case atStart => exact ⟨0, by omega, rfl, Lib.hid (by rw [← HC.out]; rfl), HN1⟩
  case round =>
    obtain ⟨k, hk, rfl, HX, HN⟩ := hrel
    by_cases hlt : k < l.length
    · have hltI : (k : Int) < (l.length : Int) := by omega
      obtain ⟨o, rfl, hbw, hc0, hc1⟩ := two_at (HR.out.nw HN.out) hlt
      have hX := HX.out
      rw [drop_cons hlt] at hX
      have HPX := Lib.hid (prevS_succ hlt)
      have HPV := Lib.hid fun (h : k - 1 < l.length) => two_at (HR.out.nw HN.out) h
      have HOx := Lib.hid (HOK.out l[k] (List.getElem_mem hlt))
      generalize l[k] = x at *
      have HS := Lib.hid fun W (hN : Nw wr W) => singleSer_any W x ((HOx.out.1.nw HN.out).nw hN) HOx.out.2.1 HOx.out.2.2
      obtain ⟨E, hE⟩ : ∃ E, serE x = E := ⟨_, rfl⟩
      rw [hE] at HS
      have HE := Lib.hid hE
      have hNA : Nw wr (wr.alloc (.cells #[.slice x.al x.labs.length x.cl, .slice x.as_ x.smps.length x.cs] 37)) := (Nw.refl wr).alloc' _
      clear hE
      by_cases hE0 : E = 0
      · have hE1 : ((E : Int) != 0) = false := by rw [bne_eq_false_iff_eq]; omega
        have HE0 := Lib.hid (HE.out.trans hE0)
        by_cases hk0 : k = 0
        · subst hk0
          rw [show prevS l 0 = none from rfl, chkB_fst HE0.out] at hX
          have HX2 := Lib.hid hX
          simp only [Nat.zero_mul, Nat.add_zero] at hc0 hc1
          have HOz := Lib.hid fun W (hN : Nw wr W) => (show ∀ s ∈ [x], SerOk W s ∧ s.labs.length ≤ 1000000 from by
            intro s hs
            obtain rfl : s = x := List.mem_singleton.1 hs
            exact ⟨(HOx.out.1.nw HN.out).nw hN, HOx.out.2.1⟩)
          have HA := Lib.hid fun W (hN : Nw wr W) => ascR_any W b (some ⟨b, o, none⟩) 1 c [x] rfl (by omega) (rd_one (Nat.lt_of_lt_of_le hbw hN.size) (cell_old hN hbw hc0) (cell_old hN hbw hc1)) (HOz.out W hN)
          rw [show asE [x] = 0 from rfl] at HA
          have i1 : ¬ (c = 0) := by omega
          have i2 : (1 : Int) ≤ (c : Int) := by omega
          clear hX HX
          go_wp2_with (first
            | (go_at_call 27; refine (HA.out _ (hNA.trans hN3)).mono ?_; rintro e w4 ⟨rfl, hN4⟩)
            | (go_at_call 24; refine (HS.out _ hNA).mono ?_; rintro e w3 ⟨rfl, hN3⟩))
          go_roundw
          case rel => exact ⟨1, by omega, by go_num, by rw [HPX.out]; exact HX2, Lib.hid (HN.out.trans ((hNA.trans hN3).trans hN4))⟩
          case measure => simp [intOf]; omega
        · obtain ⟨m, rfl⟩ : ∃ m, k = m + 1 := ⟨k - 1, by omega⟩
          obtain ⟨o', e', _, hp0, hp1⟩ := HPV.out (by omega)
          obtain rfl : o' = o := by injection e' with e'; injection e' with _ e' _; exact e'.symm
          have HOy := Lib.hid (HOK.out l[m + 1 - 1] (List.getElem_mem (by omega)))
          have HPP := Lib.hid (prevS_succ (show m < l.length by omega))
          simp only [Nat.add_sub_cancel] at hp0 hp1 HOy
          generalize l[m] = y at *
          rw [HPP.out, chkB_nxt HE0.out] at hX
          rw [show o' + (m + 1) * 2 = o' + m * 2 + 2 by omega] at hc0 hc1
          have hF : C = if asE [y, x] ≠ 0 then asE [y, x] else chkB (some x) (l.drop (m + 1 + 1)) := by
            rw [hX, show asE [y, x] = if cmpLs y.labs x.labs = 0 then 19 else if cmpLs y.labs x.labs = 1 then 16 else 0 from rfl]
            rcases cmpLs_in y.labs x.labs with h | h | h <;> rw [h] <;> rfl
          have HOz := Lib.hid fun W (hN : Nw wr W) => (show ∀ s ∈ [y, x], SerOk W s ∧ s.labs.length ≤ 1000000 from by
            intro s hs
            rcases List.mem_cons.1 hs with rfl | hs
            · exact ⟨(HOy.out.1.nw HN.out).nw hN, HOy.out.2.1⟩
            · obtain rfl : s = x := List.mem_singleton.1 hs
              exact ⟨(HOx.out.1.nw HN.out).nw hN, HOx.out.2.1⟩)
          have HA := Lib.hid fun W (hN : Nw wr W) => ascR_any W b (some ⟨b, o' + m * 2, none⟩) 2 (c - m) [y, x] rfl (by omega) (rd_two (Nat.lt_of_lt_of_le hbw hN.size) (cell_old hN hbw hp0) (cell_old hN hbw hp1) (cell_old hN hbw hc0) (cell_old hN hbw hc1)) (HOz.out W hN)
          obtain ⟨F, hFF⟩ : ∃ F, asE [y, x] = F := ⟨_, rfl⟩
          rw [hFF] at hF HA
          have i1 : ¬ (c = m) := by omega
          have i2 : (m : Int) + 1 + 1 ≤ (c : Int) := by omega
          have i3 : IntKind.i64.wrap (m : Int) = (m : Int) := IntWalk.i64_in _ (by omega)
          have i4 : ¬ ((m : Int) < 0) := by omega
          have i5 : IntKind.i64.wrap ((m : Int) + 1 + 1) = (m : Int) + 1 + 1 := IntWalk.i64_in _ (by omega)
          have i6 : ((m : Int) + 1 + 1).toNat = m + 2 := by omega
          rw [show ((m + 1 : Nat) : Int) = (m : Int) + 1 from by push_cast; rfl] at hltI ⊢
          have i7 : (0 : Int) ≤ (m : Int) + 1 := by omega
          have i8 : ((m : Int) + 1).toNat = m + 1 := by omega
          have i9 : (m : Int) ≤ (m : Int) + 1 + 1 := by omega
          have i10 : (0 : Int) ≤ (m : Int) + 1 + 1 := by omega
          rw [show o' + m * 2 + 2 = o' + (m + 1) * 2 by omega] at hc0 hc1
          clear hX HX hFF
          by_cases hF0 : F = 0
          · have hF1 : ((F : Int) != 0) = false := by rw [bne_eq_false_iff_eq]; omega
            rw [if_neg (by simp [hF0])] at hF
            have HX2 := Lib.hid hF
            clear hF
            go_wp2_with (first
              | (go_at_call 27; refine (HA.out _ (hNA.trans hN3)).mono ?_; rintro e w4 ⟨rfl, hN4⟩)
              | (go_at_call 24; refine (HS.out _ hNA).mono ?_; rintro e w3 ⟨rfl, hN3⟩))
            go_roundw
            case rel => exact ⟨m + 1 + 1, by omega, by go_num, by rw [HPX.out]; exact HX2, Lib.hid (HN.out.trans ((hNA.trans hN3).trans hN4))⟩
            case measure => simp [intOf]; omega
          · have hF1 : ((F : Int) != 0) = true := by rw [bne_iff_ne]; omega
            rw [if_pos hF0] at hF
            have HX2 := Lib.hid hF
            clear hF
            go_wp2_with (first
              | (go_at_call 27; refine (HA.out _ (hNA.trans hN3)).mono ?_; rintro e w4 ⟨rfl, hN4⟩)
              | (go_at_call 24; refine (HS.out _ hNA).mono ?_; rintro e w3 ⟨rfl, hN3⟩))
            go_ret
            rw [HX2.out]
            exact ⟨rfl, HN.out.trans ((hNA.trans hN3).trans hN4)⟩
      · have hE1 : ((E : Int) != 0) = true := by rw [bne_iff_ne]; omega
        have HX2 := Lib.hid (show C = E from by rw [hX, chkB_err (by rw [HE.out]; exact hE0), HE.out])
        clear hX HX
        go_wp2_with (go_at_call 24; refine (HS.out _ hNA).mono ?_; rintro e w3 ⟨rfl, hN3⟩)
        go_ret
        rw [HX2.out]
        exact ⟨rfl, HN.out.trans (hNA.trans hN3)⟩
    · obtain rfl : k = l.length := by omega
      have hX := HX.out
      rw [List.drop_length] at hX
      have HX2 := Lib.hid (show C = 0 from by rw [hX]; cases prevS l l.length <;> rfl)
      go_wp2
      go_ret
      rw [HX2.out]
      exact ⟨rfl, HN.out⟩

end Go.Proofs.YtoogadidbbpplaaGreat
