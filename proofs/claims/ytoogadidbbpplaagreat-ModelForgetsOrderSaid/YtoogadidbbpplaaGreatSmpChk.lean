/- Samples in order: byTime, ascending, the reference's times. -/
import Derived.Test.YtoogadidbbpplaaGreatLabChkR
import Derived.WalkMore
namespace Go.Proofs.YtoogadidbbpplaaGreat
open Go Go.RowKit Go.Sort

def cmpI (a b : Int) : Int := if a < b then -1 else if b < a then 1 else 0
theorem isNaNI_any (w : World) (a : Int) : Calls Tryz.prog 68 #[.int .i64 a] w fun e w' => e = .returned (.bool false) ∧ w = w' := by
  go_enter Tryz.func68, Tryz.ntmps68
  go_wp2
  go_ret
  exact ⟨by simp, rfl⟩
theorem CompareI_any (w : World) (a b : Int) : Calls Tryz.prog 50 #[.int .i64 a, .int .i64 b] w fun e w' => e = .returned (.int .i64 (cmpI a b)) ∧ w = w' := by
  have HC := Lib.hid (show cmpI a b = (if a < b then -1 else if b < a then 1 else 0) from rfl)
  generalize cmpI a b = C at *
  by_cases h1 : a < b
  · have hC := HC.out
    rw [if_pos h1] at hC
    subst hC
    go_enter Tryz.func50, Tryz.ntmps50
    go_wp2_with (go_at_call 68; refine (isNaNI_any _ _).mono ?_; rintro e w1 ⟨rfl, hw⟩; subst hw)
    go_ret
    exact ⟨rfl, rfl⟩
  · by_cases h2 : b < a
    · have hC := HC.out
      rw [if_neg h1, if_pos h2] at hC
      subst hC
      go_enter Tryz.func50, Tryz.ntmps50
      go_wp2_with (go_at_call 68; refine (isNaNI_any _ _).mono ?_; rintro e w1 ⟨rfl, hw⟩; subst hw)
      go_ret
      exact ⟨rfl, rfl⟩
    · have hC := HC.out
      rw [if_neg h1, if_neg h2] at hC
      subst hC
      go_enter Tryz.func50, Tryz.ntmps50
      go_wp2_with (go_at_call 68; refine (isNaNI_any _ _).mono ?_; rintro e w1 ⟨rfl, hw⟩; subst hw)
      go_ret
      exact ⟨rfl, rfl⟩
theorem byTime_any (w : World) (a b : Int) (u v : Nat) :
    Calls Tryz.prog 23 #[.agg #[.int .i64 a, .int .u64 (u : Int)], .agg #[.int .i64 b, .int .u64 (v : Int)]] w fun e w' => e = .returned (.int .i64 (cmpI a b)) ∧ Gr w w' := by
  go_enter Tryz.func23, Tryz.ntmps23
  go_wp2_with (go_at_call 50; refine (CompareI_any _ _ _).mono ?_; rintro e w1 ⟨rfl, hw⟩; subst hw)
  go_ret
  exact ⟨rfl, (Gr.alloc _ _).trans (Gr.alloc _ _)⟩

/-- the error of samples behind one -/
def tmF : Int → List Smpl → Nat
  | _, [] => 0
  | p, x :: l => if x.1 = p then 20 else if x.1 < p then 16 else tmF x.1 l
def tmE : List Smpl → Nat
  | [] => 0
  | x :: l => tmF x.1 l
theorem tmE_step {l : List Smpl} {k : Nat} (h0 : 0 < k) (h : k < l.length) : tmE (l.drop (k - 1)) = if l[k].1 = l[k - 1].1 then 20 else if l[k].1 < l[k - 1].1 then 16 else tmE (l.drop k) := by
  rw [drop_cons (show k - 1 < l.length by omega), show k - 1 + 1 = k by omega, drop_cons h]
  rfl
theorem tmE_end {l : List Smpl} {k : Nat} (h : l.length ≤ k) : tmE (l.drop (k - 1)) = 0 := by
  by_cases h1 : k - 1 < l.length
  · rw [drop_cons h1, List.drop_eq_nil_of_le (by omega)]; rfl
  · rw [List.drop_eq_nil_of_le (by omega)]; rfl

set_option maxRecDepth 100000 in
theorem times_any (w : World) (b : Nat) (A : Option Addr) (n c : Nat) (l : List Smpl) (hn : n = l.length) (hm : n ≤ 1000000) (hr : Rd w b A (cS l)) :
    Calls Tryz.prog 31 #[.slice A n c] w fun e w' => e = .returned (.int .i64 (tmE l : Nat)) ∧ Dr w w' := by
  subst hn
  have HR := Lib.hid hr
  obtain ⟨C, hC⟩ : ∃ C, tmE l = C := ⟨_, rfl⟩
  rw [hC]
  have HC := Lib.hid hC
  clear hr hC
  go_enter Tryz.func31, Tryz.ntmps31
  go_wp2
  go_loopw [3] (fun i wr => ∃ k : Nat, 1 ≤ k ∧ i = .int .i64 k ∧ (k ≤ l.length ∨ k = 1) ∧ Hid (C = tmE (l.drop (k - 1))) ∧ Hid (Dr w wr)) (fun i _ => l.length - (intOf i).toNat)
  case atStart => exact ⟨1, by omega, rfl, .inr rfl, Lib.hid HC.out.symm, Lib.hid (Dr.refl _)⟩
  case round =>
    obtain ⟨k, hk, rfl, hkl, HX, HD⟩ := hrel
    by_cases hlt : k < l.length
    · have hltI : (k : Int) < (l.length : Int) := by omega
      obtain ⟨o, rfl, hbw, hc0, _⟩ := two_at (HR.out.nw HD.out.nw) hlt
      obtain ⟨o', e', _, hp0, _⟩ := two_at (HR.out.nw HD.out.nw) (show k - 1 < l.length by omega)
      obtain rfl : o' = o := by injection e' with e'; injection e' with _ e' _; exact e'.symm
      have hX := HX.out
      rw [tmE_step (by omega) hlt] at hX
      have HX2 := Lib.hid hX
      generalize l[k].1 = a at *
      generalize l[k - 1].1 = p at *
      have j0 : (0 : Int) ≤ (k : Int) - 1 := by omega
      have j1 : (k : Int) - 1 < (l.length : Int) := by omega
      have j2 : ((k : Int) - 1).toNat = k - 1 := by omega
      have HCE := Lib.hid fun W (hN : Nw wr W) => And.intro (cell_old hN hbw hc0) (cell_old hN hbw hp0)
      clear hX HX
      go_wp2_with fail
      go_quiet (fail)
      have HDq := Lib.hid (HD.out.step nq)
      obtain ⟨d0, d1⟩ := HCE.out _ (Nw.drewN wr nq)
      generalize World.drewN wr nq = wq at *
      clear hc0 hp0
      by_cases h1 : a = p
      · have h1b : (a == p) = true := by rw [beq_iff_eq]; exact h1
        have HX3 := Lib.hid (show C = 20 from by rw [HX2.out, if_pos h1])
        clear h1
        go_wp2_with fail
        go_ret
        rw [HX3.out]
        exact ⟨rfl, HDq.out⟩
      · have h1b : (a == p) = false := by rw [beq_eq_false_iff_ne]; exact h1
        go_wp2_with fail
        go_quiet (fail)
        have HDz := Lib.hid (HDq.out.step nq)
        generalize World.drewN wq nq = wz at *
        by_cases h2 : a < p
        · have HX3 := Lib.hid (show C = 16 from by rw [HX2.out, if_neg h1, if_pos h2])
          go_wp2_with fail
          go_ret
          rw [HX3.out]
          exact ⟨rfl, HDz.out⟩
        · have HX3 := Lib.hid (show C = tmE (l.drop (k + 1 - 1)) from by rw [HX2.out, if_neg h1, if_neg h2]; rfl)
          go_wp2_with fail
          go_roundw
          case rel => exact ⟨k + 1, by omega, by go_num, .inl (by omega), HX3, HDz⟩
          case measure => simp [intOf]; omega
    · have hX := HX.out
      rw [tmE_end (by omega)] at hX
      have HX2 := Lib.hid hX
      have hltI : ¬ (k : Int) < (l.length : Int) := by omega
      clear hX HX
      go_wp2
      go_ret
      rw [HX2.out]
      exact ⟨rfl, HD.out⟩

set_option maxRecDepth 100000 in
set_option maxHeartbeats 1600000 in
theorem ascS_any (w : World) (b : Nat) (A : Option Addr) (n c : Nat) (l : List Smpl) (hn : n = l.length) (hm : n ≤ 1000000) (hr : Rd w b A (cS l)) :
    Calls Tryz.prog 51 #[.slice A n c, .func (.func 23) #[] #[], .int .i64 20] w fun e w' => e = .returned (.int .i64 (tmE l : Nat)) ∧ Nw w w' := by
  subst hn
  have HR := Lib.hid hr
  obtain ⟨C, hC⟩ : ∃ C, tmE l = C := ⟨_, rfl⟩
  rw [hC]
  have HC := Lib.hid hC
  clear hr hC
  go_enter Tryz.func51, Tryz.ntmps51
  go_wp2
  go_step3
  go_wp2
  go_step3
  go_wp2
  go_loopw [7, 8] (fun v i wr => v = .int .i64 0 ∧ ∃ k : Nat, 1 ≤ k ∧ i = .int .i64 k ∧ (k ≤ l.length ∨ k = 1) ∧ Hid (C = tmE (l.drop (k - 1))) ∧ Hid (Nw w wr)) (fun _ i _ => l.length - (intOf i).toNat)
  case atStart => exact ⟨rfl, 1, by omega, rfl, .inr rfl, Lib.hid HC.out.symm, Lib.hid (Nw.refl _)⟩
  case round =>
    obtain ⟨rfl, k, hk, rfl, hkl, HX, HN⟩ := hrel
    by_cases hlt : k < l.length
    · have hltI : (k : Int) < (l.length : Int) := by omega
      obtain ⟨o, rfl, hbw, hc0, hc1⟩ := two_at (HR.out.nw HN.out) hlt
      obtain ⟨o', e', _, hp0, hp1⟩ := two_at (HR.out.nw HN.out) (show k - 1 < l.length by omega)
      obtain rfl : o' = o := by injection e' with e'; injection e' with _ e' _; exact e'.symm
      have hX := HX.out
      rw [tmE_step (by omega) hlt] at hX
      have HX2 := Lib.hid hX
      generalize l[k] = x at *
      generalize l[k - 1] = y at *
      obtain ⟨a, u⟩ := x
      obtain ⟨p, v⟩ := y
      dsimp only at hc0 hc1 hp0 hp1 HX2
      have j0 : (0 : Int) ≤ (k : Int) - 1 := by omega
      have j1 : (k : Int) - 1 < (l.length : Int) := by omega
      have j2 : ((k : Int) - 1).toNat = k - 1 := by omega
      have q0 : ∀ p' : Gp, (grow (wr.drewN p'.n) p'.os).cell? ⟨b, o' + (k - 1) * 2, none⟩ = some (.int .i64 p) := cell_gr hbw hp0
      have q1 : ∀ p' : Gp, (grow (wr.drewN p'.n) p'.os).cell? ⟨b, o' + (k - 1) * 2 + 1, none⟩ = some (.int .u64 (v : Int)) := cell_gr hbw hp1
      have q2 : ∀ p' : Gp, (grow (wr.drewN p'.n) p'.os).cell? ⟨b, o' + k * 2, none⟩ = some (.int .i64 a) := cell_gr hbw hc0
      have q3 : ∀ p' : Gp, (grow (wr.drewN p'.n) p'.os).cell? ⟨b, o' + k * 2 + 1, none⟩ = some (.int .u64 (u : Int)) := cell_gr hbw hc1
      obtain ⟨s, hs⟩ : ∃ s, cmpI p a = s := ⟨_, rfl⟩
      have HB := Lib.hid fun W => byTime_any W p a v u
      rw [hs] at HB
      have HS := Lib.hid hs
      clear hX HX hs
      go_wp2_with fail
      refine wp_region_gr (by kernel_rfl) (by kernel_rfl) ?_
      repeat (go_big_quiet_step (first | (go_at_call 23; refine Calls.gr (HB.out _))))
      refine wpQuiet_nil ?_
      rintro _ ⟨p', rfl⟩
      have HNz := Lib.hid (HN.out.trans (Gr.nw ⟨p', rfl⟩ : Nw wr _))
      by_cases h1 : a = p
      · have hs0 : s = 0 := by rw [← HS.out]; unfold cmpI; rw [if_neg (by omega), if_neg (by omega)]
        subst hs0
        have HX3 := Lib.hid (show C = 20 from by rw [HX2.out, if_pos h1])
        clear h1
        go_wp2_with fail
        simp only [Exit.noGoto]
        go_ret
        rw [HX3.out]
        exact ⟨rfl, HNz.out⟩
      · by_cases h2 : a < p
        · have hs0 : s = 1 := by rw [← HS.out]; unfold cmpI; rw [if_neg (by omega), if_pos (by omega)]
          subst hs0
          have HX3 := Lib.hid (show C = 16 from by rw [HX2.out, if_neg h1, if_pos h2])
          go_wp2_with fail
          simp only [Exit.noGoto]
          go_ret
          rw [HX3.out]
          exact ⟨rfl, HNz.out⟩
        · have hs0 : s = -1 := by rw [← HS.out]; unfold cmpI; rw [if_pos (by omega)]
          subst hs0
          have HX3 := Lib.hid (show C = tmE (l.drop (k + 1 - 1)) from by rw [HX2.out, if_neg h1, if_neg h2]; rfl)
          go_wp2_with fail
          go_roundw
          case rel => exact ⟨rfl, k + 1, by omega, by go_num, .inl (by omega), HX3, HNz⟩
          case measure => simp [intOf]; omega
    · have hX := HX.out
      rw [tmE_end (by omega)] at hX
      have HX2 := Lib.hid hX
      have hltI : ¬ (k : Int) < (l.length : Int) := by omega
      clear hX HX
      go_wp2
      go_ret
      rw [HX2.out]
      exact ⟨rfl, HN.out⟩
end Go.Proofs.YtoogadidbbpplaaGreat
