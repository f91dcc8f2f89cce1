/- slices.stableCmpFunc's family at samples: the walks. (Printed by genstab.py.) -/
import Derived.Test.YtoogadidbbpplaaGreatStab0
namespace Go.Proofs.YtoogadidbbpplaaGreat
open Go Go.RowKit Go.Sort Go.Shelf
section
variable {α : Type} [Inhabited α] {f h : α → Value} {w0 : World} {blk : Nat} {d0 : Array α}

set_option maxHeartbeats 4000000 in
set_option maxRecDepth 1000000 in
/-- an exchange of two runs -/
theorem swapRangeS_any (R : RowK (enc2 f h) 2 w0 blk 0 d0) (N : Nat) (hN : d0.size = N) (hM : N ≤ 1000000000000) (g : Nat) (a b n cap : Nat) (d : Array α) (w : World) (hs : d.size = N) (S : SWK (enc2 f h) 2 w0 blk 0 d w) (hab : a + n ≤ b) (hb : b + n ≤ N) :
    Calls Tryz.prog 96 #[.slice (some ⟨blk, 0, none⟩) N cap, .int .i64 (a : Int), .int .i64 (b : Int), .int .i64 (n : Int), .func (.func g) #[] #[]] w fun e w' => e = .returned (.tuple #[]) ∧ ∃ d', Exch d a b n d' ∧ SWK (enc2 f h) 2 w0 blk 0 d' w' := by
  have S0 : Aside (SWK (enc2 f h) 2 w0 blk 0 d w) := S
  have HN := Lib.hid hN
  have mixed : Tryz.prog.follows .mixedOrders = true := by kernel_rfl
  clear S hN
  go_enter Tryz.func96, Tryz.ntmps96
  go_wp2
  go_loopw [10] (fun s10 wr => ∃ (i : Nat) (dk : Array α), s10 = .int .i64 i ∧ i ≤ n ∧ dk.size = N ∧ Aside (SWK (enc2 f h) 2 w0 blk 0 dk wr) ∧ Hid (Exch d a b i dk)) (fun s10 _ => n - (intOf s10).toNat)
  case atStart => exact ⟨0, d, by go_num, by omega, hs, S0, Lib.hid (Exch.zero d a b)⟩
  case round =>
    clear S0
    obtain ⟨i, dk, rfl, hi, hds, S1, HE⟩ := hrel
    by_cases hlt : i < n
    · have hltz : (i : Int) < (n : Int) := by omega
      have hN0 : dk.size = d0.size := by rw [HN.out, hds]
      go_wp2_with fail
      have ea : ((a : Int) + (i : Int) : Int).toNat = a + i := by omega
      have pa : (0 : Int) ≤ (a : Int) + (i : Int) := by omega
      have ba : (a : Int) + (i : Int) < (N : Int) := by omega
      have ra : IntKind.i64.wrap ((a : Int) + (i : Int)) = (a : Int) + (i : Int) := by rw [IntKind.wrap_i64]; omega
      have ec : ((b : Int) + (i : Int) : Int).toNat = b + i := by omega
      have pc : (0 : Int) ≤ (b : Int) + (i : Int) := by omega
      have bc : (b : Int) + (i : Int) < (N : Int) := by omega
      have rc : IntKind.i64.wrap ((b : Int) + (i : Int)) = (b : Int) + (i : Int) := by rw [IntKind.wrap_i64]; omega
      have S2 : Aside (SWK (enc2 f h) 2 w0 blk 0 (swp dk (a + i) (b + i)) ((wr.setCells blk (0 + (a + i) * 2) (enc2 f h dk[b + i]!)).setCells blk (0 + (b + i) * 2) (enc2 f h dk[a + i]!)).drew) := (S1.out.swap R.hk R.hblk (a + i) (b + i) (by omega) (by omega)).drew
      rw [Nat.zero_add, Nat.zero_add, set2, set2] at S2
      obtain ⟨xa, xb, xc, xd⟩ := at2 S1.out R (by omega) (a + i) (by omega)
      obtain ⟨ya, yb, yc, yd⟩ := at2 S1.out R (by omega) (b + i) (by omega)
      have oa := one2a R dk[a + i]!
      have ob := one2b R dk[a + i]!
      have oc := one2a R dk[b + i]!
      have od := one2b R dk[b + i]!
      generalize f dk[a + i]! = va at S2 xa oa
      generalize h dk[a + i]! = vb at S2 xb ob
      generalize f dk[b + i]! = vc at S2 ya oc
      generalize h dk[b + i]! = vd at S2 yb od
      have n1 : ¬ (a + i) * 2 = (b + i) * 2 := by omega
      have n2 : ¬ (a + i) * 2 = (b + i) * 2 + 1 := by omega
      have n3 : ¬ (a + i) * 2 + 1 = (b + i) * 2 := by omega
      have n4 : ¬ (a + i) * 2 + 1 = (b + i) * 2 + 1 := by omega
      have n5 : ¬ (b + i) * 2 = (a + i) * 2 := by omega
      have n6 : ¬ (b + i) * 2 = (a + i) * 2 + 1 := by omega
      have n7 : ¬ (b + i) * 2 + 1 = (a + i) * 2 := by omega
      have n8 : ¬ (b + i) * 2 + 1 = (a + i) * 2 + 1 := by omega
      have wc : ∀ a m w, (store a vc m).run Tryz.prog w = stored Tryz.prog w a vc m := fun a m w => run_store _ w a _ m oc
      have wd : ∀ a m w, (store a vd m).run Tryz.prog w = stored Tryz.prog w a vd m := fun a m w => run_store _ w a _ m od
      have wa : ∀ a m w, (store a va m).run Tryz.prog w = stored Tryz.prog w a va m := fun a m w => run_store _ w a _ m oa
      have wb : ∀ a m w, (store a vb m).run Tryz.prog w = stored Tryz.prog w a vb m := fun a m w => run_store _ w a _ m ob
      clear S1
      go_wp2_with fail
      go_big_region_o
      clear wa wb wc wd xa xb xc xd ya yb yc yd oa ob oc od n1 n2 n3 n4 n5 n6 n7 n8 ea pa ba ra ec pc bc rc
      generalize ((((wr.setCell ⟨blk, (a + i) * 2, none⟩ vc).setCell ⟨blk, (a + i) * 2 + 1, none⟩ vd).setCell ⟨blk, (b + i) * 2, none⟩ va).setCell ⟨blk, (b + i) * 2 + 1, none⟩ vb).drew = w2 at S2 ⊢
      go_wp2
      go_roundw
      case measure => simp [intOf]; omega
      case rel => exact ⟨i + 1, swp dk (a + i) (b + i), by go_num, by omega, by rw [size_swp]; exact hds, S2, Lib.hid (HE.out.step hab hlt (by omega))⟩
    · have hltz : ¬ (i : Int) < (n : Int) := by omega
      obtain rfl : i = n := by omega
      go_wp2
      go_end0
      exact ⟨rfl, dk, HE.out, S1.out⟩

set_option maxHeartbeats 4000000 in
set_option maxRecDepth 1000000 in
/-- a rotation -/
theorem rotateS_any (R : RowK (enc2 f h) 2 w0 blk 0 d0) (N : Nat) (hN : d0.size = N) (hM : N ≤ 1000000000000) (g : Nat) (a m b cap : Nat) (d : Array α) (w : World) (hs : d.size = N) (S : SWK (enc2 f h) 2 w0 blk 0 d w) (ham : a < m) (hmb : m < b) (hb : b ≤ N) :
    Calls Tryz.prog 87 #[.slice (some ⟨blk, 0, none⟩) N cap, .int .i64 (a : Int), .int .i64 (m : Int), .int .i64 (b : Int), .func (.func g) #[] #[]] w fun e w' => e = .returned (.tuple #[]) ∧ ∃ d', Rot d a m b d' ∧ SWK (enc2 f h) 2 w0 blk 0 d' w' := by
  have S0 : Aside (SWK (enc2 f h) 2 w0 blk 0 d w) := S
  have HN := Lib.hid hN
  have HS := Lib.hid hs
  clear S hN hs
  have k1 : IntKind.i64.wrap ((m : Int) - (a : Int)) = (m : Int) - (a : Int) := by rw [IntKind.wrap_i64]; omega
  have k2 : IntKind.i64.wrap ((b : Int) - (m : Int)) = (b : Int) - (m : Int) := by rw [IntKind.wrap_i64]; omega
  go_enter Tryz.func87, Tryz.ntmps87
  go_wp2
  go_loopw [10, 11] (fun s10 s11 wr => ∃ (i j : Nat) (dk : Array α), s10 = .int .i64 i ∧ s11 = .int .i64 j ∧ 1 ≤ i ∧ i ≤ m - a ∧ 1 ≤ j ∧ j ≤ b - m ∧ Aside (SWK (enc2 f h) 2 w0 blk 0 dk wr) ∧ Hid (PermIn a b d dk) ∧ Hid (∀ p, rot dk (m - i) m (m + j) p = rot d a m b p)) (fun s10 s11 _ => (intOf s10).toNat + (intOf s11).toNat)
  case atStart =>
    refine ⟨m - a, b - m, d, by congr 1; omega, by congr 1; omega, by omega, by omega, by omega, by omega, S0, Lib.hid (permIn_refl _ _ _), Lib.hid fun p => ?_⟩
    rw [show m - (m - a) = a by omega, show m + (b - m) = b by omega]
  case round =>
    clear S0 k1 k2
    obtain ⟨i, j, dk, rfl, rfl, hi1, hi2, hj1, hj2, S1, HP, HR⟩ := hrel
    have hds : dk.size = N := HP.out.1.trans HS.out
    have k1 : IntKind.i64.wrap ((m : Int) - (i : Int)) = (m : Int) - (i : Int) := by rw [IntKind.wrap_i64]; omega
    have c1 : ((m - i : Nat) : Int) = (m : Int) - (i : Int) := by omega
    rcases Nat.lt_trichotomy i j with hij | hij | hij
    · have g1 : ((i : Int) != (j : Int)) = true := by rw [bne_iff_ne]; omega
      have g2 : ¬ (j : Int) < (i : Int) := by omega
      have k2 : IntKind.i64.wrap ((m : Int) + (j : Int)) = (m : Int) + (j : Int) := by rw [IntKind.wrap_i64]; omega
      have k3 : IntKind.i64.wrap ((m : Int) + (j : Int) - (i : Int)) = (m : Int) + (j : Int) - (i : Int) := by rw [IntKind.wrap_i64]; omega
      have k4 : IntKind.i64.wrap ((j : Int) - (i : Int)) = (j : Int) - (i : Int) := by rw [IntKind.wrap_i64]; omega
      have hc := swapRangeS_any R N HN.out hM g (m - i) (m + j - i) i cap dk wr hds S1.out (by omega) (by omega)
      rw [c1, show ((m + j - i : Nat) : Int) = (m : Int) + (j : Int) - (i : Int) by omega] at hc
      clear c1
      go_wp2_with (go_at_call 96; refine hc.mono ?_; rintro e w1 ⟨rfl, d', hE, S2⟩)
      go_roundw
      case rel => exact ⟨i, j - i, d', rfl, by congr 1; omega, hi1, hi2, by omega, by omega, S2, Lib.hid (permIn_trans _ _ _ _ _ HP.out (hE.perm a b (by omega) (by omega) (by omega))), Lib.hid fun p => (rot_lt hE hij (by omega) p).trans (HR.out p)⟩
      case measure => simp [intOf]; omega
    · subst hij
      have g1 : ((i : Int) != (i : Int)) = false := by rw [bne_eq_false_iff_eq]
      have hc := swapRangeS_any R N HN.out hM g (m - i) m i cap dk wr hds S1.out (by omega) (by omega)
      rw [c1] at hc
      clear c1
      go_wp2_with (go_at_call 96; refine hc.mono ?_; rintro e w1 ⟨rfl, d', hE, S2⟩)
      go_end0
      exact ⟨rfl, d', ⟨permIn_trans _ _ _ _ _ HP.out (hE.perm a b (by omega) (by omega) (by omega)), fun p => ((Rot.last hE (by omega) (by omega)).at_ p).trans (HR.out p)⟩, S2⟩
    · have g1 : ((i : Int) != (j : Int)) = true := by rw [bne_iff_ne]; omega
      have g2 : (j : Int) < (i : Int) := by omega
      have k4 : IntKind.i64.wrap ((i : Int) - (j : Int)) = (i : Int) - (j : Int) := by rw [IntKind.wrap_i64]; omega
      have hc := swapRangeS_any R N HN.out hM g (m - i) m j cap dk wr hds S1.out (by omega) (by omega)
      rw [c1] at hc
      clear c1
      go_wp2_with (go_at_call 96; refine hc.mono ?_; rintro e w1 ⟨rfl, d', hE, S2⟩)
      go_roundw
      case rel => exact ⟨i - j, j, d', by congr 1; omega, rfl, by omega, by omega, hj1, hj2, S2, Lib.hid (permIn_trans _ _ _ _ _ HP.out (hE.perm a b (by omega) (by omega) (by omega))), Lib.hid fun p => (rot_gt hE hij (by omega) p).trans (HR.out p)⟩
      case measure => simp [intOf]; omega

end
end Go.Proofs.YtoogadidbbpplaaGreat
