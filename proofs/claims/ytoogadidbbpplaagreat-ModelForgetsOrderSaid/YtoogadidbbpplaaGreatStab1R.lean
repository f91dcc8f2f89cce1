/- slices.stableCmpFunc's family at series: a merge with a run of one. (Printed by genstab.py.) -/
import Derived.Test.YtoogadidbbpplaaGreatStabR
namespace Go.Proofs.YtoogadidbbpplaaGreat
open Go Go.RowKit Go.Sort Go.Shelf
section
variable {α : Type} [Inhabited α] {f h : α → Value} {w0 : World} {blk : Nat} {d0 : Array α}

set_option maxHeartbeats 8000000 in
set_option maxRecDepth 1000000 in
theorem symMergeAR_any (cf : α → α → Int) (hO : SWO (ltOf cf)) (hcmp : CmpLays Tryz.prog 26 #[] (enc2 f h) 2 cf blk 0 d0.size w0) (eg : ∀ args w, (callFunc 26 args).run Tryz.prog w = .ok (.enter 26 args) w) (R : RowK (enc2 f h) 2 w0 blk 0 d0) (N : Nat) (hN : d0.size = N) (hM : N ≤ 1000000000000) (cap : Nat) (a m b : Nat) (d : Array α) (w : World) (hs : d.size = N) (S : SWK (enc2 f h) 2 w0 blk 0 d w) (ham : a < m) (hmb : m < b) (hb : b ≤ N) (hU : SortedIn (ltOf cf) a m d) (hV : SortedIn (ltOf cf) m b d) (hA1 : m ≤ a + 1) :
    Calls Tryz.prog 70 #[.slice (some ⟨blk, 0, none⟩) N cap, .int .i64 (a : Int), .int .i64 (m : Int), .int .i64 (b : Int), .func (.func 26) #[] #[]] w fun e w' => e = .returned (.tuple #[]) ∧ ∃ d', (PermIn a b d d' ∧ SortedIn (ltOf cf) a b d') ∧ SWK (enc2 f h) 2 w0 blk 0 d' w' := by
  have S0 : Aside (SWK (enc2 f h) 2 w0 blk 0 d w) := S
  have HN := Lib.hid hN
  have HC : Aside _ := hcmp
  have HOr := Lib.hid hO
  have HU := Lib.hid hU
  have HV := Lib.hid hV
  clear S hN hcmp hO hU hV
  have mixed : Tryz.prog.follows .mixedOrders = true := by kernel_rfl
  have hN0 : d.size = d0.size := by rw [HN.out, hs]
  have k1 : IntKind.i64.wrap ((m : Int) - (a : Int)) = (m : Int) - (a : Int) := by rw [IntKind.wrap_i64]; omega
  have k2 : IntKind.i64.wrap ((b : Int) - (m : Int)) = (b : Int) - (m : Int) := by rw [IntKind.wrap_i64]; omega
  have g1 : (((m : Int) - (a : Int)) == 1) = true := by rw [beq_iff_eq]; omega
  go_enter Tryz.func70, Tryz.ntmps70
  go_wp2
  go_loopw [10, 11] (fun s10 s11 wr => ∃ (i j : Nat), s10 = .int .i64 i ∧ s11 = .int .i64 j ∧ m ≤ i ∧ i ≤ j ∧ j ≤ b ∧ Aside (SWK (enc2 f h) 2 w0 blk 0 d wr) ∧ Hid (i = m ∨ ltOf cf d[i - 1]! d[a]! = true) ∧ Hid (j = b ∨ ltOf cf d[j]! d[a]! = false)) (fun s10 s11 _ => (intOf s11).toNat - (intOf s10).toNat)
  case atStart => exact ⟨m, b, rfl, rfl, Nat.le_refl _, by omega, Nat.le_refl _, S0, Lib.hid (.inl rfl), Lib.hid (.inl rfl)⟩
  case round =>
    clear S0 k1 k2 g1
    obtain ⟨i, j, rfl, rfl, hi, hij, hj, S1, HI, HJ⟩ := hrel
    by_cases hlt : i < j
    · have hltz : (i : Int) < (j : Int) := by omega
      obtain ⟨q, hq⟩ : ∃ q, (i + j) / 2 = q := ⟨_, rfl⟩
      have q1 : 2 * q ≤ i + j := by omega
      have q2 : i + j < 2 * q + 2 := by omega
      have k3 : IntKind.i64.wrap ((i : Int) + (j : Int)) = (i : Int) + (j : Int) := by rw [IntKind.wrap_i64]; omega
      have k4 : IntKind.u64.wrap ((i : Int) + (j : Int)) = (i : Int) + (j : Int) := by rw [IntKind.wrap_u64]; omega
      have k5 : ((i : Int) + (j : Int)) / 2 = (q : Int) := by omega
      clear hq
      cases hlv : ltOf cf d[q]! d[a]! with
      | true =>
        have HL := Lib.hid hlv
        have ea : ((q : Int) : Int).toNat = q := by omega
        have pa : (0 : Int) ≤ (q : Int) := by omega
        have ba : (q : Int) < (N : Int) := by omega
        have ra : IntKind.i64.wrap ((q : Int)) = (q : Int) := by rw [IntKind.wrap_i64]; omega
        have ec : ((a : Int) : Int).toNat = a := by omega
        have pc : (0 : Int) ≤ (a : Int) := by omega
        have bc : (a : Int) < (N : Int) := by omega
        have rc : IntKind.i64.wrap ((a : Int)) = (a : Int) := by rw [IntKind.wrap_i64]; omega
        obtain ⟨X, hX⟩ : ∃ x, x = d[q]! := ⟨_, rfl⟩
        obtain ⟨Y, hY⟩ : ∃ x, x = d[a]! := ⟨_, rfl⟩
        have xa := fun n os => (at2 (S1.out.grown n os) R (by omega) (q) (by omega)).1
        have xb := fun n os => (at2 (S1.out.grown n os) R (by omega) (q) (by omega)).2.1
        have ya := fun n os => (at2 (S1.out.grown n os) R (by omega) (a) (by omega)).1
        have yb := fun n os => (at2 (S1.out.grown n os) R (by omega) (a) (by omega)).2.1
        rw [← hX] at xa xb
        rw [← hY] at ya yb
        have hc := S1.out.cmp HC.out (by omega) X Y
        simp only [enc2, Array.append_empty] at hc
        have hv : cf X Y < 0 := by rw [hX, hY]; exact of_decide_eq_true hlv
        have hd : decide (cf X Y < 0) = true := decide_eq_true hv
        clear hX hY hlv
        generalize f X = va at xa hc
        generalize h X = vb at xb hc
        generalize f Y = vc at ya hc
        generalize h Y = vd at yb hc
        generalize cf X Y = cv at hc hv hd
        go_wp2_with fail
        go_quiet_grown (first | (go_at_fn 26; refine Calls.grown_of (hc _ _)))
        have S2 : Aside (SWK (enc2 f h) 2 w0 blk 0 d (grow (wr.drewN nq) osq)) := S1.out.grown nq osq
        clear xa xb ya yb hc S1
        generalize grow (wr.drewN nq) osq = w2 at S2 ⊢
        clear nq osq hv hd ea pa ba ra ec pc bc rc
        go_wp2
        go_roundw
        case rel => exact ⟨q + 1, j, by go_num, rfl, by omega, by omega, hj, S2, Lib.hid (.inr (by rw [Nat.add_sub_cancel]; exact HL.out)), HJ⟩
        case measure => simp [intOf]; omega
      | false =>
        have HL := Lib.hid hlv
        have ea : ((q : Int) : Int).toNat = q := by omega
        have pa : (0 : Int) ≤ (q : Int) := by omega
        have ba : (q : Int) < (N : Int) := by omega
        have ra : IntKind.i64.wrap ((q : Int)) = (q : Int) := by rw [IntKind.wrap_i64]; omega
        have ec : ((a : Int) : Int).toNat = a := by omega
        have pc : (0 : Int) ≤ (a : Int) := by omega
        have bc : (a : Int) < (N : Int) := by omega
        have rc : IntKind.i64.wrap ((a : Int)) = (a : Int) := by rw [IntKind.wrap_i64]; omega
        obtain ⟨X, hX⟩ : ∃ x, x = d[q]! := ⟨_, rfl⟩
        obtain ⟨Y, hY⟩ : ∃ x, x = d[a]! := ⟨_, rfl⟩
        have xa := fun n os => (at2 (S1.out.grown n os) R (by omega) (q) (by omega)).1
        have xb := fun n os => (at2 (S1.out.grown n os) R (by omega) (q) (by omega)).2.1
        have ya := fun n os => (at2 (S1.out.grown n os) R (by omega) (a) (by omega)).1
        have yb := fun n os => (at2 (S1.out.grown n os) R (by omega) (a) (by omega)).2.1
        rw [← hX] at xa xb
        rw [← hY] at ya yb
        have hc := S1.out.cmp HC.out (by omega) X Y
        simp only [enc2, Array.append_empty] at hc
        have hv : ¬ cf X Y < 0 := by rw [hX, hY]; exact of_decide_eq_false hlv
        have hd : decide (cf X Y < 0) = false := decide_eq_false hv
        clear hX hY hlv
        generalize f X = va at xa hc
        generalize h X = vb at xb hc
        generalize f Y = vc at ya hc
        generalize h Y = vd at yb hc
        generalize cf X Y = cv at hc hv hd
        go_wp2_with fail
        go_quiet_grown (first | (go_at_fn 26; refine Calls.grown_of (hc _ _)))
        have S2 : Aside (SWK (enc2 f h) 2 w0 blk 0 d (grow (wr.drewN nq) osq)) := S1.out.grown nq osq
        clear xa xb ya yb hc S1
        generalize grow (wr.drewN nq) osq = w2 at S2 ⊢
        clear nq osq hv hd ea pa ba ra ec pc bc rc
        go_wp2
        go_roundw
        case rel => exact ⟨i, q, rfl, rfl, hi, by omega, by omega, S2, HI, Lib.hid (.inr HL.out)⟩
        case measure => simp [intOf]; omega
    · have hltz : ¬ (i : Int) < (j : Int) := by omega
      obtain rfl : i = j := by omega
      go_wp2
      rename World => wo
      go_loopw [13] (fun s13 wr => ∃ (k : Nat) (dk : Array α), s13 = .int .i64 k ∧ a ≤ k ∧ k + 1 ≤ i ∧ dk.size = N ∧ Aside (SWK (enc2 f h) 2 w0 blk 0 dk wr) ∧ Hid (Rot d a (a + 1) (k + 1) dk)) (fun s13 _ => i - (intOf s13).toNat)
      case atStart => exact ⟨a, d, rfl, Nat.le_refl _, by omega, hs, S1, Lib.hid (Rot.none (.inr rfl) (by omega) (Nat.le_refl _))⟩
      case round =>
        clear S1
        obtain ⟨k, dk, rfl, hk, hki, hds, S1, HR⟩ := hrel
        have k5 : IntKind.i64.wrap ((i : Int) - 1) = (i : Int) - 1 := by rw [IntKind.wrap_i64]; omega
        have hN0 : dk.size = d0.size := by rw [HN.out, hds]
        by_cases hlt2 : k + 1 < i
        · have hltz2 : (k : Int) < (i : Int) - 1 := by omega
          go_wp2_with fail
          have ea : ((k : Int) : Int).toNat = k := by omega
          have pa : (0 : Int) ≤ (k : Int) := by omega
          have ba : (k : Int) < (N : Int) := by omega
          have ra : IntKind.i64.wrap ((k : Int)) = (k : Int) := by rw [IntKind.wrap_i64]; omega
          have ec : ((k : Int) + 1 : Int).toNat = k + 1 := by omega
          have pc : (0 : Int) ≤ (k : Int) + 1 := by omega
          have bc : (k : Int) + 1 < (N : Int) := by omega
          have rc : IntKind.i64.wrap ((k : Int) + 1) = (k : Int) + 1 := by rw [IntKind.wrap_i64]; omega
          have S2 : Aside (SWK (enc2 f h) 2 w0 blk 0 (swp dk (k) (k + 1)) ((wr.setCells blk (0 + (k) * 2) (enc2 f h dk[k + 1]!)).setCells blk (0 + (k + 1) * 2) (enc2 f h dk[k]!)).drew) := (S1.out.swap R.hk R.hblk (k) (k + 1) (by omega) (by omega)).drew
          rw [Nat.zero_add, Nat.zero_add, set2, set2] at S2
          obtain ⟨xa, xb, xc, xd⟩ := at2 S1.out R (by omega) (k) (by omega)
          obtain ⟨ya, yb, yc, yd⟩ := at2 S1.out R (by omega) (k + 1) (by omega)
          have oa := one2a R dk[k]!
          have ob := one2b R dk[k]!
          have oc := one2a R dk[k + 1]!
          have od := one2b R dk[k + 1]!
          generalize f dk[k]! = va at S2 xa oa
          generalize h dk[k]! = vb at S2 xb ob
          generalize f dk[k + 1]! = vc at S2 ya oc
          generalize h dk[k + 1]! = vd at S2 yb od
          have n1 : ¬ (k) * 2 = (k + 1) * 2 := by omega
          have n2 : ¬ (k) * 2 = (k + 1) * 2 + 1 := by omega
          have n3 : ¬ (k) * 2 + 1 = (k + 1) * 2 := by omega
          have n4 : ¬ (k) * 2 + 1 = (k + 1) * 2 + 1 := by omega
          have n5 : ¬ (k + 1) * 2 = (k) * 2 := by omega
          have n6 : ¬ (k + 1) * 2 = (k) * 2 + 1 := by omega
          have n7 : ¬ (k + 1) * 2 + 1 = (k) * 2 := by omega
          have n8 : ¬ (k + 1) * 2 + 1 = (k) * 2 + 1 := by omega
          have wc : ∀ a m w, (store a vc m).run Tryz.prog w = stored Tryz.prog w a vc m := fun a m w => run_store _ w a _ m oc
          have wd : ∀ a m w, (store a vd m).run Tryz.prog w = stored Tryz.prog w a vd m := fun a m w => run_store _ w a _ m od
          have wa : ∀ a m w, (store a va m).run Tryz.prog w = stored Tryz.prog w a va m := fun a m w => run_store _ w a _ m oa
          have wb : ∀ a m w, (store a vb m).run Tryz.prog w = stored Tryz.prog w a vb m := fun a m w => run_store _ w a _ m ob
          clear S1
          go_wp2_with fail
          go_big_region_o
          clear wa wb wc wd xa xb xc xd ya yb yc yd oa ob oc od n1 n2 n3 n4 n5 n6 n7 n8 ea pa ba ra ec pc bc rc
          generalize ((((wr.setCell ⟨blk, (k) * 2, none⟩ vc).setCell ⟨blk, (k) * 2 + 1, none⟩ vd).setCell ⟨blk, (k + 1) * 2, none⟩ va).setCell ⟨blk, (k + 1) * 2 + 1, none⟩ vb).drew = w2 at S2 ⊢
          go_wp2
          go_roundw
          case rel => exact ⟨k + 1, swp dk k (k + 1), by go_num, by omega, by omega, by rw [size_swp]; exact hds, S2, Lib.hid (HR.out.up hk (by omega))⟩
          case measure => simp [intOf]; omega
        · have hltz2 : ¬ (k : Int) < (i : Int) - 1 := by omega
          go_wp2
          (try simp only [Exit.inBlock, Exit.then]); refine bodyPost_ret (results_none rfl _ _ _) rfl ?_
          have hR := HR.out
          have e1 : k + 1 = i := by omega
          have enc2' : m = a + 1 := by omega
          rw [e1] at hR
          refine ⟨rfl, dk, mer_up HOr.out (by rw [← enc2']; exact HV.out) (by omega) hj (by omega) ?_ HJ.out hR, S1.out⟩
          rcases HI.out with h1 | h1
          · exact .inl (by omega)
          · exact .inr h1

set_option maxHeartbeats 8000000 in
set_option maxRecDepth 1000000 in
theorem symMergeBR_any (cf : α → α → Int) (hO : SWO (ltOf cf)) (hcmp : CmpLays Tryz.prog 26 #[] (enc2 f h) 2 cf blk 0 d0.size w0) (eg : ∀ args w, (callFunc 26 args).run Tryz.prog w = .ok (.enter 26 args) w) (R : RowK (enc2 f h) 2 w0 blk 0 d0) (N : Nat) (hN : d0.size = N) (hM : N ≤ 1000000000000) (cap : Nat) (a m b : Nat) (d : Array α) (w : World) (hs : d.size = N) (S : SWK (enc2 f h) 2 w0 blk 0 d w) (ham : a < m) (hmb : m < b) (hb : b ≤ N) (hU : SortedIn (ltOf cf) a m d) (hV : SortedIn (ltOf cf) m b d) (hA1 : ¬ m ≤ a + 1) (hB1 : b ≤ m + 1) :
    Calls Tryz.prog 70 #[.slice (some ⟨blk, 0, none⟩) N cap, .int .i64 (a : Int), .int .i64 (m : Int), .int .i64 (b : Int), .func (.func 26) #[] #[]] w fun e w' => e = .returned (.tuple #[]) ∧ ∃ d', (PermIn a b d d' ∧ SortedIn (ltOf cf) a b d') ∧ SWK (enc2 f h) 2 w0 blk 0 d' w' := by
  have S0 : Aside (SWK (enc2 f h) 2 w0 blk 0 d w) := S
  have HN := Lib.hid hN
  have HC : Aside _ := hcmp
  have HOr := Lib.hid hO
  have HU := Lib.hid hU
  have HV := Lib.hid hV
  clear S hN hcmp hO hU hV
  have mixed : Tryz.prog.follows .mixedOrders = true := by kernel_rfl
  have hN0 : d.size = d0.size := by rw [HN.out, hs]
  have k1 : IntKind.i64.wrap ((m : Int) - (a : Int)) = (m : Int) - (a : Int) := by rw [IntKind.wrap_i64]; omega
  have k2 : IntKind.i64.wrap ((b : Int) - (m : Int)) = (b : Int) - (m : Int) := by rw [IntKind.wrap_i64]; omega
  have _ := ham
  have g1 : (((m : Int) - (a : Int)) == 1) = false := by rw [beq_eq_false_iff_ne]; omega
  have g2 : (((b : Int) - (m : Int)) == 1) = true := by rw [beq_iff_eq]; omega
  go_enter Tryz.func70, Tryz.ntmps70
  go_wp2
  go_loopw [14, 15] (fun s14 s15 wr => ∃ (i j : Nat), s14 = .int .i64 i ∧ s15 = .int .i64 j ∧ a ≤ i ∧ i ≤ j ∧ j ≤ m ∧ Aside (SWK (enc2 f h) 2 w0 blk 0 d wr) ∧ Hid (i = a ∨ ltOf cf d[m]! d[i - 1]! = false) ∧ Hid (j = m ∨ ltOf cf d[m]! d[j]! = true)) (fun s14 s15 _ => (intOf s15).toNat - (intOf s14).toNat)
  case atStart => exact ⟨a, m, rfl, rfl, Nat.le_refl _, by omega, Nat.le_refl _, S0, Lib.hid (.inl rfl), Lib.hid (.inl rfl)⟩
  case round =>
    clear S0 k1 k2 g1 g2
    obtain ⟨i, j, rfl, rfl, hi, hij, hj, S1, HI, HJ⟩ := hrel
    by_cases hlt : i < j
    · have hltz : (i : Int) < (j : Int) := by omega
      obtain ⟨q, hq⟩ : ∃ q, (i + j) / 2 = q := ⟨_, rfl⟩
      have q1 : 2 * q ≤ i + j := by omega
      have q2 : i + j < 2 * q + 2 := by omega
      have k3 : IntKind.i64.wrap ((i : Int) + (j : Int)) = (i : Int) + (j : Int) := by rw [IntKind.wrap_i64]; omega
      have k4 : IntKind.u64.wrap ((i : Int) + (j : Int)) = (i : Int) + (j : Int) := by rw [IntKind.wrap_u64]; omega
      have k5 : ((i : Int) + (j : Int)) / 2 = (q : Int) := by omega
      clear hq
      cases hlv : ltOf cf d[m]! d[q]! with
      | false =>
        have HL := Lib.hid hlv
        have ea : ((m : Int) : Int).toNat = m := by omega
        have pa : (0 : Int) ≤ (m : Int) := by omega
        have ba : (m : Int) < (N : Int) := by omega
        have ra : IntKind.i64.wrap ((m : Int)) = (m : Int) := by rw [IntKind.wrap_i64]; omega
        have ec : ((q : Int) : Int).toNat = q := by omega
        have pc : (0 : Int) ≤ (q : Int) := by omega
        have bc : (q : Int) < (N : Int) := by omega
        have rc : IntKind.i64.wrap ((q : Int)) = (q : Int) := by rw [IntKind.wrap_i64]; omega
        obtain ⟨X, hX⟩ : ∃ x, x = d[m]! := ⟨_, rfl⟩
        obtain ⟨Y, hY⟩ : ∃ x, x = d[q]! := ⟨_, rfl⟩
        have xa := fun n os => (at2 (S1.out.grown n os) R (by omega) (m) (by omega)).1
        have xb := fun n os => (at2 (S1.out.grown n os) R (by omega) (m) (by omega)).2.1
        have ya := fun n os => (at2 (S1.out.grown n os) R (by omega) (q) (by omega)).1
        have yb := fun n os => (at2 (S1.out.grown n os) R (by omega) (q) (by omega)).2.1
        rw [← hX] at xa xb
        rw [← hY] at ya yb
        have hc := S1.out.cmp HC.out (by omega) X Y
        simp only [enc2, Array.append_empty] at hc
        have hv : ¬ cf X Y < 0 := by rw [hX, hY]; exact of_decide_eq_false hlv
        have hd : decide (cf X Y < 0) = false := decide_eq_false hv
        clear hX hY hlv
        generalize f X = va at xa hc
        generalize h X = vb at xb hc
        generalize f Y = vc at ya hc
        generalize h Y = vd at yb hc
        generalize cf X Y = cv at hc hv hd
        go_wp2_with fail
        go_quiet_grown (first | (go_at_fn 26; refine Calls.grown_of (hc _ _)))
        have S2 : Aside (SWK (enc2 f h) 2 w0 blk 0 d (grow (wr.drewN nq) osq)) := S1.out.grown nq osq
        clear xa xb ya yb hc S1
        generalize grow (wr.drewN nq) osq = w2 at S2 ⊢
        clear nq osq hv hd ea pa ba ra ec pc bc rc
        go_wp2
        go_roundw
        case rel => exact ⟨q + 1, j, by go_num, rfl, by omega, by omega, hj, S2, Lib.hid (.inr (by rw [Nat.add_sub_cancel]; exact HL.out)), HJ⟩
        case measure => simp [intOf]; omega
      | true =>
        have HL := Lib.hid hlv
        have ea : ((m : Int) : Int).toNat = m := by omega
        have pa : (0 : Int) ≤ (m : Int) := by omega
        have ba : (m : Int) < (N : Int) := by omega
        have ra : IntKind.i64.wrap ((m : Int)) = (m : Int) := by rw [IntKind.wrap_i64]; omega
        have ec : ((q : Int) : Int).toNat = q := by omega
        have pc : (0 : Int) ≤ (q : Int) := by omega
        have bc : (q : Int) < (N : Int) := by omega
        have rc : IntKind.i64.wrap ((q : Int)) = (q : Int) := by rw [IntKind.wrap_i64]; omega
        obtain ⟨X, hX⟩ : ∃ x, x = d[m]! := ⟨_, rfl⟩
        obtain ⟨Y, hY⟩ : ∃ x, x = d[q]! := ⟨_, rfl⟩
        have xa := fun n os => (at2 (S1.out.grown n os) R (by omega) (m) (by omega)).1
        have xb := fun n os => (at2 (S1.out.grown n os) R (by omega) (m) (by omega)).2.1
        have ya := fun n os => (at2 (S1.out.grown n os) R (by omega) (q) (by omega)).1
        have yb := fun n os => (at2 (S1.out.grown n os) R (by omega) (q) (by omega)).2.1
        rw [← hX] at xa xb
        rw [← hY] at ya yb
        have hc := S1.out.cmp HC.out (by omega) X Y
        simp only [enc2, Array.append_empty] at hc
        have hv : cf X Y < 0 := by rw [hX, hY]; exact of_decide_eq_true hlv
        have hd : decide (cf X Y < 0) = true := decide_eq_true hv
        clear hX hY hlv
        generalize f X = va at xa hc
        generalize h X = vb at xb hc
        generalize f Y = vc at ya hc
        generalize h Y = vd at yb hc
        generalize cf X Y = cv at hc hv hd
        go_wp2_with fail
        go_quiet_grown (first | (go_at_fn 26; refine Calls.grown_of (hc _ _)))
        have S2 : Aside (SWK (enc2 f h) 2 w0 blk 0 d (grow (wr.drewN nq) osq)) := S1.out.grown nq osq
        clear xa xb ya yb hc S1
        generalize grow (wr.drewN nq) osq = w2 at S2 ⊢
        clear nq osq hv hd ea pa ba ra ec pc bc rc
        go_wp2
        go_roundw
        case rel => exact ⟨i, q, rfl, rfl, hi, by omega, by omega, S2, HI, Lib.hid (.inr HL.out)⟩
        case measure => simp [intOf]; omega
    · have hltz : ¬ (i : Int) < (j : Int) := by omega
      obtain rfl : i = j := by omega
      go_wp2
      rename World => wo
      go_loopw [17] (fun s17 wr => ∃ (k : Nat) (dk : Array α), s17 = .int .i64 k ∧ i ≤ k ∧ k ≤ m ∧ dk.size = N ∧ Aside (SWK (enc2 f h) 2 w0 blk 0 dk wr) ∧ Hid (Rot d k m (m + 1) dk)) (fun s17 _ => (intOf s17).toNat)
      case atStart => exact ⟨m, d, rfl, hj, Nat.le_refl _, hs, S1, Lib.hid (Rot.none (.inl rfl) (Nat.le_refl _) (by omega))⟩
      case round =>
        clear S1
        obtain ⟨k, dk, rfl, hk, hki, hds, S1, HR⟩ := hrel
        have hN0 : dk.size = d0.size := by rw [HN.out, hds]
        by_cases hlt2 : i < k
        · have hltz2 : (i : Int) < (k : Int) := by omega
          obtain ⟨t, ht⟩ : ∃ t, k - 1 = t := ⟨_, rfl⟩
          have k5 : (k : Int) - 1 = (t : Int) := by omega
          have hR := HR.out
          have et : k = t + 1 := by omega
          rw [et] at hR
          have hD := hR.down (by omega) (by omega)
          rw [← et] at hD
          have HD := Lib.hid hD
          clear hR hD et ht
          go_wp2_with fail
          have ea : ((k : Int) : Int).toNat = k := by omega
          have pa : (0 : Int) ≤ (k : Int) := by omega
          have ba : (k : Int) < (N : Int) := by omega
          have ra : IntKind.i64.wrap ((k : Int)) = (k : Int) := by rw [IntKind.wrap_i64]; omega
          have ec : ((t : Int) : Int).toNat = t := by omega
          have pc : (0 : Int) ≤ (t : Int) := by omega
          have bc : (t : Int) < (N : Int) := by omega
          have rc : IntKind.i64.wrap ((t : Int)) = (t : Int) := by rw [IntKind.wrap_i64]; omega
          have S2 : Aside (SWK (enc2 f h) 2 w0 blk 0 (swp dk (k) (t)) ((wr.setCells blk (0 + (k) * 2) (enc2 f h dk[t]!)).setCells blk (0 + (t) * 2) (enc2 f h dk[k]!)).drew) := (S1.out.swap R.hk R.hblk (k) (t) (by omega) (by omega)).drew
          rw [Nat.zero_add, Nat.zero_add, set2, set2] at S2
          obtain ⟨xa, xb, xc, xd⟩ := at2 S1.out R (by omega) (k) (by omega)
          obtain ⟨ya, yb, yc, yd⟩ := at2 S1.out R (by omega) (t) (by omega)
          have oa := one2a R dk[k]!
          have ob := one2b R dk[k]!
          have oc := one2a R dk[t]!
          have od := one2b R dk[t]!
          generalize f dk[k]! = va at S2 xa oa
          generalize h dk[k]! = vb at S2 xb ob
          generalize f dk[t]! = vc at S2 ya oc
          generalize h dk[t]! = vd at S2 yb od
          have n1 : ¬ (k) * 2 = (t) * 2 := by omega
          have n2 : ¬ (k) * 2 = (t) * 2 + 1 := by omega
          have n3 : ¬ (k) * 2 + 1 = (t) * 2 := by omega
          have n4 : ¬ (k) * 2 + 1 = (t) * 2 + 1 := by omega
          have n5 : ¬ (t) * 2 = (k) * 2 := by omega
          have n6 : ¬ (t) * 2 = (k) * 2 + 1 := by omega
          have n7 : ¬ (t) * 2 + 1 = (k) * 2 := by omega
          have n8 : ¬ (t) * 2 + 1 = (k) * 2 + 1 := by omega
          have wc : ∀ a m w, (store a vc m).run Tryz.prog w = stored Tryz.prog w a vc m := fun a m w => run_store _ w a _ m oc
          have wd : ∀ a m w, (store a vd m).run Tryz.prog w = stored Tryz.prog w a vd m := fun a m w => run_store _ w a _ m od
          have wa : ∀ a m w, (store a va m).run Tryz.prog w = stored Tryz.prog w a va m := fun a m w => run_store _ w a _ m oa
          have wb : ∀ a m w, (store a vb m).run Tryz.prog w = stored Tryz.prog w a vb m := fun a m w => run_store _ w a _ m ob
          clear S1
          go_wp2_with fail
          go_big_region_o
          clear wa wb wc wd xa xb xc xd ya yb yc yd oa ob oc od n1 n2 n3 n4 n5 n6 n7 n8 ea pa ba ra ec pc bc rc
          generalize ((((wr.setCell ⟨blk, (k) * 2, none⟩ vc).setCell ⟨blk, (k) * 2 + 1, none⟩ vd).setCell ⟨blk, (t) * 2, none⟩ va).setCell ⟨blk, (t) * 2 + 1, none⟩ vb).drew = w2 at S2 ⊢
          go_wp2
          go_roundw
          case rel => exact ⟨t, swp dk k t, by go_num, by omega, by omega, by rw [size_swp]; exact hds, S2, HD⟩
          case measure => simp [intOf]; omega
        · have hltz2 : ¬ (i : Int) < (k : Int) := by omega
          obtain rfl : i = k := by omega
          go_wp2
          (try simp only [Exit.inBlock, Exit.then]); refine bodyPost_ret (results_none rfl _ _ _) rfl ?_
          obtain rfl : b = m + 1 := by omega
          exact ⟨rfl, dk, mer_down HOr.out HU.out hi hj (by omega) HI.out HJ.out HR.out, S1.out⟩
end
end Go.Proofs.YtoogadidbbpplaaGreat
