/- slices.stableCmpFunc's family at series: a merge, the longer run last. (Printed by genstab.py.) -/
import Derived.Test.YtoogadidbbpplaaGreatStabR
namespace Go.Proofs.YtoogadidbbpplaaGreat
open Go Go.RowKit Go.Sort Go.Shelf
section
variable {α : Type} [Inhabited α] {f h : α → Value} {w0 : World} {blk : Nat} {d0 : Array α}

set_option maxHeartbeats 8000000 in
set_option maxRecDepth 1000000 in
theorem symMergeDR_any (cf : α → α → Int) (hO : SWO (ltOf cf)) (hcmp : CmpLays Tryz.prog 26 #[] (enc2 f h) 2 cf blk 0 d0.size w0) (eg : ∀ args w, (callFunc 26 args).run Tryz.prog w = .ok (.enter 26 args) w) (R : RowK (enc2 f h) 2 w0 blk 0 d0) (N : Nat) (hN : d0.size = N) (hM : N ≤ 1000000000000) (cap : Nat) (K : Nat) (ih : ∀ (a m b : Nat) (d : Array α) (w : World), b - a ≤ K → d.size = N → SWK (enc2 f h) 2 w0 blk 0 d w → a < m → m < b → b ≤ N → SortedIn (ltOf cf) a m d → SortedIn (ltOf cf) m b d → Calls Tryz.prog 70 #[.slice (some ⟨blk, 0, none⟩) N cap, .int .i64 (a : Int), .int .i64 (m : Int), .int .i64 (b : Int), .func (.func 26) #[] #[]] w fun e w' => e = .returned (.tuple #[]) ∧ ∃ d', (PermIn a b d d' ∧ SortedIn (ltOf cf) a b d') ∧ SWK (enc2 f h) 2 w0 blk 0 d' w') (a m b : Nat) (d : Array α) (w : World) (hs : d.size = N) (S : SWK (enc2 f h) 2 w0 blk 0 d w) (ham : a < m) (hmb : m < b) (hb : b ≤ N) (hU : SortedIn (ltOf cf) a m d) (hV : SortedIn (ltOf cf) m b d) (hA1 : ¬ m ≤ a + 1) (hB1 : ¬ b ≤ m + 1) (mid : Nat) (m1 : 2 * mid ≤ a + b) (m2 : a + b < 2 * mid + 2) (hK : b - a ≤ K + 1) (hbig : ¬ mid < m) :
    Calls Tryz.prog 70 #[.slice (some ⟨blk, 0, none⟩) N cap, .int .i64 (a : Int), .int .i64 (m : Int), .int .i64 (b : Int), .func (.func 26) #[] #[]] w fun e w' => e = .returned (.tuple #[]) ∧ ∃ d', (PermIn a b d d' ∧ SortedIn (ltOf cf) a b d') ∧ SWK (enc2 f h) 2 w0 blk 0 d' w' := by
  have HIH := Lib.hid ih
  clear ih
  have S0 : Aside (SWK (enc2 f h) 2 w0 blk 0 d w) := S
  have HN := Lib.hid hN
  have HC : Aside _ := hcmp
  have HOr := Lib.hid hO
  have HU := Lib.hid hU
  have HV := Lib.hid hV
  clear S hN hcmp hO hU hV
  have mixed : Tryz.prog.follows .mixedOrders = true := by kernel_rfl
  have hN0 : d.size = d0.size := by rw [HN.out, hs]
  have k1 : IntKind.i64.wrap ((m : Int) - (a : Int)) = (m : Int) - (a : Int) := by rw [IntKind.wrap_i64]; omega
  have k2 : IntKind.i64.wrap ((b : Int) - (m : Int)) = (b : Int) - (m : Int) := by rw [IntKind.wrap_i64]; omega
  have _ := ham
  have _ := hmb
  have g1 : (((m : Int) - (a : Int)) == 1) = false := by rw [beq_eq_false_iff_ne]; omega
  have g2 : (((b : Int) - (m : Int)) == 1) = false := by rw [beq_eq_false_iff_ne]; omega
  have m3 : ((a : Int) + (b : Int)) / 2 = (mid : Int) := by omega
  have m4 : IntKind.i64.wrap ((a : Int) + (b : Int)) = (a : Int) + (b : Int) := by rw [IntKind.wrap_i64]; omega
  have m5 : IntKind.u64.wrap ((a : Int) + (b : Int)) = (a : Int) + (b : Int) := by rw [IntKind.wrap_u64]; omega
  have m6 : IntKind.i64.wrap ((mid : Int) + (m : Int)) = (mid : Int) + (m : Int) := by rw [IntKind.wrap_i64]; omega
  have m7 : IntKind.i64.wrap ((mid : Int) + (m : Int) - 1) = (mid : Int) + (m : Int) - 1 := by rw [IntKind.wrap_i64]; omega
  have hbz : ¬ (mid : Int) < (m : Int) := by omega
  go_enter Tryz.func70, Tryz.ntmps70
  go_wp2
  go_loopw [20, 21] (fun s20 s21 wr => ∃ (i j : Nat), s20 = .int .i64 i ∧ s21 = .int .i64 j ∧ a ≤ i ∧ i ≤ j ∧ j ≤ m ∧ Aside (SWK (enc2 f h) 2 w0 blk 0 d wr) ∧ Hid (i = a ∨ (a < i ∧ ltOf cf d[mid + m - i]! d[i - 1]! = false)) ∧ Hid (j = m ∨ ltOf cf d[mid + m - 1 - j]! d[j]! = true)) (fun s20 s21 _ => (intOf s21).toNat - (intOf s20).toNat)
  case atStart => exact ⟨a, m, by first | rfl | (congr 1; omega), rfl, Nat.le_refl _, by omega, Nat.le_refl _, S0, Lib.hid (.inl rfl), Lib.hid (.inl rfl)⟩
  case round =>
    clear S0 k1 k2 g1 g2 m3 m4 m5 m6 m7 hbz 
    obtain ⟨i, j, rfl, rfl, hi, hij, hj, S1, HI, HJ⟩ := hrel
    by_cases hlt : i < j
    · have hltz : (i : Int) < (j : Int) := by omega
      obtain ⟨q, hq⟩ : ∃ q, (i + j) / 2 = q := ⟨_, rfl⟩
      have q1 : 2 * q ≤ i + j := by omega
      have q2 : i + j < 2 * q + 2 := by omega
      have k3 : IntKind.i64.wrap ((i : Int) + (j : Int)) = (i : Int) + (j : Int) := by rw [IntKind.wrap_i64]; omega
      have k4 : IntKind.u64.wrap ((i : Int) + (j : Int)) = (i : Int) + (j : Int) := by rw [IntKind.wrap_u64]; omega
      have k5 : ((i : Int) + (j : Int)) / 2 = (q : Int) := by omega
      clear hq
      obtain ⟨p, hp⟩ : ∃ p, p = mid + m - 1 - q := ⟨_, rfl⟩
      have p1 : p + q + 1 = mid + m := by omega
      have p2 : (mid : Int) + (m : Int) - 1 - (q : Int) = (p : Int) := by omega
      have p3 : IntKind.i64.wrap ((mid : Int) + (m : Int) - 1 - (q : Int)) = (p : Int) := by rw [IntKind.wrap_i64]; omega
      cases hlv : ltOf cf d[p]! d[q]! with
      | false =>
        have HL := Lib.hid (show ltOf cf d[mid + m - (q + 1)]! d[q + 1 - 1]! = false by rw [Nat.add_sub_cancel, show mid + m - (q + 1) = p by omega]; exact hlv)
        clear hp
        have ea : ((p : Int) : Int).toNat = p := by omega
        have pa : (0 : Int) ≤ (p : Int) := by omega
        have ba : (p : Int) < (N : Int) := by omega
        have ra : IntKind.i64.wrap ((p : Int)) = (p : Int) := by rw [IntKind.wrap_i64]; omega
        have ec : ((q : Int) : Int).toNat = q := by omega
        have pc : (0 : Int) ≤ (q : Int) := by omega
        have bc : (q : Int) < (N : Int) := by omega
        have rc : IntKind.i64.wrap ((q : Int)) = (q : Int) := by rw [IntKind.wrap_i64]; omega
        obtain ⟨X, hX⟩ : ∃ x, x = d[p]! := ⟨_, rfl⟩
        obtain ⟨Y, hY⟩ : ∃ x, x = d[q]! := ⟨_, rfl⟩
        have xa := fun n os => (at2 (S1.out.grown n os) R (by omega) (p) (by omega)).1
        have xb := fun n os => (at2 (S1.out.grown n os) R (by omega) (p) (by omega)).2.1
        have ya := fun n os => (at2 (S1.out.grown n os) R (by omega) (q) (by omega)).1
        have yb := fun n os => (at2 (S1.out.grown n os) R (by omega) (q) (by omega)).2.1
        rw [← hX] at xa xb
        rw [← hY] at ya yb
        have hc := S1.out.cmp HC.out (by omega) X Y
        simp only [enc2, Array.append_empty] at hc
        have hv : ¬ cf X Y < 0 := by rw [hX, hY]; exact of_decide_eq_false hlv
        have hd : decide (cf X Y < 0) = false := decide_eq_false hv
        clear hX hY hlv
        generalize f X = va at xa hc
        generalize h X = vb at xb hc
        generalize f Y = vc at ya hc
        generalize h Y = vd at yb hc
        generalize cf X Y = cv at hc hv hd
        go_wp2_with fail
        go_quiet_grown (first | (go_at_fn 26; refine Calls.grown_of (hc _ _)))
        have S2 : Aside (SWK (enc2 f h) 2 w0 blk 0 d (grow (wr.drewN nq) osq)) := S1.out.grown nq osq
        clear xa xb ya yb hc S1
        generalize grow (wr.drewN nq) osq = w2 at S2 ⊢
        clear nq osq hv hd ea pa ba ra ec pc bc rc
        go_wp2
        go_roundw
        case rel => exact ⟨q + 1, j, by go_num, rfl, by omega, by omega, hj, S2, Lib.hid (.inr ⟨by omega, HL.out⟩), HJ⟩
        case measure => simp [intOf]; omega
      | true =>
        have HL := Lib.hid (show ltOf cf d[mid + m - 1 - q]! d[q]! = true by rw [← hp]; exact hlv)
        clear hp
        have ea : ((p : Int) : Int).toNat = p := by omega
        have pa : (0 : Int) ≤ (p : Int) := by omega
        have ba : (p : Int) < (N : Int) := by omega
        have ra : IntKind.i64.wrap ((p : Int)) = (p : Int) := by rw [IntKind.wrap_i64]; omega
        have ec : ((q : Int) : Int).toNat = q := by omega
        have pc : (0 : Int) ≤ (q : Int) := by omega
        have bc : (q : Int) < (N : Int) := by omega
        have rc : IntKind.i64.wrap ((q : Int)) = (q : Int) := by rw [IntKind.wrap_i64]; omega
        obtain ⟨X, hX⟩ : ∃ x, x = d[p]! := ⟨_, rfl⟩
        obtain ⟨Y, hY⟩ : ∃ x, x = d[q]! := ⟨_, rfl⟩
        have xa := fun n os => (at2 (S1.out.grown n os) R (by omega) (p) (by omega)).1
        have xb := fun n os => (at2 (S1.out.grown n os) R (by omega) (p) (by omega)).2.1
        have ya := fun n os => (at2 (S1.out.grown n os) R (by omega) (q) (by omega)).1
        have yb := fun n os => (at2 (S1.out.grown n os) R (by omega) (q) (by omega)).2.1
        rw [← hX] at xa xb
        rw [← hY] at ya yb
        have hc := S1.out.cmp HC.out (by omega) X Y
        simp only [enc2, Array.append_empty] at hc
        have hv : cf X Y < 0 := by rw [hX, hY]; exact of_decide_eq_true hlv
        have hd : decide (cf X Y < 0) = true := decide_eq_true hv
        clear hX hY hlv
        generalize f X = va at xa hc
        generalize h X = vb at xb hc
        generalize f Y = vc at ya hc
        generalize h Y = vd at yb hc
        generalize cf X Y = cv at hc hv hd
        go_wp2_with fail
        go_quiet_grown (first | (go_at_fn 26; refine Calls.grown_of (hc _ _)))
        have S2 : Aside (SWK (enc2 f h) 2 w0 blk 0 d (grow (wr.drewN nq) osq)) := S1.out.grown nq osq
        clear xa xb ya yb hc S1
        generalize grow (wr.drewN nq) osq = w2 at S2 ⊢
        clear nq osq hv hd ea pa ba ra ec pc bc rc
        go_wp2
        go_roundw
        case rel => exact ⟨i, q, rfl, rfl, hi, by omega, by omega, S2, HI, Lib.hid (.inr HL.out)⟩
        case measure => simp [intOf]; omega
    · have hltz : ¬ (i : Int) < (j : Int) := by omega
      obtain ⟨s, hs1⟩ : ∃ s, s = i := ⟨_, rfl⟩
      obtain rfl : i = j := by omega
      rw [← hs1] at HI HJ hi hj hltz ⊢
      clear hs1 hlt hij
      obtain ⟨e, he⟩ : ∃ e, e = mid + m - s := ⟨_, rfl⟩
      have n1 : e + s = mid + m := by omega
      have n2 : (mid : Int) + (m : Int) - (s : Int) = (e : Int) := by omega
      have n3 : IntKind.i64.wrap ((mid : Int) + (m : Int) - (s : Int)) = (e : Int) := by rw [IntKind.wrap_i64]; omega
      have HA : Hid (s = a ∨ e = b ∨ ltOf cf d[e]! d[s - 1]! = false) := Lib.hid (by
        rcases HI.out with h1 | ⟨_, h1⟩
        · exact .inl h1
        · exact .inr (.inr (by rw [he]; exact h1)))
      have HB : Hid (s = m ∨ e = m ∨ ltOf cf d[s]! d[e - 1]! = false) := Lib.hid (by
        rcases HJ.out with h1 | h1
        · exact .inl h1
        · exact .inr (.inr (HOr.out.asymmA (by rw [show e - 1 = mid + m - 1 - s by omega]; exact h1))))
      clear he HI HJ
      by_cases x1 : s < m
      · by_cases x2 : m < e
        · by_cases x3 : a < s
          · by_cases x4 : e < b
            · skip
              have z1 : (s : Int) < (m : Int) := by omega
              have z2 : (m : Int) < (e : Int) := by omega
              have z3 : (a : Int) < (s : Int) := by omega
              have z4 : (s : Int) < (mid : Int) := by omega
              have z5 : (mid : Int) < (e : Int) := by omega
              have z6 : (e : Int) < (b : Int) := by omega
              have hrot := rotateR_any R N HN.out hM 26 s m e cap d wr hs S1.out (by omega) (by omega) (by omega)
              go_wp2_with (go_at_call 88; refine hrot.mono ?_; rintro e w2 ⟨rfl, d1, hR, S2⟩)
              replace S2 : Aside _ := S2
              have HRo := Lib.hid hR
              have z7 : d1.size = N := hR.perm.1.trans hs
              have hP := rot_parts HU.out HV.out (by omega) (by omega) (by omega) (by omega) hR
              have hm : mid = s + (e - m) := by omega
              rw [← hm] at hP
              have hl := HIH.out a s mid d1 w2 (by omega) z7 S2.out (by omega) (by omega) (by omega) hP.1 hP.2.1
              have HP := Lib.hid hP
              clear hP hR hm
              go_wp2_with (go_at_call_has 70 (Value.int IntKind.i64 (a : Int)); refine hl.mono ?_; rintro e w3 ⟨rfl, d2, ⟨p2, s2⟩, S3⟩)
              replace S3 : Aside _ := S3
              have z8 : d2.size = N := p2.1.trans z7
              have P2 := Lib.hid (And.intro p2 s2)
              have hq3 := SortedIn.same HP.out.2.2.1 p2 (.inr (Nat.le_refl _))
              have hq4 := SortedIn.same HP.out.2.2.2 p2 (.inr (by omega))
              clear p2 s2
              have hl2 := HIH.out mid e b d2 w3 (by omega) z8 S3.out (by omega) (by omega) (by omega) hq3 hq4
              clear hq3 hq4
              go_wp2_with (go_at_call 70; refine hl2.mono ?_; rintro e w4 ⟨rfl, d3, ⟨p3, s3⟩, S4⟩)
              go_end0
              have S4 : Aside _ := S4
              exact ⟨rfl, d3, mer_of HU.out HV.out (by omega) (by omega) (by omega) (by omega) HRo.out HOr.out (by omega) HA.out HB.out (by omega) P2.out.1 P2.out.2 p3 s3, S4.out⟩
            · skip
              have z1 : (s : Int) < (m : Int) := by omega
              have z2 : (m : Int) < (e : Int) := by omega
              have z3 : (a : Int) < (s : Int) := by omega
              have z4 : (s : Int) < (mid : Int) := by omega
              have z5 : (mid : Int) < (e : Int) := by omega
              have z6 : ¬ (e : Int) < (b : Int) := by omega
              have hrot := rotateR_any R N HN.out hM 26 s m e cap d wr hs S1.out (by omega) (by omega) (by omega)
              go_wp2_with (go_at_call 88; refine hrot.mono ?_; rintro e w2 ⟨rfl, d1, hR, S2⟩)
              replace S2 : Aside _ := S2
              have HRo := Lib.hid hR
              have z7 : d1.size = N := hR.perm.1.trans hs
              have hP := rot_parts HU.out HV.out (by omega) (by omega) (by omega) (by omega) hR
              have hm : mid = s + (e - m) := by omega
              rw [← hm] at hP
              have hl := HIH.out a s mid d1 w2 (by omega) z7 S2.out (by omega) (by omega) (by omega) hP.1 hP.2.1
              have HP := Lib.hid hP
              clear hP hR hm
              go_wp2_with (go_at_call_has 70 (Value.int IntKind.i64 (a : Int)); refine hl.mono ?_; rintro e w3 ⟨rfl, d2, ⟨p2, s2⟩, S3⟩)
              replace S3 : Aside _ := S3
              have z8 : d2.size = N := p2.1.trans z7
              have P2 := Lib.hid (And.intro p2 s2)
              have hq3 := SortedIn.same HP.out.2.2.1 p2 (.inr (Nat.le_refl _))
              have hq4 := SortedIn.same HP.out.2.2.2 p2 (.inr (by omega))
              clear p2 s2
              have s3 : SortedIn (ltOf cf) mid b d2 := by
                have e1 : b = e := by omega
                rw [e1]
                exact hq3
              clear hq3 hq4
              go_wp2
              go_end0
              exact ⟨rfl, d2, mer_of HU.out HV.out (by omega) (by omega) (by omega) (by omega) HRo.out HOr.out (by omega) HA.out HB.out (by omega) P2.out.1 P2.out.2 (permIn_refl _ _ _) s3, S3.out⟩
          · by_cases x4 : e < b
            · skip
              have z1 : (s : Int) < (m : Int) := by omega
              have z2 : (m : Int) < (e : Int) := by omega
              have z3 : ¬ (a : Int) < (s : Int) := by omega
              have z4 : (s : Int) < (mid : Int) := by omega
              have z5 : (mid : Int) < (e : Int) := by omega
              have z6 : (e : Int) < (b : Int) := by omega
              have hrot := rotateR_any R N HN.out hM 26 s m e cap d wr hs S1.out (by omega) (by omega) (by omega)
              go_wp2_with (go_at_call 88; refine hrot.mono ?_; rintro e w2 ⟨rfl, d1, hR, S2⟩)
              replace S2 : Aside _ := S2
              have HRo := Lib.hid hR
              have z7 : d1.size = N := hR.perm.1.trans hs
              have hP := rot_parts HU.out HV.out (by omega) (by omega) (by omega) (by omega) hR
              have hm : mid = s + (e - m) := by omega
              rw [← hm] at hP
              have s2 : SortedIn (ltOf cf) a mid d1 := by
                have h := hP.2.1
                have e1 : a = s := by omega
                rw [← e1] at h
                exact h
              have HP := Lib.hid hP
              clear hP hR hm
              have p2 := permIn_refl d1 a mid
              have S3 := S2
              obtain ⟨w3, hw3⟩ : ∃ w3, w2 = w3 := ⟨_, rfl⟩
              rw [hw3] at S3 ⊢
              clear hw3
              obtain ⟨d2, hd2⟩ : ∃ d2, d2 = d1 := ⟨_, rfl⟩
              rw [← hd2] at S3 s2
              replace p2 : PermIn a mid d1 d2 := by rw [hd2]; exact p2
              clear hd2
              go_wp2_with fail
              have z8 : d2.size = N := p2.1.trans z7
              have P2 := Lib.hid (And.intro p2 s2)
              have hq3 := SortedIn.same HP.out.2.2.1 p2 (.inr (Nat.le_refl _))
              have hq4 := SortedIn.same HP.out.2.2.2 p2 (.inr (by omega))
              clear p2 s2
              have hl2 := HIH.out mid e b d2 w3 (by omega) z8 S3.out (by omega) (by omega) (by omega) hq3 hq4
              clear hq3 hq4
              go_wp2_with (go_at_call 70; refine hl2.mono ?_; rintro e w4 ⟨rfl, d3, ⟨p3, s3⟩, S4⟩)
              go_end0
              have S4 : Aside _ := S4
              exact ⟨rfl, d3, mer_of HU.out HV.out (by omega) (by omega) (by omega) (by omega) HRo.out HOr.out (by omega) HA.out HB.out (by omega) P2.out.1 P2.out.2 p3 s3, S4.out⟩
            · skip
              have z1 : (s : Int) < (m : Int) := by omega
              have z2 : (m : Int) < (e : Int) := by omega
              have z3 : ¬ (a : Int) < (s : Int) := by omega
              have z4 : (s : Int) < (mid : Int) := by omega
              have z5 : (mid : Int) < (e : Int) := by omega
              have z6 : ¬ (e : Int) < (b : Int) := by omega
              have hrot := rotateR_any R N HN.out hM 26 s m e cap d wr hs S1.out (by omega) (by omega) (by omega)
              go_wp2_with (go_at_call 88; refine hrot.mono ?_; rintro e w2 ⟨rfl, d1, hR, S2⟩)
              replace S2 : Aside _ := S2
              have HRo := Lib.hid hR
              have z7 : d1.size = N := hR.perm.1.trans hs
              have hP := rot_parts HU.out HV.out (by omega) (by omega) (by omega) (by omega) hR
              have hm : mid = s + (e - m) := by omega
              rw [← hm] at hP
              have s2 : SortedIn (ltOf cf) a mid d1 := by
                have h := hP.2.1
                have e1 : a = s := by omega
                rw [← e1] at h
                exact h
              have HP := Lib.hid hP
              clear hP hR hm
              have p2 := permIn_refl d1 a mid
              have S3 := S2
              obtain ⟨w3, hw3⟩ : ∃ w3, w2 = w3 := ⟨_, rfl⟩
              rw [hw3] at S3 ⊢
              clear hw3
              obtain ⟨d2, hd2⟩ : ∃ d2, d2 = d1 := ⟨_, rfl⟩
              rw [← hd2] at S3 s2
              replace p2 : PermIn a mid d1 d2 := by rw [hd2]; exact p2
              clear hd2
              go_wp2_with fail
              have z8 : d2.size = N := p2.1.trans z7
              have P2 := Lib.hid (And.intro p2 s2)
              have hq3 := SortedIn.same HP.out.2.2.1 p2 (.inr (Nat.le_refl _))
              have hq4 := SortedIn.same HP.out.2.2.2 p2 (.inr (by omega))
              clear p2 s2
              have s3 : SortedIn (ltOf cf) mid b d2 := by
                have e1 : b = e := by omega
                rw [e1]
                exact hq3
              clear hq3 hq4
              go_wp2
              go_end0
              exact ⟨rfl, d2, mer_of HU.out HV.out (by omega) (by omega) (by omega) (by omega) HRo.out HOr.out (by omega) HA.out HB.out (by omega) P2.out.1 P2.out.2 (permIn_refl _ _ _) s3, S3.out⟩
        · exfalso; omega

      · skip
        have x3 : a < s := by omega
        have x4 : e < b := by omega
        by_cases x2 : m < e
        · skip
          have z1 : ¬ (s : Int) < (m : Int) := by omega
          have z2 : (m : Int) < (e : Int) := by omega
          have z3 : (a : Int) < (s : Int) := by omega
          have z4 : (s : Int) < (mid : Int) := by omega
          have z5 : ¬ (mid : Int) < (e : Int) := by omega
          have z6 : (e : Int) < (b : Int) := by omega
          go_wp2_with fail
          have hR : Rot d s m e d := Rot.none (by omega) (by omega) (by omega)
          have S2 := S1
          obtain ⟨w2, hw2⟩ : ∃ w2, wr = w2 := ⟨_, rfl⟩
          rw [hw2] at S2 ⊢
          clear hw2
          obtain ⟨d1, hd1⟩ : ∃ d1, d = d1 := ⟨_, rfl⟩
          rw [hd1] at S2
          replace hR : Rot d s m e d1 := by rw [← hd1]; exact hR
          clear hd1
          have HRo := Lib.hid hR
          have z7 : d1.size = N := hR.perm.1.trans hs
          have hP := rot_parts HU.out HV.out (by omega) (by omega) (by omega) (by omega) hR
          have hm : mid = s + (e - m) := by omega
          rw [← hm] at hP
          have hl := HIH.out a s mid d1 w2 (by omega) z7 S2.out (by omega) (by omega) (by omega) hP.1 hP.2.1
          have HP := Lib.hid hP
          clear hP hR hm
          go_wp2_with (go_at_call_has 70 (Value.int IntKind.i64 (a : Int)); refine hl.mono ?_; rintro e w3 ⟨rfl, d2, ⟨p2, s2⟩, S3⟩)
          replace S3 : Aside _ := S3
          have z8 : d2.size = N := p2.1.trans z7
          have P2 := Lib.hid (And.intro p2 s2)
          have hq3 := SortedIn.same HP.out.2.2.1 p2 (.inr (Nat.le_refl _))
          have hq4 := SortedIn.same HP.out.2.2.2 p2 (.inr (by omega))
          clear p2 s2
          have s3 : SortedIn (ltOf cf) mid b d2 := by
            have e1 : e = mid := by omega
            rw [← e1]
            exact hq4
          clear hq3 hq4
          go_wp2
          go_end0
          exact ⟨rfl, d2, mer_of HU.out HV.out (by omega) (by omega) (by omega) (by omega) HRo.out HOr.out (by omega) HA.out HB.out (by omega) P2.out.1 P2.out.2 (permIn_refl _ _ _) s3, S3.out⟩
        · skip
          have z1 : ¬ (s : Int) < (m : Int) := by omega
          have z2 : ¬ (m : Int) < (e : Int) := by omega
          have z3 : (a : Int) < (s : Int) := by omega
          have z4 : ¬ (s : Int) < (mid : Int) := by omega
          have z5 : ¬ (mid : Int) < (e : Int) := by omega
          have z6 : (e : Int) < (b : Int) := by omega
          go_wp2_with fail
          have hR : Rot d s m e d := Rot.none (by omega) (by omega) (by omega)
          have S2 := S1
          obtain ⟨w2, hw2⟩ : ∃ w2, wr = w2 := ⟨_, rfl⟩
          rw [hw2] at S2 ⊢
          clear hw2
          obtain ⟨d1, hd1⟩ : ∃ d1, d = d1 := ⟨_, rfl⟩
          rw [hd1] at S2
          replace hR : Rot d s m e d1 := by rw [← hd1]; exact hR
          clear hd1
          have HRo := Lib.hid hR
          have z7 : d1.size = N := hR.perm.1.trans hs
          have hP := rot_parts HU.out HV.out (by omega) (by omega) (by omega) (by omega) hR
          have hm : mid = s + (e - m) := by omega
          rw [← hm] at hP
          have s2 : SortedIn (ltOf cf) a mid d1 := by
            have h := hP.1
            have e1 : s = mid := by omega
            rw [e1] at h
            exact h
          have HP := Lib.hid hP
          clear hP hR hm
          have p2 := permIn_refl d1 a mid
          have S3 := S2
          obtain ⟨w3, hw3⟩ : ∃ w3, w2 = w3 := ⟨_, rfl⟩
          rw [hw3] at S3 ⊢
          clear hw3
          obtain ⟨d2, hd2⟩ : ∃ d2, d2 = d1 := ⟨_, rfl⟩
          rw [← hd2] at S3 s2
          replace p2 : PermIn a mid d1 d2 := by rw [hd2]; exact p2
          clear hd2
          go_wp2_with fail
          have z8 : d2.size = N := p2.1.trans z7
          have P2 := Lib.hid (And.intro p2 s2)
          have hq3 := SortedIn.same HP.out.2.2.1 p2 (.inr (Nat.le_refl _))
          have hq4 := SortedIn.same HP.out.2.2.2 p2 (.inr (by omega))
          clear p2 s2
          have s3 : SortedIn (ltOf cf) mid b d2 := by
            have e1 : e = mid := by omega
            rw [← e1]
            exact hq4
          clear hq3 hq4
          go_wp2
          go_end0
          exact ⟨rfl, d2, mer_of HU.out HV.out (by omega) (by omega) (by omega) (by omega) HRo.out HOr.out (by omega) HA.out HB.out (by omega) P2.out.1 P2.out.2 (permIn_refl _ _ _) s3, S3.out⟩
end
end Go.Proofs.YtoogadidbbpplaaGreat
