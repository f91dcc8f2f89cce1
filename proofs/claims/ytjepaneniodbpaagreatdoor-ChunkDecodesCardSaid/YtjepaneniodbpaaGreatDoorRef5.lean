/- The reference of times: form and Put. -/
import Derived.Test.YtjepaneniodbpaaGreatDoorRef6
import Derived.Test.YtjepaneniodbpaaGreatDoorTimLaw
import Derived.Test.YtjepaneniodbpaaGreatDoorGrown
namespace Go.Proofs.YtjepaneniodbpaaGreatDoor
open Go Go.RowKit Go.Sort

theorem form_any (w : World) (x : Int) : Calls Tryz.prog 53 #[.int .i64 x] w fun e w' => e = .returned (.int .i64 (tform x : Int)) ∧ w = w' := by
  by_cases h0 : x = 0
  · subst h0
    go_enter Tryz.func53, Tryz.ntmps53
    go_wp2
    go_ret
    exact ⟨rfl, rfl⟩
  have e0 : (x == 0) = false := by rw [beq_eq_false_iff_ne]; exact h0
  by_cases h1 : -64 ≤ x ∧ x ≤ 63
  · have ht : tform x = 1 := by unfold tform; rw [if_neg h0, if_pos h1]
    rw [ht]
    obtain ⟨a, b⟩ := h1
    go_enter Tryz.func53, Tryz.ntmps53
    go_wp2
    go_ret
    exact ⟨rfl, rfl⟩
  by_cases h2 : -2048 ≤ x ∧ x ≤ 2047
  · have ht : tform x = 2 := by unfold tform; rw [if_neg h0, if_neg h1, if_pos h2]
    rw [ht]
    obtain ⟨a, b⟩ := h2
    by_cases c : -64 ≤ x
    · have c2 : ¬ x ≤ 63 := fun h => h1 ⟨c, h⟩
      go_enter Tryz.func53, Tryz.ntmps53
      go_wp2
      go_ret
      exact ⟨rfl, rfl⟩
    · go_enter Tryz.func53, Tryz.ntmps53
      go_wp2
      go_ret
      exact ⟨rfl, rfl⟩
  by_cases h3 : -2147483648 ≤ x ∧ x ≤ 2147483647
  · have ht : tform x = 3 := by unfold tform; rw [if_neg h0, if_neg h1, if_neg h2, if_pos h3]
    rw [ht]
    obtain ⟨a, b⟩ := h3
    by_cases c : -64 ≤ x
    · have c2 : ¬ x ≤ 63 := fun h => h1 ⟨c, h⟩
      have c3 : -2048 ≤ x := by omega
      have c4 : ¬ x ≤ 2047 := fun h => h2 ⟨c3, h⟩
      go_enter Tryz.func53, Tryz.ntmps53
      go_wp2
      go_ret
      exact ⟨rfl, rfl⟩
    · have c3 : ¬ -2048 ≤ x := by omega
      go_enter Tryz.func53, Tryz.ntmps53
      go_wp2
      go_ret
      exact ⟨rfl, rfl⟩
  · have ht : tform x = 4 := by unfold tform; rw [if_neg h0, if_neg h1, if_neg h2, if_neg h3]
    rw [ht]
    by_cases c : -64 ≤ x
    · have c2 : ¬ x ≤ 63 := fun h => h1 ⟨c, h⟩
      have c3 : -2048 ≤ x := by omega
      have c4 : ¬ x ≤ 2047 := fun h => h2 ⟨c3, h⟩
      have c5 : -2147483648 ≤ x := by omega
      have c6 : ¬ x ≤ 2147483647 := fun h => h3 ⟨c5, h⟩
      go_enter Tryz.func53, Tryz.ntmps53
      go_wp2
      go_ret
      exact ⟨rfl, rfl⟩
    · have c3 : ¬ -2048 ≤ x := by omega
      have c5 : ¬ -2147483648 ≤ x := by omega
      go_enter Tryz.func53, Tryz.ntmps53
      go_wp2
      go_ret
      exact ⟨rfl, rfl⟩

/-- the first k times have been written -/
def TRel (l : List Int) (k : Nat) (pre : List Bool) (d : Int) : Prop :=
  pre.length ≤ 68 * k ∧ ((k = 0 ∧ pre = [] ∧ d = 0) ∨ ∃ last, 0 < k ∧ l[k - 1]? = some last ∧ tput l = pre ++ (chgF last d (l.drop k)).flatMap tbits)
theorem tbits_len (x : Int) : (tbits x).length ≤ 68 := by
  unfold tbits
  have h := tform_le x
  generalize tform x = k at *
  have : k = 0 ∨ k = 1 ∨ k = 2 ∨ k = 3 ∨ k = 4 := by omega
  rcases this with rfl | rfl | rfl | rfl | rfl <;> simp [bitsOf_length, tlen, twid]
theorem TRel.start (l : List Int) : TRel l 0 [] 0 := ⟨by simp, .inl ⟨rfl, rfl, rfl⟩⟩
theorem TRel.first {l : List Int} {v d : Int} {pre : List Bool} (h : TRel l 0 pre d) (hv : l[0]? = some v) : TRel l 1 (pre ++ bitsOf (uw v) 64) d := by
  obtain ⟨h2, h3⟩ := h
  rcases h3 with ⟨_, rfl, rfl⟩ | ⟨_, h, _⟩
  · refine ⟨by simp [bitsOf_length], .inr ⟨v, by omega, hv, ?_⟩⟩
    cases l with
    | nil => simp at hv
    | cons x l =>
      obtain rfl : x = v := by simpa using hv
      rfl
  · omega
theorem TRel.next {l : List Int} {k : Nat} {v last d : Int} {pre : List Bool} (h : TRel l k pre d) (hk : 0 < k) (hv : l[k]? = some v) (hl : l[k - 1]? = some last) :
    TRel l (k + 1) (pre ++ tbits (wrap64 (wrap64 (v - last) - d))) (wrap64 (v - last)) := by
  obtain ⟨h2, h3⟩ := h
  have hlen := tbits_len (wrap64 (wrap64 (v - last) - d))
  rcases h3 with ⟨h, _⟩ | ⟨last', _, h4, h5⟩
  · omega
  · obtain rfl : last' = last := by rw [hl] at h4; exact (Option.some.inj h4).symm
    refine ⟨by rw [List.length_append]; omega, .inr ⟨v, by omega, by simpa using hv, ?_⟩⟩
    obtain ⟨hlt, e⟩ := List.getElem?_eq_some_iff.1 hv
    rw [h5, List.append_assoc]
    congr 1
    rw [List.drop_eq_getElem_cons hlt, e]
    rfl
theorem TRel.done {l : List Int} {pre : List Bool} {d : Int} (h : TRel l l.length pre d) : tput l = pre := by
  obtain ⟨_, h3⟩ := h
  rcases h3 with ⟨h0, rfl, _⟩ | ⟨last, _, _, h5⟩
  · rw [List.eq_nil_of_length_eq_zero h0]; rfl
  · rw [h5, List.drop_length]; simp [chgF]
theorem uw_wrap (x : Int) : IntKind.u64.wrap x = (uw x : Int) := by
  rw [IntKind.wrap_u64]; unfold uw; omega

/-- the three tables of the reference -/
def Tabs (W : World) (g0 g1 g2 : Nat) : Prop :=
  W.heap[g0]? = some (.cells #[.int .u64 0, .int .u64 2, .int .u64 6, .int .u64 14, .int .u64 15] 101 (0, 0)) ∧
  W.heap[g1]? = some (.cells #[.int .i64 1, .int .i64 2, .int .i64 3, .int .i64 4, .int .i64 4] 102 (0, 0)) ∧
  W.heap[g2]? = some (.cells #[.int .i64 0, .int .i64 7, .int .i64 12, .int .i64 32, .int .i64 64] 102 (0, 0))
theorem Tabs.kp {W W' : World} {g0 g1 g2 h h' : Nat} (T : Tabs W g0 g1 g2) (hk : Kp h h' W W') (e0 : g0 ≠ h ∧ g0 ≠ h') (e1 : g1 ≠ h ∧ g1 ≠ h') (e2 : g2 ≠ h ∧ g2 ≠ h') : Tabs W' g0 g1 g2 := by
  obtain ⟨h1, h2, h3⟩ := T
  exact ⟨(hk.block _ (lt_of_block h1) e0.1 e0.2).trans h1, (hk.block _ (lt_of_block h2) e1.1 e1.2).trans h2, (hk.block _ (lt_of_block h3) e2.1 e2.2).trans h3⟩
theorem Tabs.nw {W W' : World} {g0 g1 g2 : Nat} (T : Tabs W g0 g1 g2) (hk : Nw W W') : Tabs W' g0 g1 g2 := by
  obtain ⟨h1, h2, h3⟩ := T
  exact ⟨(hk.block _ (lt_of_block h1)).trans h1, (hk.block _ (lt_of_block h2)).trans h2, (hk.block _ (lt_of_block h3)).trans h3⟩
theorem Tabs.at_ {W : World} {g0 g1 g2 k : Nat} (T : Tabs W g0 g1 g2) (hk : k ≤ 4) : W.cell? ⟨g0, k, none⟩ = some (.int .u64 (tpre k : Int)) ∧ W.cell? ⟨g1, k, none⟩ = some (.int .i64 (tlen k : Int)) ∧ W.cell? ⟨g2, k, none⟩ = some (.int .i64 (twid k : Int)) := by
  obtain ⟨h1, h2, h3⟩ := T
  have : k = 0 ∨ k = 1 ∨ k = 2 ∨ k = 3 ∨ k = 4 := by omega
  rcases this with rfl | rfl | rfl | rfl | rfl <;> exact ⟨by simp [World.cell?, h1, tpre], by simp [World.cell?, h2, tlen], by simp [World.cell?, h3, twid]⟩
theorem tab_le {k : Nat} (hk : k ≤ 4) : tpre k ≤ 15 ∧ tlen k ≤ 4 ∧ twid k ≤ 64 := by
  have : k = 0 ∨ k = 1 ∨ k = 2 ∨ k = 3 ∨ k = 4 := by omega
  rcases this with rfl | rfl | rfl | rfl | rfl <;> simp [tpre, tlen, twid]

set_option maxRecDepth 100000 in
set_option maxHeartbeats 1600000 in
theorem RTPut_any (w : World) (b bl : Nat) (A Al : Option Addr) (m c n cl : Nat) (bs : List Bool) (l : List Int) (hO : Ow w b 4 1 A m c (cB bs)) (hn : n = l.length) (hm : n ≤ 10000) (hb : m ≤ 1000000000) (hbw : b < w.heap.size) (hne : bl ≠ b)
    (hr : Rd w bl Al (cI .i64 l)) :
    Calls Tryz.prog 25 #[.slice A m c, .slice Al n cl] w (AppR w b A m bs (tput l)) := by
  subst hn
  have HO := Lib.hid hO
  have HR := Lib.hid hr
  clear hO hr
  go_enter Tryz.func25, Tryz.ntmps25
  go_wp2_with fail
  have HT : Hid (Tabs (((w.alloc (.cells #[.int .u64 0, .int .u64 2, .int .u64 6, .int .u64 14, .int .u64 15] 101)).alloc (.cells #[.int .i64 1, .int .i64 2, .int .i64 3, .int .i64 4, .int .i64 4] 102)).alloc (.cells #[.int .i64 0, .int .i64 7, .int .i64 12, .int .i64 32, .int .i64 64] 102)) w.heap.size (w.heap.size + 1) (w.heap.size + 1 + 1)) := by
    refine Lib.hid ⟨?_, ?_, ?_⟩
    · rw [heap_alloc_old _ _ (by simp <;> omega), heap_alloc_old _ _ (by simp)]; exact heap_alloc_new _ _
    · rw [heap_alloc_old _ _ (by simp)]; simpa using heap_alloc_new (w.alloc _) _
    · simpa using heap_alloc_new ((w.alloc _).alloc _) _
  have hN : Nw w (((w.alloc (.cells #[.int .u64 0, .int .u64 2, .int .u64 6, .int .u64 14, .int .u64 15] 101)).alloc (.cells #[.int .i64 1, .int .i64 2, .int .i64 3, .int .i64 4, .int .i64 4] 102)).alloc (.cells #[.int .i64 0, .int .i64 7, .int .i64 12, .int .i64 32, .int .i64 64] 102)) := (((Nw.refl w).alloc' _).alloc' _).alloc' _
  generalize ((w.alloc (.cells #[.int .u64 0, .int .u64 2, .int .u64 6, .int .u64 14, .int .u64 15] 101)).alloc (.cells #[.int .i64 1, .int .i64 2, .int .i64 3, .int .i64 4, .int .i64 4] 102)).alloc (.cells #[.int .i64 0, .int .i64 7, .int .i64 12, .int .i64 32, .int .i64 64] 102) = w1 at *
  obtain ⟨g0, hg0⟩ : ∃ g, g = w.heap.size := ⟨_, rfl⟩
  obtain ⟨g1, hg1⟩ : ∃ g, g = w.heap.size + 1 := ⟨_, rfl⟩
  obtain ⟨g2, hg2⟩ : ∃ g, g = w.heap.size + 1 + 1 := ⟨_, rfl⟩
  rw [← hg2, ← hg1, ← hg0] at HT ⊢
  have hge : w.heap.size ≤ g0 ∧ w.heap.size ≤ g1 ∧ w.heap.size ≤ g2 := by omega
  have HGE := Lib.hid hge
  have HN := Lib.hid hN
  clear hg0 hg1 hg2 hge hN
  go_loopw [0, 8, 9] (fun s vd i wr => ∃ k : Nat, k ≤ l.length ∧ i = .int .i64 k ∧ ∃ (pre : List Bool) (d : Int) (M bk : Nat) (Ak : Option Addr) (ck : Nat), s = .slice Ak M ck ∧ vd = .int .i64 d ∧
      Hid (Bst w1 b A m bs wr bk Ak M ck pre) ∧ Hid (TRel l k pre d)) (fun _ _ i _ => l.length - (intOf i).toNat)
  case atStart => exact ⟨0, by omega, rfl, [], 0, m, b, A, c, rfl, rfl, Lib.hid (Bst.start (HO.out.nw HN.out)), Lib.hid (TRel.start l)⟩
  case round =>
    obtain ⟨k, hk, rfl, pre, d, M, bk, Ak, ck, rfl, rfl, HS, hrel⟩ := hrel
    have hK := HS.out.kp
    have hsk := hK.size
    have hs1 := HN.out.size
    have hpl : pre.length ≤ 680000 := by have := hrel.out.1; omega
    have hMb : M ≤ m + 680000 := by have := HS.out.len; omega
    clear hpl
    by_cases hlt : k < l.length
    · have hRl : Rd wr bl Al (cI .i64 l) := (HR.out.nw HN.out).kp hK hne hne
      have HRL := Lib.hid hRl
      obtain ⟨o, rfl, _, hc⟩ := hRl.get (k := k) (by simpa using hlt)
      rw [List.getElem_map] at hc
      have HV := Lib.hid (List.getElem?_eq_getElem hlt)
      generalize l[k] = v at *
      by_cases hk0 : k = 0
      · subst hk0
        rw [Nat.add_zero] at hc
        have i0 : (0 : Int) < (l.length : Int) := by omega
        have e1 := uw_wrap v
        have hul := uw_lt v
        clear hRl hK
        go_wp2_with (go_at_call 52; refine (HS.out.write _ _ (uw v) 64 rfl rfl (by omega) hul (by omega)).mono ?_; rintro e w3 ⟨b3, A3, c3, rfl, h4⟩; have H4 := Lib.hid h4; clear h4)
        go_roundw
        case rel => exact ⟨1, by omega, by go_num, _, d, _, b3, A3, c3, rfl, rfl, H4, Lib.hid (hrel.out.first HV.out)⟩
        case measure => simp [intOf]; omega
      · obtain ⟨o', e', _, hcl⟩ := HRL.out.get (k := k - 1) (by simp; omega)
        obtain rfl : o' = o := by injection e' with e'; injection e' with _ e' _; exact e'.symm
        rw [List.getElem_map] at hcl
        have HL := Lib.hid (List.getElem?_eq_getElem (l := l) (i := k - 1) (by omega))
        generalize l[k - 1] = last at *
        have HNX := Lib.hid (hrel.out.next (by omega) HV.out HL.out)
        have i0 : (0 : Int) ≤ (k : Int) - 1 := by omega
        have i1 : (k : Int) - 1 < (l.length : Int) := by omega
        have i2 : ((k : Int) - 1).toNat = k - 1 := by omega
        have hk0' : ((k : Int) == 0) = false := by rw [beq_eq_false_iff_ne]; omega
        clear hRl hK
        go_wp2_with fail
        go_quiet (fail)
        go_wp2_with fail
        go_quiet (fail)
        generalize hwq : World.drewN _ _ = wq
        have hNq : Nw wr wq := by rw [← hwq]; exact (Nw.drewN _ _).trans (Nw.drewN _ _)
        have HSq := Lib.hid (HS.out.nw hNq)
        clear hwq hc hcl HS HRL hNq
        generalize hx : wrap64 (wrap64 (v - last) - d) = x at *
        generalize hd' : wrap64 (v - last) = d' at *
        have HF := Lib.hid fun W => form_any W x
        have hf := tform_le x
        have HB := Lib.hid (show tbits x = bitsOf (tpre (tform x)) (tlen (tform x)) ++ bitsOf (uw x) (twid (tform x)) from rfl)
        generalize tform x = f at *
        obtain ⟨t1, t2, t3⟩ := tab_le hf
        have e1 := uw_wrap x
        have hul := uw_lt x
        go_wp2_with (go_at_call 53; refine (HF.out _).mono ?_; rintro e w2 ⟨rfl, hw2⟩; subst hw2)
        obtain ⟨ge0, ge1, ge2⟩ := HGE.out
        have HTq := Lib.hid (HT.out.kp HSq.out.kp (by omega) (by omega) (by omega))
        have HTK := Lib.hid fun W (h : Kp b b w1 W) => ((HT.out.kp h (by omega) (by omega) (by omega)).at_ hf).2.2
        have hl0 := lt_of_block HTq.out.1
        have hl1 := lt_of_block HTq.out.2.1
        have q0 : ∀ p : Gp, (grow (wq.drewN p.n) p.os).cell? ⟨g0, f, none⟩ = some (.int .u64 (tpre f : Int)) := cell_gr hl0 (HTq.out.at_ hf).1
        have q1 : ∀ p : Gp, (grow (wq.drewN p.n) p.os).cell? ⟨g1, f, none⟩ = some (.int .i64 (tlen f : Int)) := cell_gr hl1 (HTq.out.at_ hf).2.1
        have f5 : (f : Int) < 5 := by omega
        refine wp_region_gr_tail 7 (by kernel_rfl) (by kernel_rfl) ?_
        simp only [List.take_succ_cons, List.take_zero, List.drop_succ_cons, List.drop_zero]
        repeat (quiet_step (fail))
        refine wpQuiet_nil ?_
        rintro _ ⟨p, rfl⟩
        generalize hw4 : grow (wq.drewN p.n) p.os = w4
        have hn4 : Nw wq w4 := by rw [← hw4]; exact Gr.nw ⟨p, rfl⟩
        have HS4 := Lib.hid (HSq.out.nw hn4)
        clear q0 q1 hw4 hn4 HTq hl0 hl1
        have hn := HNX.out
        rw [HB.out, ← List.append_assoc] at hn
        have HN2 := Lib.hid hn
        clear hn HNX HB
        go_wp2_with (first
          | (go_at_call 52; refine (HS5.out.write _ _ (uw x) (twid f) rfl rfl (by omega) hul (by omega)).mono ?_; rintro e w6 ⟨b6, A6, c6, rfl, h6⟩; have HS6 := Lib.hid h6; clear h6)
          | (go_at_call 52; refine (HS4.out.write _ _ (tpre f) (tlen f) rfl rfl (by omega) (by omega) (by omega)).mono ?_; rintro e w5 ⟨b5, A5, c5, rfl, h5⟩; have HS5 := Lib.hid h5; have q2 := HTK.out _ h5.kp; clear h5))
        go_roundw
        case rel => exact ⟨k + 1, by omega, by go_num, _, d', _, b6, A6, c6, rfl, rfl, HS6, HN2⟩
        case measure => simp [intOf]; omega
    · obtain rfl : k = l.length := by omega
      have hp := hrel.out.done
      go_wp2
      go_ret
      rw [hp]
      obtain ⟨b', A', c', h1, h2, h3, h4, h5⟩ := HS.out.done
      exact ⟨b', A', c', h1, h2, by omega, (HN.out.kp b b).trans h4 (.inl rfl) (.inl rfl), fun e => ⟨HN.out.trans (h5 e).1, by rcases (h5 e).2 with h | h; exact .inl (by omega); exact .inr h⟩⟩
end Go.Proofs.YtjepaneniodbpaaGreatDoor
