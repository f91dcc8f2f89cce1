/- The reference of chunk: parts and Encode. -/
import Derived.Test.YtjepaneniodbpaaGreatDoorRef9
import Derived.Test.YtjepaneniodbpaaGreatDoorRef5
import Derived.Test.YtjepaneniodbpaaGreatDoorChunkEnc
import Derived.Test.YtjepaneniodbpaaGreatDoorSmp
import Derived.Test.YtjepaneniodbpaaGreatDoorTimGet
namespace Go.Proofs.YtjepaneniodbpaaGreatDoor
open Go Go.RowKit Go.Sort

/-- the times and the values of k samples lie in two rows -/
def PartS (w wr : World) (zs : List (Int × Nat)) (k b1 : Nat) (A1 : Option Addr) (c1 b2 : Nat) (A2 : Option Addr) (c2 : Nat) : Prop :=
  Ow wr b1 2 1 A1 k c1 (cI .i64 (tsOf (zs.take k))) ∧ Ow wr b2 25 1 A2 k c2 (cN .u64 (vsOf (zs.take k))) ∧ (k = 0 → A1 = none ∧ c1 = 0 ∧ A2 = none ∧ c2 = 0) ∧ (0 < k → w.heap.size ≤ b1 ∧ w.heap.size ≤ b2 ∧ b1 ≠ b2) ∧ Nw w wr

set_option maxRecDepth 100000 in
set_option maxHeartbeats 1600000 in
theorem parts_any (w : World) (b : Nat) (A : Option Addr) (n c : Nat) (zs : List (Int × Nat)) (hn : n = zs.length) (hm : n ≤ 10000) (hr : Rd w b A (cS zs)) :
    Calls Tryz.prog 22 #[.slice A n c] w fun e w' => ∃ b1 A1 c1 b2 A2 c2, e = .returned (.tuple #[.slice A1 n c1, .slice A2 n c2]) ∧ PartS w w' zs n b1 A1 c1 b2 A2 c2 := by
  subst hn
  have HR := Lib.hid hr
  clear hr
  go_enter Tryz.func22, Tryz.ntmps22
  go_wp2
  go_loopw [4, 5, 6] (fun s u i wr => ∃ k : Nat, k ≤ zs.length ∧ i = .int .i64 k ∧ ∃ (b1 : Nat) (A1 : Option Addr) (c1 b2 : Nat) (A2 : Option Addr) (c2 : Nat), s = .slice A1 k c1 ∧ u = .slice A2 k c2 ∧ PartS w wr zs k b1 A1 c1 b2 A2 c2) (fun _ _ i _ => zs.length - (intOf i).toNat)
  case atStart => exact ⟨0, by omega, rfl, w.heap.size, none, 0, w.heap.size, none, 0, rfl, rfl, ⟨Ow.nil _ _ _ _, Ow.nil _ _ _ _, fun _ => ⟨rfl, rfl, rfl, rfl⟩, by simp, Nw.refl w⟩⟩
  case round =>
    obtain ⟨k, hk, rfl, b1, A1, c1, b2, A2, c2, rfl, rfl, hS⟩ := hrel
    by_cases hlt : k < zs.length
    · obtain ⟨hO1, hO2, hnil, hb12, hN⟩ := hS
      have hsz := hN.size
      obtain ⟨o, rfl, hbw, hc1, hc2⟩ := smp_at HR.out hlt
      have HT := Lib.hid (show zs.take (k + 1) = zs.take k ++ [zs[k]] from List.take_succ_eq_append_getElem hlt)
      generalize zs[k] = z at *
      obtain ⟨t, v⟩ := z
      simp only [] at hc1 hc2
      have hd1 := cell_old hN (by exact hbw) hc1
      have HD2 := Lib.hid fun W (hN : Nw w W) => cell_old hN (by exact hbw) hc2
      clear hc1 hc2
      by_cases hk0 : k = 0
      · subst hk0
        obtain ⟨rfl, rfl, rfl, rfl⟩ := hnil rfl
        have HT1 := Lib.hid (show tsOf (zs.take 1) = [t] ∧ vsOf (zs.take 1) = [v] from by have := HT.out; simp at this; rw [this]; exact ⟨rfl, rfl⟩)
        simp only [Nat.zero_mul, Nat.add_zero] at hd1
        have i0 : (0 : Int) < (zs.length : Int) := by omega
        clear hO1 hO2 hb12 HT
        go_wp2_with (first
          | (at_builtin; refine wpList_app1 E_i64 rfl (.tmp 13) (.tmp 19) rfl rfl (Ow.nil wr wr.heap.size _ _) rfl rfl (by omega) (by omega) ?_; intro b3 A3 c3 w3 h1 h2 h3 h4; have hN3 := hN.trans (h4 rfl).1; have hd2 := HD2.out _ hN3; simp only [Nat.zero_mul, Nat.add_zero] at hd2)
          | (at_builtin; refine wpList_app1 E_u64 rfl (.tmp 21) (.tmp 27) rfl rfl (Ow.nil w3 w3.heap.size _ _) rfl rfl (by omega) (by omega) ?_; intro b4 A4 c4 w4 h5 h6 h7 h8))
        go_roundw
        case rel =>
          have hn4 := (h8 rfl).1
          have hl3 : b3 < w3.heap.size := h1.lt (by omega)
          have := (h4 rfl).2
          have := (h8 rfl).2
          have := (h4 rfl).1.size
          exact ⟨1, by omega, by go_num, b3, A3, c3, b4, A4, c4, rfl, rfl, ⟨by rw [HT1.out.1]; exact h1.nw hn4, by rw [HT1.out.2]; exact h5, by simp, fun _ => ⟨by omega, by omega, by omega⟩, hN3.trans hn4⟩⟩
        case measure => simp [intOf]; omega
      · obtain ⟨hb1, hb2, hbb⟩ := hb12 (by omega)
        have HT1 := Lib.hid (show tsOf (zs.take (k + 1)) = tsOf (zs.take k) ++ [t] ∧ vsOf (zs.take (k + 1)) = vsOf (zs.take k) ++ [v] from by rw [HT.out]; simp)
        have HW1 := Lib.hid hO1
        have HW2 := Lib.hid hO2
        have hb1w := hO1.lt (by omega)
        have hb2w := hO2.lt (by omega)
        clear hO1 hO2 hb12 HT hnil
        go_wp2_with (first
          | (at_builtin; refine wpList_app1 E_i64 rfl (.tmp 13) (.tmp 19) rfl rfl HW1.out rfl rfl (by omega) (by omega) ?_; intro b3 A3 c3 w3 h1 h2 h3 h4; have hN3 := Kp.nw hN h3 hb1 hb1; have hd2 := HD2.out _ hN3; have HW3 := Lib.hid (HW2.out.kp h3 (Ne.symm hbb) (Ne.symm hbb)))
          | (at_builtin; refine wpList_app1 E_u64 rfl (.tmp 21) (.tmp 27) rfl rfl HW3.out rfl rfl (by omega) (by omega) ?_; intro b4 A4 c4 w4 h5 h6 h7 h8))
        go_roundw
        case rel =>
          have hl3 : b3 < w3.heap.size := h1.lt (by omega)
          have hs3 := h3.size
          refine ⟨k + 1, by omega, by go_num, b3, A3, c3, b4, A4, c4, rfl, rfl, ⟨?_, ?_, by simp, fun _ => ⟨by omega, by omega, by omega⟩, Kp.nw hN3 h7 hb2 hb2⟩⟩
          · rw [HT1.out.1]
            simpa using h1.kp h7 (by omega) (by omega)
          · rw [HT1.out.2]
            simpa using h5
        case measure => simp [intOf]; omega
    · obtain rfl : k = zs.length := by omega
      go_wp2
      go_ret2
      exact ⟨b1, A1, c1, b2, A2, c2, rfl, hS⟩

theorem REncode_empty (w : World) (A : Option Addr) (c : Nat) : Calls Tryz.prog 8 #[.slice A 0 c] w fun e w' => e = .returned (.tuple #[.slice none 0 0, .int .i64 21]) ∧ w = w' := by
  go_enter Tryz.func8, Tryz.ntmps8
  go_wp2
  go_ret2
  exact ⟨rfl, rfl⟩
theorem REncode_limit (w : World) (A : Option Addr) (n c : Nat) (h : 120 < n) : Calls Tryz.prog 8 #[.slice A n c] w fun e w' => e = .returned (.tuple #[.slice none 0 0, .int .i64 7]) ∧ w = w' := by
  have n0 : ((n : Int) == 0) = false := by rw [beq_eq_false_iff_ne]; omega
  go_enter Tryz.func8, Tryz.ntmps8
  go_wp2
  go_ret2
  exact ⟨rfl, rfl⟩

theorem tput_pos {ts : List Int} (h : ts ≠ []) : 64 ≤ (tput ts).length := by
  cases ts with
  | nil => exact (h rfl).elim
  | cons t r => simp only [tput, List.length_append, bitsOf_length]; omega

set_option maxRecDepth 100000 in
set_option maxHeartbeats 1600000 in
theorem REncode_ok (w : World) (b : Nat) (A : Option Addr) (n c : Nat) (zs : List (Int × Nat)) (hn : n = zs.length) (h1 : 1 ≤ n) (h120 : n ≤ 120) (hr : Rd w b A (cS zs)) (hx : InS zs) :
    Calls Tryz.prog 8 #[.slice A n c] w fun e w' => ∃ b' A' c', e = .returned (.tuple #[.slice A' (pk (cbits (tsOf zs) (vsOf zs))).length c', .int .i64 0]) ∧
      Ow w' b' 5 1 A' (pk (cbits (tsOf zs) (vsOf zs))).length c' (cN .u8 (pk (cbits (tsOf zs) (vsOf zs)))) ∧ w.heap.size ≤ b' ∧ Nw w w' := by
  have hvl : (vsOf zs).length = n := by simp [hn]
  have htl : (tsOf zs).length = n := by simp [hn]
  have HP := Lib.hid (parts_any w b A n c zs hn (by omega) hr)
  have HC := Lib.hid (cbits_pk (tsOf zs) (vsOf zs) (by omega))
  have hTP := tput_pos (ts := tsOf zs) (by rintro e; rw [e] at htl; simp at htl; omega)
  have hTL := tput_length_le (tsOf zs)
  have hVL := vput_small (vsOf zs) (by omega) hx.v
  have htg := tagOf_in (vsOf zs)
  have HTD := Lib.hid (tagOf_dict (vsOf zs))
  have HXV := Lib.hid hx.v
  have HZ : Hid (zs.take n = zs) := Lib.hid (by rw [hn, List.take_length])
  have n0 : ((n : Int) == 0) = false := by rw [beq_eq_false_iff_ne]; omega
  have HVL := Lib.hid hvl
  have HTL := Lib.hid htl
  generalize hvs : vsOf zs = vs at *
  generalize hts : tsOf zs = ts at *
  have HVS := Lib.hid hvs
  have HTS := Lib.hid hts
  clear hn hr hx hvs hts hvl
  rw [htl] at hTL
  clear htl
  go_enter Tryz.func8, Tryz.ntmps8
  go_wp2_with fail
  refine HP.out.mono ?_
  rintro e w1 ⟨b1, A1, c1, b2, A2, c2, rfl, hO1, hO2, _, hb12, hN1⟩
  rw [HZ.out, HTS.out] at hO1
  rw [HZ.out, HVS.out] at hO2
  obtain ⟨hb1, hb2, hbb⟩ := hb12 (by omega)
  have hb1w := hO1.lt (by omega)
  have hb2w := hO2.lt (by omega)
  have HO1 := Lib.hid hO1
  have HO2 := Lib.hid hO2
  have HCh := Lib.hid (RChoose_any w1 b2 A2 n c2 vs ⟨b1, hb1w, Ne.symm hbb⟩ HVL.out.symm (by omega) hO2.rd HXV.out)
  clear hO1 hO2 hb12 HP
  generalize hT : tagOf vs = T at *
  have HHT := Lib.hid hT
  clear hT
  go_wp2_with fail
  refine HCh.out.mono ?_
  rintro e w2 ⟨rfl, hN2⟩
  have hs2 := hN2.size
  have HP2 := Lib.hid (RTPut_any w2 b2 b1 none A1 0 0 n c1 [] ts (Ow.nil _ _ _ _) HTL.out.symm (by omega) (by omega) (by omega) hbb (HO1.out.rd.nw hN2))
  go_wp2_with fail
  refine HP2.out.mono ?_
  rintro e w3 ⟨b3, A3, c3, rfl, hO3, _, _, hn3⟩
  obtain ⟨hN3, h3⟩ := hn3 rfl
  have hb3 : w2.heap.size ≤ b3 ∧ b3 < w3.heap.size := by
    rcases h3 with h3 | rfl
    · exact ⟨h3, hO3.lt (by omega)⟩
    · rcases hO3 with ⟨_, h, _⟩ | ⟨h, _⟩
      · omega
      · cases h
  clear h3 hn3 HCh HP2
  rw [List.nil_append] at hO3
  rw [Nat.zero_add] at hO3 ⊢
  have HV := Lib.hid (RVPut_any w3 b3 b2 A3 A2 _ c3 n c2 T (tput ts) vs htg HTD.out hO3 HVL.out.symm (by omega) (by omega) hb3.2 (by omega) ((HO2.out.rd.nw hN2).nw hN3) HXV.out)
  have HN3 := Lib.hid ((hN1.trans hN2).trans hN3)
  clear hO3
  generalize htb : tput ts = tb at *
  generalize hvb : vput T vs = vb at *
  go_wp2_with fail
  refine HV.out.mono ?_
  rintro e w4 ⟨b4, A4, c4, rfl, hO4, hb4, hK4, _⟩
  have hs1 := hN1.size
  have hN4 := Kp.nw HN3.out hK4 (by omega) (by omega)
  have HO4 := Lib.hid hO4
  have HN4 := Lib.hid hN4
  have hlen : tb.length + vb.length = (tb ++ vb).length := by simp
  have hc2 : (tb ++ vb).length ≤ 100000 := by simp; omega
  have hC := HC.out
  rw [HVL.out] at hC
  generalize tb ++ vb = cb at *
  have hpl : (pk cb).length ≤ 100000 := by rw [pk_length]; omega
  have e1 : ((T : Int) % 256) = (T : Int) := by omega
  have e2 : ((n : Int) - 1) % 256 = ((n - 1 : Nat) : Int) := by omega
  have HPk := Lib.hid fun W (hN : Nw w4 W) => Pack_any W b4 A4 (tb.length + vb.length) c4 cb hlen (by omega) (HO4.out.nw hN).rd
  have HCC := Lib.hid hC
  clear hO4 hK4 HV hC HC hlen
  generalize tb.length + vb.length = L at *
  go_wp2_with fail
  have hLit := Ow.lit w4 5 1 2 #[.int .u8 (T : Int), .int .u8 ((n : Int) - 1)] rfl (by omega)
  have hNl : Nw w4 (w4.alloc (.cells #[.int .u8 (T : Int), .int .u8 ((n : Int) - 1)] 5)) := (Nw.refl _).alloc' _
  have hs4 := HN4.out.size
  obtain ⟨g5, hg5⟩ : ∃ g, g = w4.heap.size := ⟨_, rfl⟩
  rw [← hg5] at hLit ⊢
  have hge5 : w.heap.size ≤ g5 := by omega
  clear hg5
  generalize w4.alloc (.cells #[.int .u8 (T : Int), .int .u8 ((n : Int) - 1)] 5) = w5 at *
  have HLit := Lib.hid hLit
  have HNL := Lib.hid (HN4.out.trans hNl)
  refine (HPk.out _ hNl).mono ?_
  clear hLit hNl HPk
  rintro e w6 ⟨b6, A6, c6, rfl, hO6, hb6, hN6⟩
  have HO6 := Lib.hid hO6
  have HA6 : Hid (A6 = none → c6 = 0) := Lib.hid (by
    intro e
    rcases HO6.out with ⟨_, _, h, _⟩ | ⟨h, _⟩
    · exact h
    · rw [e] at h; cases h)
  have HN6 := Lib.hid hN6
  clear hO6 hN6
  generalize hpc : pk cb = pc at *
  clear hpc
  go_wp2_with (at_builtin; refine wpList_app E_u8 rfl (.tmp 36) (.tmp 38) rfl rfl (HLit.out.nw HN6.out) rfl HO6.out.rd (by simp) HA6.out (oc_N _ _) (by simp only [maxLen]; omega) (by omega) ?_; intro b7 A7 c7 w7 g1 g2 g3 g4; have G1 := Lib.hid g1; clear g1 g4)
  go_ret2
  rw [HCC.out]
  have hs7 := HNL.out.size
  have hs6 := HN6.out.size
  have hN7 := Kp.nw (HNL.out.trans HN6.out) g3 hge5 hge5
  refine ⟨b7, A7, c7, ?_, ?_, by omega, hN7⟩
  · rw [show (T :: (n - 1) :: pc).length = 2 + pc.length from by simp; omega]
    rfl
  · rw [show (T :: (n - 1) :: pc).length = 2 + pc.length from by simp; omega]
    have g1 := G1.out
    have e : cN .u8 (T :: (n - 1) :: pc) = #[Value.int .u8 (T : Int), .int .u8 ((n : Int) - 1)].toList ++ cN .u8 pc := by
      rw [show ((n : Int) - 1) = ((n - 1 : Nat) : Int) from by omega]
      rfl
    rw [e]
    exact g1
end Go.Proofs.YtjepaneniodbpaaGreatDoor
