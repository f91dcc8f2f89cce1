/- The reference's sorting of samples: tsblockref12.sorted. (Printed by genrsort.py.) -/
import Derived.Test.YtoogadidbbpplaaGreatGap
import Derived.BigQuiet
namespace Go.Proofs.YtoogadidbbpplaaGreat
open Go Go.RowKit Go.Sort Go.Shelf

set_option maxRecDepth 100000 in
set_option maxHeartbeats 4000000 in
theorem RSort_any (w : World) (b : Nat) (A : Option Addr) (n c : Nat) (l : List Smpl) (hI : InSmp w b A n c l) (hn : n ≤ 1000000) :
    Calls Tryz.prog 30 #[.slice A n c] w fun e w' => ∃ g A' c', e = .returned (.slice A' n c') ∧ ∃ l', l'.Perm l ∧ l'.Pairwise (fun x y : Smpl => ¬ y.1 < x.1) ∧ Ow w' g 41 2 A' n c' (cS l') ∧ w.heap.size ≤ g ∧ Nw w w' := by
  have hl := hI.len
  subst hl
  have HR := Lib.hid hI.rd
  have HWF := Lib.hid hI.wf
  clear hI
  go_enter Tryz.func30, Tryz.ntmps30
  go_wp2
  go_loopw [3, 4] (fun s i wr => ∃ (k : Nat) (out : List Smpl) (bk : Nat) (Ak : Option Addr) (ck : Nat), k ≤ l.length ∧ i = .int .i64 k ∧ s = .slice Ak k ck ∧ Hid (out.length = k) ∧ Hid (out.Perm (l.take k)) ∧ Hid (out.Pairwise (fun x y : Smpl => x.1 ≤ y.1)) ∧
    Hid (Ow wr bk 41 2 Ak k ck (cS out)) ∧ w.heap.size ≤ bk ∧ Hid (Nw w wr)) (fun _ i _ => l.length - (intOf i).toNat)
  case atStart => exact ⟨0, [], w.heap.size, none, 0, by omega, rfl, rfl, Lib.hid rfl, Lib.hid (List.Perm.refl _), Lib.hid List.Pairwise.nil, Lib.hid (Ow.nil _ _ _ _), Nat.le_refl _, Lib.hid (Nw.refl _)⟩
  case round =>
    obtain ⟨k, out, bk, Ak, ck, hk, rfl, rfl, HL, HP, HS, HO, hbk, HN⟩ := hrel
    by_cases hlt : k < l.length
    · have hltI : (k : Int) < (l.length : Int) := by omega
      obtain ⟨o, rfl, hbr, hc0, hc1⟩ := two_at (HR.out.nw HN.out) hlt
      have HX := Lib.hid fun W (hN : Nw w W) => two_at (HR.out.nw hN) hlt
      have HG := Lib.hid fun (d : List Smpl) j (h : d.Perm (l.take k)) => gap_take (j := j) hlt h
      have hwf := HWF.out l[k] (List.getElem_mem hlt)
      generalize l[k] = x at *
      have HW := Lib.hid hwf
      go_wp2_with (at_builtin; refine wpList_app2 E_smp rfl (.tmp 14) (.tmp 19) rfl rfl HO.out rfl rfl rfl (by omega) (by omega) ?_; intro b3 A3 c3 w3 r1 r2 r3; have R1 := Lib.hid r1; have R2 := Lib.hid r2; have R3 := Lib.hid r3; clear r1 r2 r3)
      have hN3 : Nw w w3 := Kp.nw HN.out R3.out hbk hbk
      have hb3 : w.heap.size ≤ b3 := by
        rcases R2.out with h | h
        · omega
        · have := HN.out.size; omega
      have hO3 : Ow w3 b3 41 2 A3 (k + 1) c3 (cS (gap out k x)) := by
        have h := R1.out
        rw [gap_end out k x HL.out]
        unfold cS c2 at h ⊢
        rw [List.flatMap_append]
        exact h
      have HO3 := Lib.hid hO3
      have HN3 := Lib.hid hN3
      obtain ⟨rfl, _⟩ := hO3.at_ (j := 0) (by omega)
      have HD0 : Hid (∀ y ∈ out.drop k, x.1 < y.1) := Lib.hid (by rw [List.drop_eq_nil_of_le (by have := HL.out; omega)]; intro y hy; cases hy)
      clear hO3 hN3 R1 R2 R3 HO hc0 hc1
      rename World => wo
      go_loopw [5] (fun v wr => ∃ (j : Nat) (z : Smpl), j ≤ k ∧ v = .int .i64 j ∧ Hid (Ow wr b3 41 2 (some ⟨b3, 0, none⟩) (k + 1) c3 (cS (gap out j z))) ∧ Hid (∀ y ∈ out.drop j, x.1 < y.1) ∧ Hid (Nw w wr)) (fun v _ => (intOf v).toNat)
      case atStart => exact ⟨k, x, Nat.le_refl _, rfl, HO3, HD0, HN3⟩
      case round =>
        clear HO3 HN3 HD0
        obtain ⟨j, z, hj, rfl, HO, HD, HN⟩ := hrel
        have hgl := gap_length out j z (by have := HL.out; omega)
        rw [HL.out] at hgl
        obtain ⟨_, e9, hbw, hx0, hx1⟩ := HX.out wr HN.out
        cases e9
        obtain ⟨_, hb4, v0, v1, v2, v3⟩ := two_ow (k := j) HO.out (by omega)
        by_cases h0 : j = 0
        · have g0 : ¬ (0 : Int) < (j : Int) := by omega
          have g1 : decide ((0 : Int) < (j : Int)) = false := decide_eq_false g0
          have g3 : decide (0 < j) = false := by rw [decide_eq_false_iff_not]; omega
          have H0 := Lib.hid h0
          clear v0 v1 v2 v3 hx0 hx1 h0
          go_wp2_with fail
          refine wp_region_gr (by kernel_rfl) (by kernel_rfl) ?_
          repeat (go_big_quiet_step (first | fail))
          refine wpQuiet_nil ?_
          rintro _ ⟨p', rfl⟩
          have HGr := Lib.hid ((Gr.refl wr).trans (⟨p', rfl⟩ : Gr wr _))
          generalize grow (wr.drewN p'.n) p'.os = wz at *
          obtain ⟨_, _, _, hx0, hx1⟩ := HX.out wz (HN.out.trans HGr.out.nw)
          obtain ⟨_, hb4, y0, y1, v2, v3⟩ := two_ow (k := j) (HO.out.nw HGr.out.nw) (by omega)
          obtain ⟨u0, v0⟩ : ∃ u, wz.cell? ⟨b3, j * 2, none⟩ = some u := ⟨_, y0⟩
          obtain ⟨u1, v1⟩ : ∃ u, wz.cell? ⟨b3, j * 2 + 1, none⟩ = some u := ⟨_, y1⟩
          have i1 : (j : Int) < (k : Int) + 1 := by omega
          clear y0 y1
          go_wp2
          go_roundw
          case rel =>
            refine ⟨k + 1, gap out j x, b3, some ⟨b3, 0, none⟩, c3, by omega, by go_num, rfl, Lib.hid ?_, Lib.hid (HG.out out j HP.out), Lib.hid (gap_sorted HS.out ?_ (fun y hy => by have := HD.out y hy; omega)), Lib.hid ?_, hb3, Lib.hid ((HN.out.trans HGr.out.nw).set2 hb3 _ _)⟩
            · rw [gap_length out j x (by have := HL.out; omega), HL.out]
            · rw [H0.out]; intro y hy; cases hy
            · have h := two_set (k := j) (HO.out.nw HGr.out.nw) x
              rw [gap_fill out j z x (by have := HL.out; omega)] at h
              exact h
          case measure => simp [intOf]; omega
        · obtain ⟨i, hi⟩ : ∃ i, j = i + 1 := ⟨j - 1, by omega⟩
          have g0 : (0 : Int) < (j : Int) := by omega
          have g1 : decide ((0 : Int) < (j : Int)) = true := decide_eq_true g0
          have g3 : decide (0 < j) = true := by rw [decide_eq_true_iff]; omega
          have hio : i < out.length := by have := HL.out; omega
          obtain ⟨_, _, t0, t1, _, _⟩ := two_ow (k := i) HO.out (by omega)
          have e0 : (gap out j z)[i]'(by omega) = out[i] := Option.some.inj (by rw [← List.getElem?_eq_getElem, hi, gap_prev out i z hio])
          rw [e0] at t0 t1
          have HE : Hid ((gap out j z)[i]? = some out[i]) := Lib.hid (by rw [hi]; exact gap_prev out i z hio)
          have HSH := Lib.hid (gap_shift out i z hio)
          have HDR := Lib.hid (show ∀ y ∈ out.drop i, y = out[i] ∨ y ∈ out.drop j from fun y hy => by rw [List.drop_eq_getElem_cons hio, List.mem_cons, ← hi] at hy; exact hy)
          have HTK := Lib.hid (show ∀ y ∈ out.take j, y = out[i] ∨ ¬ out[i].1 < y.1 from fun y hy => by
            rw [hi, List.take_succ_eq_append_getElem hio, List.mem_append, List.mem_singleton] at hy
            rcases hy with hy | hy
            · right
              have h := HS.out
              rw [← List.take_append_drop i out, List.pairwise_append] at h
              have h2 := h.2.2 y hy out[i] (by rw [List.drop_eq_getElem_cons hio]; exact List.mem_cons_self)
              omega
            · exact .inl hy)
          generalize out[i] = y at *
          have Hi : i + 1 ≤ j ∧ j ≤ i + 1 := by omega
          have HI := Lib.hid hi
          clear hi e0
          have j1 : (j : Int) - 1 = (i : Int) := by omega
          have j2 : (i : Int) < (k : Int) + 1 := by omega
          have j3 : (j : Int) < (k : Int) + 1 := by omega
          have q0 : ∀ p' : Gp, (grow (wr.drewN p'.n) p'.os).cell? ⟨b3, i * 2, none⟩ = some (.int .i64 y.1) := cell_gr hb4 t0
          have q1 : ∀ p' : Gp, (grow (wr.drewN p'.n) p'.os).cell? ⟨b, o + k * 2, none⟩ = some (.int .i64 x.1) := cell_gr hbw hx0
          by_cases hy : x.1 < y.1
          · have g2 : decide (x.1 < y.1) = true := decide_eq_true hy
            clear v0 v1 v2 v3 hx0 hx1 t0 t1
            go_wp2_with fail
            refine wp_region_gr (by kernel_rfl) (by kernel_rfl) ?_
            repeat (go_big_quiet_step (first | fail))
            refine wpQuiet_nil ?_
            rintro _ ⟨p', rfl⟩
            have HGr := Lib.hid ((Gr.refl wr).trans (⟨p', rfl⟩ : Gr wr _))
            generalize grow (wr.drewN p'.n) p'.os = wz at *
            clear q0 q1
            obtain ⟨_, hb4, y0, y1, v2, v3⟩ := two_ow (k := j) (HO.out.nw HGr.out.nw) (by omega)
            obtain ⟨u0, v0⟩ : ∃ u, wz.cell? ⟨b3, j * 2, none⟩ = some u := ⟨_, y0⟩
            obtain ⟨u1, v1⟩ : ∃ u, wz.cell? ⟨b3, j * 2 + 1, none⟩ = some u := ⟨_, y1⟩
            obtain ⟨_, _, t0, t1, _, _⟩ := two_ow (k := i) (HO.out.nw HGr.out.nw) (by omega)
            have e0 : (gap out j z)[i]'(by omega) = y := Option.some.inj (by rw [← List.getElem?_eq_getElem, HE.out])
            rw [e0] at t0 t1
            clear e0
            go_wp2
            go_roundw
            case rel =>
              refine ⟨i, y, by omega, by go_num, Lib.hid ?_, Lib.hid (fun t ht => ?_), Lib.hid ((HN.out.trans HGr.out.nw).set2 hb3 _ _)⟩
              · have h := two_set (k := j) (HO.out.nw HGr.out.nw) y
                rw [HI.out, HSH.out, ← HI.out] at h
                exact h
              · rcases HDR.out t ht with rfl | ht
                · exact hy
                · exact HD.out t ht
            case measure => simp [intOf]; omega
          · have g2 : decide (x.1 < y.1) = false := decide_eq_false hy
            clear v0 v1 v2 v3 hx0 hx1 t0 t1
            go_wp2_with fail
            refine wp_region_gr (by kernel_rfl) (by kernel_rfl) ?_
            repeat (go_big_quiet_step (first | fail))
            refine wpQuiet_nil ?_
            rintro _ ⟨p', rfl⟩
            have HGr := Lib.hid ((Gr.refl wr).trans (⟨p', rfl⟩ : Gr wr _))
            generalize grow (wr.drewN p'.n) p'.os = wz at *
            clear q0 q1
            obtain ⟨_, _, _, hx0, hx1⟩ := HX.out wz (HN.out.trans HGr.out.nw)
            obtain ⟨_, hb4, y0, y1, v2, v3⟩ := two_ow (k := j) (HO.out.nw HGr.out.nw) (by omega)
            obtain ⟨u0, v0⟩ : ∃ u, wz.cell? ⟨b3, j * 2, none⟩ = some u := ⟨_, y0⟩
            obtain ⟨u1, v1⟩ : ∃ u, wz.cell? ⟨b3, j * 2 + 1, none⟩ = some u := ⟨_, y1⟩
            have i1 : (j : Int) < (k : Int) + 1 := by omega
            clear y0 y1
            go_wp2
            go_roundw
            case rel =>
              refine ⟨k + 1, gap out j x, b3, some ⟨b3, 0, none⟩, c3, by omega, by go_num, rfl, Lib.hid ?_, Lib.hid (HG.out out j HP.out), Lib.hid (gap_sorted HS.out ?_ (fun y hy => by have := HD.out y hy; omega)), Lib.hid ?_, hb3, Lib.hid ((HN.out.trans HGr.out.nw).set2 hb3 _ _)⟩
              · rw [gap_length out j x (by have := HL.out; omega), HL.out]
              · intro t ht; rcases HTK.out t ht with rfl | h <;> omega
              · have h := two_set (k := j) (HO.out.nw HGr.out.nw) x
                rw [gap_fill out j z x (by have := HL.out; omega)] at h
                exact h
            case measure => simp [intOf]; omega
    · obtain rfl : k = l.length := by omega
      have hP := HP.out
      rw [List.take_length] at hP
      go_wp2
      go_ret
      exact ⟨bk, Ak, ck, rfl, out, hP, HS.out.imp (fun h => by omega), HO.out, hbk, HN.out⟩
end Go.Proofs.YtoogadidbbpplaaGreat
