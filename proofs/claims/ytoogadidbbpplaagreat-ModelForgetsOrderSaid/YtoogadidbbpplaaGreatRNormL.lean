/- The reference's order of a label set: tsblockref11.Normalize. (Printed by genrnorml.py.) -/
import Derived.Test.YtoogadidbbpplaaGreatGap
import Derived.Test.YtoogadidbbpplaaGreatTblLaw
import Derived.BigQuiet
namespace Go.Proofs.YtoogadidbbpplaaGreat
open Go Go.RowKit Go.Sort Go.Shelf

/-- what tsblockref11.Normalize leaves -/
def RNormGot (w : World) (l : List Lab) (e : Ending) (w' : World) : Prop :=
  Nw w w' ∧ ((oneAll l ≠ 0 ∧ e = .returned (.tuple #[.slice none 0 0, .int .i64 (oneAll l : Nat)])) ∨
    (oneAll l = 0 ∧ ¬ (l.map (·.1)).Nodup ∧ e = .returned (.tuple #[.slice none 0 0, .int .i64 18])) ∨
    (oneAll l = 0 ∧ ∃ l' g A c, l'.Perm l ∧ l'.Pairwise (fun x y => LtB x.1 y.1) ∧ e = .returned (.tuple #[.slice A l.length c, .int .i64 0]) ∧ Ow w' g 47 2 A l.length c (cL l') ∧ w.heap.size ≤ g))
theorem oneAll_step {l : List Lab} {k : Nat} (hk : k < l.length) : oneAll (l.drop k) = if oneE l[k] ≠ 0 then oneE l[k] else oneAll (l.drop (k + 1)) := by
  rw [List.drop_eq_getElem_cons hk]; rfl
theorem place1 (out : List Lab) (a : ByteArray) : ∃ p, p ≤ out.length ∧ (∀ y ∈ out.take p, LtB y.1 a) ∧ ∀ (h : p < out.length), ¬ LtB out[p].1 a := by
  obtain ⟨p, h1, h2, h3⟩ := place (out.map (·.1)) a
  rw [List.length_map] at h1
  refine ⟨p, h1, fun y hy => h2 y.1 ?_, fun h => ?_⟩
  · rw [← List.map_take]
    exact List.mem_map.2 ⟨y, hy, rfl⟩
  · have := h3 (by rw [List.length_map]; exact h)
    rwa [List.getElem_map] at this
theorem dup_take {l out : List Lab} {k p : Nat} (hk : k < l.length) (hp : out.Perm (l.take k)) (hpo : p < out.length) (he : out[p].1 = l[k].1) : ¬ (l.map (·.1)).Nodup := by
  intro hn
  have h1 : out[p] ∈ l.take k := hp.mem_iff.1 (List.getElem_mem hpo)
  rw [← List.take_append_drop k l, List.map_append, List.nodup_append] at hn
  refine hn.2.2 _ (List.mem_map.2 ⟨_, h1, rfl⟩) l[k].1 (List.mem_map.2 ⟨l[k], by rw [List.drop_eq_getElem_cons hk]; exact List.mem_cons_self, rfl⟩) he
theorem gap_asc {out : List Lab} {p : Nat} {x : Lab} (h : out.Pairwise (fun x y => LtB x.1 y.1)) (h1 : ∀ y ∈ out.take p, LtB y.1 x.1) (h2 : ∀ (hp : p < out.length), LtB x.1 out[p].1) : (gap out p x).Pairwise (fun x y => LtB x.1 y.1) := by
  refine gap_sorted h h1 (fun y hy => ?_)
  by_cases hp : p < out.length
  · rw [List.drop_eq_getElem_cons hp] at hy
    rcases List.mem_cons.1 hy with rfl | hy
    · exact h2 hp
    · have h3 := h
      rw [← List.take_append_drop p out, List.drop_eq_getElem_cons hp, List.pairwise_append, List.pairwise_cons] at h3
      exact bl_trans _ _ _ (h2 hp) (h3.2.1.1 y hy)
  · rw [List.drop_eq_nil_of_le (by omega)] at hy
    cases hy

set_option maxRecDepth 100000 in
set_option maxHeartbeats 8000000 in
theorem RNormL_any (w : World) (b : Nat) (A : Option Addr) (n c : Nat) (l : List Lab) (hI : InLab w b A n c l) (hn : n ≤ 1000000) :
    Calls Tryz.prog 29 #[.slice A n c] w (RNormGot w l) := by
  have hl := hI.len
  subst hl
  have HR := Lib.hid hI.rd
  clear hI
  go_enter Tryz.func29, Tryz.ntmps29
  go_wp2
  go_loopw [5] (fun i wr => ∃ k : Nat, k ≤ l.length ∧ i = .int .i64 k ∧ Hid (oneAll l = oneAll (l.drop k)) ∧ Hid (Nw w wr)) (fun i _ => l.length - (intOf i).toNat)
  case atStart => exact ⟨0, by omega, rfl, Lib.hid rfl, Lib.hid (Nw.refl _)⟩
  case round =>
    obtain ⟨k, hk, rfl, HX, HN⟩ := hrel
    by_cases hlt : k < l.length
    · have hltI : (k : Int) < (l.length : Int) := by omega
      obtain ⟨o, rfl, hbw, hc0, hc1⟩ := two_at (HR.out.nw HN.out) hlt
      have hX := HX.out
      rw [oneAll_step hlt] at hX
      generalize l[k] = x at *
      obtain ⟨a, d⟩ := x
      dsimp only at hc0 hc1
      have HS := Lib.hid fun W => one_any W a d
      obtain ⟨E, hE⟩ : ∃ E, oneE (a, d) = E := ⟨_, rfl⟩
      rw [hE] at HS hX
      clear hE
      by_cases h0 : E = 0
      · have hE1 : ((E : Int) != 0) = false := by rw [bne_eq_false_iff_eq]; omega
        rw [if_neg (by simpa using h0)] at hX
        have HX2 := Lib.hid hX
        clear hX HX h0
        go_wp2_with (go_at_call 55; refine (HS.out _).mono ?_; rintro e w3 ⟨rfl, hN3⟩)
        go_roundw
        case rel => exact ⟨k + 1, by omega, by go_num, HX2, Lib.hid (HN.out.trans hN3)⟩
        case measure => simp [intOf]; omega
      · have hE1 : ((E : Int) != 0) = true := by rw [bne_iff_ne]; omega
        rw [if_pos h0] at hX
        have HX2 := Lib.hid hX
        have HE := Lib.hid h0
        clear hX HX h0
        go_wp2_with (go_at_call 55; refine (HS.out _).mono ?_; rintro e w3 ⟨rfl, hN3⟩)
        go_ret2
        exact ⟨HN.out.trans hN3, .inl ⟨by rw [HX2.out]; exact HE.out, by rw [HX2.out]; rfl⟩⟩
    · have hltI : ¬ (k : Int) < (l.length : Int) := by omega
      have H0 : Hid (oneAll l = 0) := Lib.hid (by rw [HX.out, List.drop_eq_nil_of_le (by omega)]; rfl)
      clear HX hk hlt
      go_wp2
      rename World => wf
      go_loopw [4, 7] (fun s i wr => ∃ (k : Nat) (out : List Lab) (bk : Nat) (Ak : Option Addr) (ck : Nat), k ≤ l.length ∧ i = .int .i64 k ∧ s = .slice Ak k ck ∧ Hid (out.length = k) ∧ Hid (out.Perm (l.take k)) ∧ Hid (out.Pairwise (fun x y => LtB x.1 y.1)) ∧
        Hid (Ow wr bk 47 2 Ak k ck (cL out)) ∧ w.heap.size ≤ bk ∧ Hid (Nw w wr)) (fun _ i _ => l.length - (intOf i).toNat)
      case atStart => exact ⟨0, [], w.heap.size, none, 0, by omega, rfl, rfl, Lib.hid rfl, Lib.hid (List.Perm.refl _), Lib.hid List.Pairwise.nil, Lib.hid (Ow.nil _ _ _ _), Nat.le_refl _, HN⟩
      case round =>
        clear HN hltI
        obtain ⟨k, out, bk, Ak, ck, hk, rfl, rfl, HL, HP, HS, HO, hbk, HN⟩ := hrel
        by_cases hlt : k < l.length
        · have hltI : (k : Int) < (l.length : Int) := by omega
          obtain ⟨o, rfl, hbr, _, _⟩ := two_at (HR.out.nw HN.out) hlt
          have HX := Lib.hid fun W (hN : Nw w W) => (show W.cell? ⟨b, o + k * 2, none⟩ = some (.string l[k].1) ∧ W.cell? ⟨b, o + k * 2 + 1, none⟩ = some (.string l[k].2) ∧ b < W.heap.size from by
            obtain ⟨o', e, h1, h2, h3⟩ := two_at (HR.out.nw hN) hlt
            cases e
            exact ⟨h2, h3, h1⟩)
          have HG := Lib.hid fun (d : List Lab) j (h : d.Perm (l.take k)) => gap_take (j := j) hlt h
          have HDP := Lib.hid fun p (hp : p < out.length) (he : out[p].1 = l[k].1) => dup_take hlt HP.out hp he
          generalize l[k] = x at *
          obtain ⟨p, hp, hpl, hpr⟩ := place1 out x.1
          have HPL := Lib.hid hpl
          have HPR := Lib.hid hpr
          have hpk : p ≤ k := by have := HL.out; omega
          clear hpl hpr hp
          go_wp2
          rename World => wo
          go_loopw [8] (fun v wr => ∃ j : Nat, j ≤ p ∧ v = .int .i64 j ∧ Hid (Gr wo wr)) (fun v _ => p - (intOf v).toNat)
          case atStart => exact ⟨0, Nat.zero_le _, rfl, Lib.hid (Gr.refl _)⟩
          case round =>
            obtain ⟨j, hj, rfl, Hwr⟩ := hrel
            by_cases hjp : j < p
            · have hjI : (j : Int) < (k : Int) := by omega
              have hjd : decide ((j : Int) < (k : Int)) = true := decide_eq_true hjI
              have hjn : decide (j < k) = true := by rw [decide_eq_true_iff]; omega
              have hjo : j < out.length := by have := HL.out; omega
              obtain ⟨rfl, _⟩ := two_ow (k := j) HO.out hjo
              obtain ⟨z, hz⟩ : ∃ z, out[j] = z := ⟨_, rfl⟩
              have HZ := Lib.hid hz
              have hB : Op.bytesLess z.1.toList x.1.toList = true := by rw [← hz]; exact HPL.out out[j] (by rw [List.mem_take_iff_getElem]; exact ⟨j, by omega, rfl⟩)
              clear hz
              obtain ⟨_, hb4, t0, _, _, _⟩ := two_ow (k := j) (HO.out.nw Hwr.out.nw) (by have := HL.out; omega)
              obtain ⟨x0, _, hbx⟩ := HX.out wr (HN.out.trans Hwr.out.nw)
              have q0 : ∀ p' : Gp, (grow (wr.drewN p'.n) p'.os).cell? ⟨bk, j * 2, none⟩ = some (.string z.1) := cell_gr hb4 (HZ.out ▸ t0)
              have q1 : ∀ p' : Gp, (grow (wr.drewN p'.n) p'.os).cell? ⟨b, o + k * 2, none⟩ = some (.string x.1) := cell_gr hbx x0
              clear t0 x0 hbx hb4
              go_wp2_with fail
              refine wp_region_gr (by kernel_rfl) (by kernel_rfl) ?_
              repeat (go_big_quiet_step (first | fail))
              refine wpQuiet_nil ?_
              rintro _ ⟨p', rfl⟩
              have Hwz := Lib.hid (Hwr.out.trans (⟨p', rfl⟩ : Gr wr _))
              generalize grow (wr.drewN p'.n) p'.os = wz at *
              go_wp2_with fail
              go_roundw
              case rel => exact ⟨j + 1, by omega, by go_num, Hwz⟩
              case measure => simp [intOf]; omega
            · obtain rfl : j = p := by omega
              by_cases hjk : j < k
              · have hjI : (j : Int) < (k : Int) := by omega
                have hjd : decide ((j : Int) < (k : Int)) = true := decide_eq_true hjI
                have hjn : decide (j < k) = true := by rw [decide_eq_true_iff]; omega
                have hjo : j < out.length := by have := HL.out; omega
                obtain ⟨rfl, _⟩ := two_ow (k := j) HO.out hjo
                obtain ⟨z, hz⟩ : ∃ z, out[j] = z := ⟨_, rfl⟩
                have HZ := Lib.hid hz
                have hB : Op.bytesLess z.1.toList x.1.toList = false := by rw [← hz, Bool.eq_false_iff]; exact HPR.out hjo
                clear hz
                obtain ⟨_, hb4, t0, _, _, _⟩ := two_ow (k := j) (HO.out.nw Hwr.out.nw) (by have := HL.out; omega)
                obtain ⟨x0, _, hbx⟩ := HX.out wr (HN.out.trans Hwr.out.nw)
                have q0 : ∀ p' : Gp, (grow (wr.drewN p'.n) p'.os).cell? ⟨bk, j * 2, none⟩ = some (.string z.1) := cell_gr hb4 (HZ.out ▸ t0)
                have q1 : ∀ p' : Gp, (grow (wr.drewN p'.n) p'.os).cell? ⟨b, o + k * 2, none⟩ = some (.string x.1) := cell_gr hbx x0
                clear t0 x0 hbx hb4
                go_wp2_with fail
                refine wp_region_gr (by kernel_rfl) (by kernel_rfl) ?_
                repeat (go_big_quiet_step (first | fail))
                refine wpQuiet_nil ?_
                rintro _ ⟨p', rfl⟩
                have Hwz := Lib.hid (Hwr.out.trans (⟨p', rfl⟩ : Gr wr _))
                generalize grow (wr.drewN p'.n) p'.os = wz at *
                clear q0 q1
                obtain ⟨_, hb4, t0, _, _, _⟩ := two_ow (k := j) (HO.out.nw Hwz.out.nw) (by have := HL.out; omega)
                obtain ⟨x0, _, hbx⟩ := HX.out wz (HN.out.trans Hwz.out.nw)
                have q0 : ∀ p' : Gp, (grow (wz.drewN p'.n) p'.os).cell? ⟨bk, j * 2, none⟩ = some (.string z.1) := cell_gr hb4 (HZ.out ▸ t0)
                have q1 : ∀ p' : Gp, (grow (wz.drewN p'.n) p'.os).cell? ⟨b, o + k * 2, none⟩ = some (.string x.1) := cell_gr hbx x0
                clear t0 x0 hbx hb4
                by_cases hxz : z.1 = x.1
                · have hE : (z.1.toList == x.1.toList) = true := by rw [beq_iff_eq, hxz]
                  have HE := Lib.hid hxz
                  clear hxz
                  go_wp2_with fail
                  refine wp_region_gr (by kernel_rfl) (by kernel_rfl) ?_
                  repeat (go_big_quiet_step (first | fail))
                  refine wpQuiet_nil ?_
                  rintro _ ⟨p', rfl⟩
                  have Hwy := Lib.hid (Hwz.out.trans (⟨p', rfl⟩ : Gr wz _))
                  generalize grow (wz.drewN p'.n) p'.os = wy at *
                  go_wp2
                  go_ret2
                  exact ⟨HN.out.trans Hwy.out.nw, .inr (.inl ⟨H0.out, HDP.out j hjo (by rw [HZ.out]; exact HE.out), rfl⟩)⟩
                · have hE : (z.1.toList == x.1.toList) = false := by rw [beq_eq_false_iff_ne]; exact fun h => hxz (bytes_ext h)
                  have HE := Lib.hid hxz
                  have HLT := Lib.hid (show LtB x.1 z.1 from by
                    rcases bl_total x.1.toList z.1.toList with h | h | h
                    · exact h
                    · exact (hxz (bytes_ext h).symm).elim
                    · rw [h] at hB; cases hB)
                  clear hxz
                  go_wp2_with fail
                  refine wp_region_gr (by kernel_rfl) (by kernel_rfl) ?_
                  repeat (go_big_quiet_step (first | fail))
                  refine wpQuiet_nil ?_
                  rintro _ ⟨p', rfl⟩
                  have Hwy := Lib.hid (Hwz.out.trans (⟨p', rfl⟩ : Gr wz _))
                  generalize grow (wz.drewN p'.n) p'.os = wy at *
                  clear q0 q1
                  obtain ⟨x0, x1, _⟩ := HX.out wy (HN.out.trans Hwy.out.nw)
                  have HOz := Lib.hid (HO.out.nw Hwy.out.nw)
                  have HNz := Lib.hid (HN.out.trans Hwy.out.nw)
                  go_wp2_with (at_builtin; refine wpList_app2 E_lab rfl (.tmp 66) (.tmp 71) rfl rfl HOz.out rfl rfl rfl (by omega) (by omega) ?_; intro b3 A3 c3 w3 r1 r2 r3; have R1 := Lib.hid r1; have R2 := Lib.hid r2; have R3 := Lib.hid r3; clear r1 r2 r3)
                  have hN3 : Nw w w3 := Kp.nw HNz.out R3.out hbk hbk
                  have hb3 : w.heap.size ≤ b3 := by
                    rcases R2.out with h | h
                    · omega
                    · have := HNz.out.size; omega
                  have hO3 : Ow w3 b3 47 2 A3 (k + 1) c3 (cL (gap out k x)) := by
                    have h := R1.out
                    rw [gap_end out k x HL.out]
                    unfold cL c2 at h ⊢
                    rw [List.flatMap_append]
                    exact h
                  have HO3 := Lib.hid hO3
                  have HN3 := Lib.hid hN3
                  obtain ⟨rfl, _⟩ := hO3.at_ (j := 0) (by omega)
                  clear hO3 hN3 R1 R2 R3 HOz HNz x0 x1
                  rename World => wp
                  go_loopw [9] (fun v wr => ∃ (m : Nat) (y : Lab), j ≤ m ∧ m ≤ k ∧ v = .int .i64 m ∧ Hid (Ow wr b3 47 2 (some ⟨b3, 0, none⟩) (k + 1) c3 (cL (gap out m y))) ∧ Hid (Nw w wr)) (fun v _ => (intOf v).toNat)
                  case atStart => exact ⟨k, x, by omega, Nat.le_refl _, by go_num, HO3, HN3⟩
                  case round =>
                    clear HO3 HN3
                    obtain ⟨m, y, hjm, hmM, rfl, HO4, HN4⟩ := hrel
                    have hgl := gap_length out m y (by have := HL.out; omega)
                    rw [HL.out] at hgl
                    have i2 : (m : Int) < (k : Int) + 1 := by omega
                    obtain ⟨_, hb4, y0, y1, v2, v3⟩ := two_ow (k := m) HO4.out (by omega)
                    obtain ⟨u0, v0⟩ : ∃ u, wr.cell? ⟨b3, m * 2, none⟩ = some u := ⟨_, y0⟩
                    obtain ⟨u1, v1⟩ : ∃ u, wr.cell? ⟨b3, m * 2 + 1, none⟩ = some u := ⟨_, y1⟩
                    clear y0 y1
                    by_cases hmj : j < m
                    · skip
                      obtain ⟨i, hi⟩ : ∃ i, m = i + 1 := ⟨m - 1, by omega⟩
                      have hio : i < out.length := by have := HL.out; omega
                      obtain ⟨_, _, t0, t1, _, _⟩ := two_ow (k := i) HO4.out (by omega)
                      have e0 : (gap out m y)[i]'(by omega) = out[i] := Option.some.inj (by rw [← List.getElem?_eq_getElem, hi, gap_prev out i y hio])
                      rw [e0] at t0 t1
                      have HSH := Lib.hid (gap_shift out i y hio)
                      generalize out[i] = s at *
                      have Hi : i + 1 ≤ m ∧ m ≤ i + 1 := by omega
                      have HI := Lib.hid hi
                      clear hi e0 hgl
                      have i0 : (j : Int) < (m : Int) := by omega
                      have i1 : (m : Int) - 1 = (i : Int) := by omega
                      have i3 : (i : Int) < (k : Int) + 1 := by omega
                      go_wp2
                      go_roundw
                      case rel =>
                        refine ⟨i, s, by omega, by omega, by go_num, Lib.hid ?_, Lib.hid (HN4.out.set2 hb3 _ _)⟩
                        have h := two_set (k := m) HO4.out s
                        rw [HI.out, HSH.out, ← HI.out] at h
                        exact h
                      case measure => simp [intOf]; omega
                    · obtain rfl : j = m := by omega
                      have i0 : ¬ (j : Int) < (j : Int) := by omega
                      obtain ⟨x0, x1, _⟩ := HX.out wr HN4.out
                      clear hgl hmj
                      go_wp2
                      go_roundw
                      case rel =>
                        refine ⟨k + 1, gap out j x, b3, some ⟨b3, 0, none⟩, c3, by omega, by go_num, rfl, Lib.hid ?_, Lib.hid (HG.out out j HP.out), Lib.hid (gap_asc HS.out HPL.out (fun _ => by rw [HZ.out]; exact HLT.out)), Lib.hid ?_, hb3, Lib.hid (HN4.out.set2 hb3 _ _)⟩
                        · rw [gap_length out j x (by have := HL.out; omega), HL.out]
                        · have h := two_set (k := j) HO4.out x
                          rw [gap_fill out j y x (by have := HL.out; omega)] at h
                          exact h
                      case measure => simp [intOf]; omega
              · obtain rfl : j = k := by omega
                have hjI : ¬ (j : Int) < (j : Int) := by omega
                have hjd : decide ((j : Int) < (j : Int)) = false := decide_eq_false hjI
                have hjn : decide (j < j) = false := by rw [decide_eq_false_iff_not]; omega
                go_wp2_with fail
                refine wp_region_gr (by kernel_rfl) (by kernel_rfl) ?_
                repeat (go_big_quiet_step (first | fail))
                refine wpQuiet_nil ?_
                rintro _ ⟨p', rfl⟩
                have Hwz := Lib.hid (Hwr.out.trans (⟨p', rfl⟩ : Gr wr _))
                generalize grow (wr.drewN p'.n) p'.os = wz at *
                go_wp2_with fail
                refine wp_region_gr (by kernel_rfl) (by kernel_rfl) ?_
                repeat (go_big_quiet_step (first | fail))
                refine wpQuiet_nil ?_
                rintro _ ⟨p', rfl⟩
                have Hwy := Lib.hid (Hwz.out.trans (⟨p', rfl⟩ : Gr wz _))
                generalize grow (wz.drewN p'.n) p'.os = wy at *
                obtain ⟨x0, x1, _⟩ := HX.out wy (HN.out.trans Hwy.out.nw)
                have HOz := Lib.hid (HO.out.nw Hwy.out.nw)
                have HNz := Lib.hid (HN.out.trans Hwy.out.nw)
                go_wp2_with (at_builtin; refine wpList_app2 E_lab rfl (.tmp 66) (.tmp 71) rfl rfl HOz.out rfl rfl rfl (by omega) (by omega) ?_; intro b3 A3 c3 w3 r1 r2 r3; have R1 := Lib.hid r1; have R2 := Lib.hid r2; have R3 := Lib.hid r3; clear r1 r2 r3)
                have hN3 : Nw w w3 := Kp.nw HNz.out R3.out hbk hbk
                have hb3 : w.heap.size ≤ b3 := by
                  rcases R2.out with h | h
                  · omega
                  · have := HNz.out.size; omega
                have hO3 : Ow w3 b3 47 2 A3 (j + 1) c3 (cL (gap out j x)) := by
                  have h := R1.out
                  rw [gap_end out j x HL.out]
                  unfold cL c2 at h ⊢
                  rw [List.flatMap_append]
                  exact h
                have HO3 := Lib.hid hO3
                have HN3 := Lib.hid hN3
                obtain ⟨rfl, _⟩ := hO3.at_ (j := 0) (by omega)
                clear hO3 hN3 R1 R2 R3 HOz HNz x0 x1
                rename World => wp
                go_loopw [9] (fun v wr => ∃ (m : Nat) (y : Lab), j ≤ m ∧ m ≤ j ∧ v = .int .i64 m ∧ Hid (Ow wr b3 47 2 (some ⟨b3, 0, none⟩) (j + 1) c3 (cL (gap out m y))) ∧ Hid (Nw w wr)) (fun v _ => (intOf v).toNat)
                case atStart => exact ⟨j, x, by omega, Nat.le_refl _, by go_num, HO3, HN3⟩
                case round =>
                  clear HO3 HN3
                  obtain ⟨m, y, hjm, hmM, rfl, HO4, HN4⟩ := hrel
                  have hgl := gap_length out m y (by have := HL.out; omega)
                  rw [HL.out] at hgl
                  have i2 : (m : Int) < (j : Int) + 1 := by omega
                  obtain ⟨_, hb4, y0, y1, v2, v3⟩ := two_ow (k := m) HO4.out (by omega)
                  obtain ⟨u0, v0⟩ : ∃ u, wr.cell? ⟨b3, m * 2, none⟩ = some u := ⟨_, y0⟩
                  obtain ⟨u1, v1⟩ : ∃ u, wr.cell? ⟨b3, m * 2 + 1, none⟩ = some u := ⟨_, y1⟩
                  clear y0 y1
                  by_cases hmj : j < m
                  · exfalso; omega
                  · obtain rfl : j = m := by omega
                    have i0 : ¬ (j : Int) < (j : Int) := by omega
                    obtain ⟨x0, x1, _⟩ := HX.out wr HN4.out
                    clear hgl hmj
                    go_wp2
                    go_roundw
                    case rel =>
                      refine ⟨j + 1, gap out j x, b3, some ⟨b3, 0, none⟩, c3, by omega, by go_num, rfl, Lib.hid ?_, Lib.hid (HG.out out j HP.out), Lib.hid (gap_asc HS.out HPL.out (fun h => by have := HL.out; omega)), Lib.hid ?_, hb3, Lib.hid (HN4.out.set2 hb3 _ _)⟩
                      · rw [gap_length out j x (by have := HL.out; omega), HL.out]
                      · have h := two_set (k := j) HO4.out x
                        rw [gap_fill out j y x (by have := HL.out; omega)] at h
                        exact h
                    case measure => simp [intOf]; omega
        · have hltI : ¬ (k : Int) < (l.length : Int) := by omega
          obtain rfl : k = l.length := by omega
          have hP := HP.out
          rw [List.take_length] at hP
          go_wp2
          go_ret2
          exact ⟨HN.out, .inr (.inr ⟨H0.out, out, bk, Ak, ck, hP, HS.out, rfl, HO.out, hbk⟩)⟩
end Go.Proofs.YtoogadidbbpplaaGreat
