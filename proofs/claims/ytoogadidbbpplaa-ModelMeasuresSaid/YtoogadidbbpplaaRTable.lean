/- The reference's table of strings. (Printed by wip/genrtable.py.) -/
import Derived.Test.YtoogadidbbpplaaTblLaw
import Derived.Test.YtoogadidbbpplaaModChk
namespace Go.Proofs.Ytoogadidbbpplaa
open Go Go.RowKit Go.Sort

/-- the gap at k: what stood before it, a cell that does not matter, what has been shifted -/
def gapB (d : List ByteArray) (k : Nat) (v : ByteArray) : List ByteArray := d.take k ++ v :: d.drop k
theorem gapB_length (d : List ByteArray) (k : Nat) (v : ByteArray) (hk : k ≤ d.length) : (gapB d k v).length = d.length + 1 := by
  simp [gapB]; omega
theorem gapB_prev (d : List ByteArray) (k : Nat) (v : ByteArray) (hk : k < d.length) : (gapB d (k + 1) v)[k]? = some d[k] := by
  unfold gapB
  rw [List.getElem?_append_left (by simp; omega), List.getElem?_take]
  simp [hk]
theorem gapB_shift (d : List ByteArray) (k : Nat) (v : ByteArray) (hk : k < d.length) : (gapB d (k + 1) v).set (k + 1) d[k] = gapB d k d[k] := by
  unfold gapB
  rw [List.set_append_right _ _ (by simp; omega)]
  simp only [List.length_take]
  rw [show k + 1 - min (k + 1) d.length = 0 from by omega, List.set_cons_zero, List.take_succ_eq_append_getElem hk, List.append_assoc]
  congr 1
  rw [List.singleton_append, ← List.drop_eq_getElem_cons hk]
theorem gapB_fill (d : List ByteArray) (k : Nat) (v x : ByteArray) (hk : k ≤ d.length) : (gapB d k v).set k x = gapB d k x := by
  unfold gapB
  rw [List.set_append_right _ _ (by simp; omega)]
  simp only [List.length_take]
  rw [show k - min k d.length = 0 from by omega, List.set_cons_zero]
theorem cT_at {w : World} {b n c k : Nat} {e : TypeId} {A : Option Addr} {l : List ByteArray} (h : Ow w b e 1 A n c (cT l)) (hk : k < l.length) : A = some ⟨b, 0, none⟩ ∧ b < w.heap.size ∧ w.cell? ⟨b, k, none⟩ = some (.string l[k]) ∧ w.frozen? ⟨b, k, none⟩ = false := by
  have hl := h.len
  rw [List.length_map] at hl
  obtain ⟨h1, h2, h3, h4⟩ := h.at_ (j := k) (by omega)
  rw [List.getElem?_map, List.getElem?_eq_getElem hk] at h3
  exact ⟨h1, h2, h3, h4⟩

set_option maxRecDepth 100000 in
set_option maxHeartbeats 4000000 in
theorem RTable_any (w : World) (b : Nat) (A : Option Addr) (n c : Nat) (l : List ByteArray) (hn : n = l.length) (hm : n ≤ 1000000) (hr : Rd w b A (cT l)) :
    Calls Try.prog 41 #[.slice A n c] w fun e w' => ∃ g A' c', e = .returned (.slice A' (tbl l).length c') ∧ Ow w' g 9 1 A' (tbl l).length c' ((tbl l).map encStr) ∧ Nw w w' := by
  subst hn
  have HR := Lib.hid hr
  have hbw : l = [] ∨ b < w.heap.size := by
    rcases hr with h | ⟨_, _, h, _⟩
    · left
      have := congrArg List.length h
      rw [List.length_map] at this
      exact List.eq_nil_of_length_eq_zero this
    · exact .inr h
  clear hr
  go_enter Try.func41, Try.ntmps41
  go_wp2
  go_loopw [3, 4] (fun s i wr => ∃ k : Nat, k ≤ l.length ∧ i = .int .i64 k ∧ ∃ (out : List ByteArray) (bk : Nat) (Ak : Option Addr) (ck : Nat), s = .slice Ak out.length ck ∧ out.length ≤ k ∧ Hid (out.Pairwise LtB) ∧ Hid (∀ y, y ∈ out ↔ y ∈ l.take k) ∧
    Hid (Ow wr bk 9 1 Ak out.length ck (cT out)) ∧ w.heap.size ≤ bk ∧ Hid (Nw w wr)) (fun _ i _ => l.length - (intOf i).toNat)
  case atStart => exact ⟨0, by omega, rfl, [], w.heap.size, none, 0, rfl, Nat.le_refl _, Lib.hid List.Pairwise.nil, Lib.hid (by simp), Lib.hid (Ow.nil _ _ _ _), Nat.le_refl _, Lib.hid (Nw.refl _)⟩
  case round =>
    obtain ⟨k, hk, rfl, out, bk, Ak, ck, rfl, hol, HS, HM, HO, hbk, HN⟩ := hrel
    by_cases hlt : k < l.length
    · have hltI : (k : Int) < (l.length : Int) := by omega
      obtain ⟨o, rfl, hbr, hc⟩ := (HR.out.nw HN.out).get (k := k) (by simpa using hlt)
      rw [List.getElem_map] at hc
      have HT := Lib.hid (show ∀ y, y ∈ l.take (k + 1) ↔ y ∈ l.take k ∨ y = l[k] from fun y => by rw [List.take_succ_eq_append_getElem hlt, List.mem_append, List.mem_singleton])
      have hbw' : b < w.heap.size := by
        rcases hbw with h | h
        · subst h; simp at hlt
        · exact h
      obtain ⟨x, hxx⟩ : ∃ x, l[k] = x := ⟨_, rfl⟩
      rw [hxx] at hc HT
      have HXX := Lib.hid hxx
      clear hxx
      obtain ⟨p, hp, hpl, hpr⟩ := place out x
      have HPL := Lib.hid hpl
      have HPR := Lib.hid hpr
      have HCX := Lib.hid fun W (hN : Nw wr W) => cell_old hN hbr hc
      obtain ⟨M, hM⟩ : ∃ M, out.length = M := ⟨_, rfl⟩
      have HMM := Lib.hid hM
      rw [hM] at hol hp HO ⊢
      have hMl : M ≤ 1000000 := by omega
      clear hpl hpr hc hM
      by_cases hpM : p < M
      · by_cases heq : ∀ (h : p < out.length), out[p].toList = x.toList
        · have HEQ := Lib.hid heq
          clear heq
          go_wp2
          go_loopw [5] (fun v wq => ∃ j : Nat, j ≤ p ∧ v = .int .i64 j ∧ Hid (Gr wr wq)) (fun v _ => M - (intOf v).toNat)
          case atStart => exact ⟨0, Nat.zero_le _, rfl, Lib.hid (Gr.refl _)⟩
          case round =>
            obtain ⟨j, hj, rfl, HG⟩ := hrel
            by_cases hjp : j < p
            · have hjM : j < M := by omega
              have hjI : (j : Int) < (M : Int) := by omega
              have hjd : decide ((j : Int) < (M : Int)) = true := by rw [decide_eq_true_iff]; omega
              have hjn : decide (j < M) = true := by rw [decide_eq_true_iff]; omega
              have hjo : j < out.length := by have := HMM.out; omega
              obtain ⟨rfl, hbk2, hcj, _⟩ := cT_at (HO.out.nw HG.out.nw) hjo
              have hB : Op.bytesLess out[j].toList x.toList = true := HPL.out out[j] (by rw [List.mem_take_iff_getElem]; exact ⟨j, by omega, rfl⟩)
              generalize out[j] = z at *
              have q0 : ∀ p' : Gp, (grow (wr.drewN p'.n) p'.os).cell? ⟨bk, j, none⟩ = some (.string z) := cell_gr hbk2 hcj
              have q1 : ∀ p' : Gp, (grow (wr.drewN p'.n) p'.os).cell? ⟨b, o + k, none⟩ = some (.string x) := cell_gr (Nat.lt_of_lt_of_le hbr HG.out.size) (HCX.out _ HG.out.nw)
              clear hcj
              go_wp2_with fail
              refine wp_region_gr (by kernel_rfl) (by kernel_rfl) ?_
              repeat (go_big_quiet_step (first | fail))
              refine wpQuiet_nil ?_
              rintro _ ⟨p', rfl⟩
              have HGz := Lib.hid (HG.out.trans (⟨p', rfl⟩ : Gr wr _))
              go_wp2_with fail
              go_roundw
              case rel => exact ⟨j + 1, by omega, by go_num, HGz⟩
              case measure => simp [intOf]; omega
            · obtain rfl : j = p := by omega
              have Hwr := HG
              have hjI : (j : Int) < (M : Int) := by omega
              have hjd : decide ((j : Int) < (M : Int)) = true := by rw [decide_eq_true_iff]; omega
              have hjn : decide (j < M) = true := by rw [decide_eq_true_iff]; omega
              have hjo : j < out.length := by have := HMM.out; omega
              obtain ⟨rfl, hbk1, hcj, _⟩ := cT_at HO.out hjo
              have HCZ := Lib.hid fun W (hN : Nw _ W) => cell_old hN hbk1 hcj
              have hB : Op.bytesLess out[j].toList x.toList = false := by rw [Bool.eq_false_iff]; exact HPR.out hjo
              have hE : (out[j].toList == x.toList) = true := by rw [beq_iff_eq]; exact HEQ.out hjo
              have HIN := Lib.hid (show x ∈ out from by have h := bytes_ext (HEQ.out hjo); rw [← h]; exact List.getElem_mem hjo)
              generalize out[j] = z at *
              clear hcj
              have q0 : ∀ p' : Gp, (grow (wr.drewN p'.n) p'.os).cell? ⟨bk, j, none⟩ = some (.string z) := cell_gr (Nat.lt_of_lt_of_le hbk1 Hwr.out.size) (HCZ.out _ Hwr.out.nw)
              have q1 : ∀ p' : Gp, (grow (wr.drewN p'.n) p'.os).cell? ⟨b, o + k, none⟩ = some (.string x) := cell_gr (Nat.lt_of_lt_of_le hbr Hwr.out.size) (HCX.out _ Hwr.out.nw)
              go_wp2_with fail
              refine wp_region_gr (by kernel_rfl) (by kernel_rfl) ?_
              repeat (go_big_quiet_step (first | fail))
              refine wpQuiet_nil ?_
              rintro _ ⟨p', rfl⟩
              have Hwz := Lib.hid (Hwr.out.trans (⟨p', rfl⟩ : Gr wr _))
              generalize grow (wr.drewN p'.n) p'.os = wz at *
              clear q0 q1
              have q0 : ∀ p' : Gp, (grow (wz.drewN p'.n) p'.os).cell? ⟨bk, j, none⟩ = some (.string z) := cell_gr (Nat.lt_of_lt_of_le hbk1 Hwz.out.size) (HCZ.out _ Hwz.out.nw)
              have q1 : ∀ p' : Gp, (grow (wz.drewN p'.n) p'.os).cell? ⟨b, o + k, none⟩ = some (.string x) := cell_gr (Nat.lt_of_lt_of_le hbr Hwz.out.size) (HCX.out _ Hwz.out.nw)
              go_wp2_with fail
              refine wp_region_gr (by kernel_rfl) (by kernel_rfl) ?_
              repeat (go_big_quiet_step (first | fail))
              refine wpQuiet_nil ?_
              rintro _ ⟨p', rfl⟩
              have Hwy := Lib.hid (Hwz.out.trans (⟨p', rfl⟩ : Gr wz _))
              generalize grow (wz.drewN p'.n) p'.os = wy at *
              go_wp2_with fail
              go_roundw
              case rel =>
                refine ⟨k + 1, by omega, by go_num, out, bk, _, ck, by rw [HMM.out], by have := HMM.out; omega, HS, Lib.hid fun y => ?_, Lib.hid (by rw [HMM.out]; exact HO.out.nw Hwy.out.nw), hbk, Lib.hid (HN.out.trans Hwy.out.nw)⟩
                rw [HT.out y, ← HM.out y]
                exact ⟨.inl, fun h => by rcases h with h | rfl; exact h; exact HIN.out⟩
              case measure => simp [intOf]; omega
        · have HNE := Lib.hid (show ∀ (h : p < out.length), ¬ out[p].toList = x.toList from fun h h2 => heq fun _ => h2)
          clear heq
          go_wp2
          go_loopw [5] (fun v wq => ∃ j : Nat, j ≤ p ∧ v = .int .i64 j ∧ Hid (Gr wr wq)) (fun v _ => M - (intOf v).toNat)
          case atStart => exact ⟨0, Nat.zero_le _, rfl, Lib.hid (Gr.refl _)⟩
          case round =>
            obtain ⟨j, hj, rfl, HG⟩ := hrel
            by_cases hjp : j < p
            · have hjM : j < M := by omega
              have hjI : (j : Int) < (M : Int) := by omega
              have hjd : decide ((j : Int) < (M : Int)) = true := by rw [decide_eq_true_iff]; omega
              have hjn : decide (j < M) = true := by rw [decide_eq_true_iff]; omega
              have hjo : j < out.length := by have := HMM.out; omega
              obtain ⟨rfl, hbk2, hcj, _⟩ := cT_at (HO.out.nw HG.out.nw) hjo
              have hB : Op.bytesLess out[j].toList x.toList = true := HPL.out out[j] (by rw [List.mem_take_iff_getElem]; exact ⟨j, by omega, rfl⟩)
              generalize out[j] = z at *
              have q0 : ∀ p' : Gp, (grow (wr.drewN p'.n) p'.os).cell? ⟨bk, j, none⟩ = some (.string z) := cell_gr hbk2 hcj
              have q1 : ∀ p' : Gp, (grow (wr.drewN p'.n) p'.os).cell? ⟨b, o + k, none⟩ = some (.string x) := cell_gr (Nat.lt_of_lt_of_le hbr HG.out.size) (HCX.out _ HG.out.nw)
              clear hcj
              go_wp2_with fail
              refine wp_region_gr (by kernel_rfl) (by kernel_rfl) ?_
              repeat (go_big_quiet_step (first | fail))
              refine wpQuiet_nil ?_
              rintro _ ⟨p', rfl⟩
              have HGz := Lib.hid (HG.out.trans (⟨p', rfl⟩ : Gr wr _))
              go_wp2_with fail
              go_roundw
              case rel => exact ⟨j + 1, by omega, by go_num, HGz⟩
              case measure => simp [intOf]; omega
            · obtain rfl : j = p := by omega
              have Hwr := HG
              have hjI : (j : Int) < (M : Int) := by omega
              have hjd : decide ((j : Int) < (M : Int)) = true := by rw [decide_eq_true_iff]; omega
              have hjn : decide (j < M) = true := by rw [decide_eq_true_iff]; omega
              have hjo : j < out.length := by have := HMM.out; omega
              obtain ⟨rfl, hbk1, hcj, _⟩ := cT_at HO.out hjo
              have HCZ := Lib.hid fun W (hN : Nw _ W) => cell_old hN hbk1 hcj
              have hB : Op.bytesLess out[j].toList x.toList = false := by rw [Bool.eq_false_iff]; exact HPR.out hjo
              have hE : (out[j].toList == x.toList) = false := by rw [beq_eq_false_iff_ne]; exact HNE.out hjo
              generalize out[j] = z at *
              clear hcj
              have q0 : ∀ p' : Gp, (grow (wr.drewN p'.n) p'.os).cell? ⟨bk, j, none⟩ = some (.string z) := cell_gr (Nat.lt_of_lt_of_le hbk1 Hwr.out.size) (HCZ.out _ Hwr.out.nw)
              have q1 : ∀ p' : Gp, (grow (wr.drewN p'.n) p'.os).cell? ⟨b, o + k, none⟩ = some (.string x) := cell_gr (Nat.lt_of_lt_of_le hbr Hwr.out.size) (HCX.out _ Hwr.out.nw)
              go_wp2_with fail
              refine wp_region_gr (by kernel_rfl) (by kernel_rfl) ?_
              repeat (go_big_quiet_step (first | fail))
              refine wpQuiet_nil ?_
              rintro _ ⟨p', rfl⟩
              have Hwz := Lib.hid (Hwr.out.trans (⟨p', rfl⟩ : Gr wr _))
              generalize grow (wr.drewN p'.n) p'.os = wz at *
              clear q0 q1
              have q0 : ∀ p' : Gp, (grow (wz.drewN p'.n) p'.os).cell? ⟨bk, j, none⟩ = some (.string z) := cell_gr (Nat.lt_of_lt_of_le hbk1 Hwz.out.size) (HCZ.out _ Hwz.out.nw)
              have q1 : ∀ p' : Gp, (grow (wz.drewN p'.n) p'.os).cell? ⟨b, o + k, none⟩ = some (.string x) := cell_gr (Nat.lt_of_lt_of_le hbr Hwz.out.size) (HCX.out _ Hwz.out.nw)
              go_wp2_with fail
              refine wp_region_gr (by kernel_rfl) (by kernel_rfl) ?_
              repeat (go_big_quiet_step (first | fail))
              refine wpQuiet_nil ?_
              rintro _ ⟨p', rfl⟩
              have Hwy := Lib.hid (Hwz.out.trans (⟨p', rfl⟩ : Gr wz _))
              generalize grow (wz.drewN p'.n) p'.os = wy at *
              clear q0 q1
              have HOz := Lib.hid (HO.out.nw Hwy.out.nw)
              have HNz := Lib.hid (HN.out.trans Hwy.out.nw)
              clear HO
              go_wp2_with (at_builtin; refine wpList_app1 E_str rfl (.tmp 45) (.tmp 46) rfl rfl HOz.out rfl rfl (by omega) (by omega) ?_; intro b3 A3 c3 w3 r1 r2 r3 r4; have R1 := Lib.hid r1; have R2 := Lib.hid r2; have R3 := Lib.hid r3; clear r1 r2 r3 r4)
              have hN3 : Nw w w3 := Kp.nw HNz.out R3.out hbk hbk
              have hb3 : w.heap.size ≤ b3 := by
                rcases R2.out with h | h
                · omega
                · have := HNz.out.size; omega
              have hO3 : Ow w3 b3 9 1 A3 (M + 1) c3 (cT (gapB out M .empty)) := by
                have h := R1.out
                have e : gapB out M .empty = out ++ [.empty] := by unfold gapB; rw [List.take_of_length_le (by have := HMM.out; omega), List.drop_eq_nil_of_le (by have := HMM.out; omega)]
                rw [e]
                unfold cT at h ⊢
                rw [List.map_append]
                exact h
              have HO3 := Lib.hid hO3
              have HN3 := Lib.hid hN3
              obtain ⟨rfl, _, _, _⟩ := hO3.at_ (j := 0) (by omega)
              clear hO3 hN3 R1 R2 R3 HOz HNz
              go_loopw [6] (fun v w4 => ∃ (m : Nat) (z : ByteArray), j ≤ m ∧ m ≤ M ∧ v = .int .i64 m ∧ Hid (Ow w4 b3 9 1 (some ⟨b3, 0, none⟩) (M + 1) c3 (cT (gapB out m z))) ∧ Hid (Nw w w4)) (fun v _ => (intOf v).toNat)
              case atStart => exact ⟨M, .empty, by omega, by omega, by go_num, HO3, HN3⟩
              case round =>
                obtain ⟨m, z, hjm, hmM, rfl, HO4, HN4⟩ := hrel
                have hgl := gapB_length out m z (by have := HMM.out; omega)
                rw [HMM.out] at hgl
                by_cases hmj : j < m
                · obtain ⟨i, rfl⟩ : ∃ i, m = i + 1 := ⟨m - 1, by omega⟩
                  have hio : i < out.length := by have := HMM.out; omega
                  obtain ⟨_, hb4, f0, _⟩ := cT_at (k := i) HO4.out (by omega)
                  obtain ⟨_, _, f9, f2⟩ := cT_at (k := i + 1) HO4.out (by omega)
                  have e0 : (gapB out (i + 1) z)[i]'(by omega) = out[i] := Option.some.inj (by rw [← List.getElem?_eq_getElem, gapB_prev out i z hio])
                  rw [e0] at f0
                  have HSH := Lib.hid (gapB_shift out i z hio)
                  generalize out[i] = y at *
                  obtain ⟨u1, f1⟩ : ∃ u, wr.cell? ⟨b3, i + 1, none⟩ = some u := ⟨_, f9⟩
                  rw [show ((i + 1 : Nat) : Int) = (i : Int) + 1 from by push_cast; rfl]
                  have i0 : (j : Int) < (i : Int) + 1 := by omega
                  have i1 : IntKind.i64.wrap (i : Int) = (i : Int) := IntWalk.i64_in _ (by omega)
                  have i2 : (i : Int) < (M : Int) + 1 := by omega
                  have i3 : (0 : Int) ≤ (i : Int) + 1 := by omega
                  have i4 : (i : Int) + 1 < (M : Int) + 1 := by omega
                  have i5 : ((i : Int) + 1).toNat = i + 1 := by omega
                  clear f9
                  clear e0 hgl
                  go_wp2
                  go_roundw
                  case rel =>
                    refine ⟨i, y, by omega, by omega, by go_num, Lib.hid ?_, Lib.hid (HN4.out.setCell' (by exact hb3) _)⟩
                    have h := HO4.out.set_ (i + 1) (.string y)
                    rw [← HSH.out]
                    unfold cT at h ⊢
                    rw [List.map_set]
                    exact h
                  case measure => first | (simp [intOf]; done) | (simp [intOf]; omega)
                · obtain rfl : m = j := by omega
                  obtain ⟨_, hb4, f9, f2⟩ := cT_at (k := m) HO4.out (by omega)
                  obtain ⟨u1, f1⟩ : ∃ u, wr.cell? ⟨b3, m, none⟩ = some u := ⟨_, f9⟩
                  clear f9
                  have i0 : ¬ (m : Int) < (m : Int) := by omega
                  have i1 : (m : Int) < (M : Int) + 1 := by omega
                  obtain ⟨o9, e9, _, hcx⟩ := (HR.out.nw HN4.out).get (k := k) (by simpa using hlt)
                  obtain rfl : o9 = o := by injection e9 with e9; injection e9 with _ e9 _; exact e9.symm
                  rw [List.getElem_map, HXX.out] at hcx
                  clear hgl
                  go_wp2
                  go_roundw
                  case rel =>
                    have hgl := gapB_length out m x (by have := HMM.out; omega)
                    rw [HMM.out] at hgl
                    refine ⟨k + 1, by omega, by go_num, gapB out m x, b3, some ⟨b3, 0, none⟩, c3, by rw [hgl], by omega, Lib.hid ?_, Lib.hid fun y => ?_, Lib.hid ?_, hb3, Lib.hid (HN4.out.setCell' (by exact hb3) _)⟩
                    · exact asc_ins HS.out HPL.out (fun h => ⟨HPR.out h, HNE.out h⟩)
                    · rw [HT.out y, ← HM.out y]
                      exact mem_ins
                    · rw [hgl]
                      have h := HO4.out.set_ m (.string x)
                      rw [← gapB_fill out m z x (by have := HMM.out; omega)]
                      unfold cT at h ⊢
                      rw [List.map_set]
                      exact h
                  case measure => simp [intOf]; omega
      · obtain rfl : p = M := by omega
        have HNE := Lib.hid (show ∀ (h : p < out.length), ¬ out[p].toList = x.toList from fun h => by have := HMM.out; omega)
        obtain ⟨M, hM2⟩ : ∃ M, M = p := ⟨_, rfl⟩
        rw [← hM2] at HMM hol HO hMl
        have hpp : p ≤ M := by omega
        have hpm : M ≤ p := by omega
        rw [show (Value.slice Ak p ck) = .slice Ak M ck from by rw [hM2]]
        clear hM2 hp hpM
        go_wp2
        go_loopw [5] (fun v wq => ∃ j : Nat, j ≤ p ∧ v = .int .i64 j ∧ Hid (Gr wr wq)) (fun v _ => M - (intOf v).toNat)
        case atStart => exact ⟨0, Nat.zero_le _, rfl, Lib.hid (Gr.refl _)⟩
        case round =>
          obtain ⟨j, hj, rfl, HG⟩ := hrel
          by_cases hjp : j < p
          · have hjM : j < M := by omega
            have hjI : (j : Int) < (M : Int) := by omega
            have hjd : decide ((j : Int) < (M : Int)) = true := by rw [decide_eq_true_iff]; omega
            have hjn : decide (j < M) = true := by rw [decide_eq_true_iff]; omega
            have hjo : j < out.length := by have := HMM.out; omega
            obtain ⟨rfl, hbk2, hcj, _⟩ := cT_at (HO.out.nw HG.out.nw) hjo
            have hB : Op.bytesLess out[j].toList x.toList = true := HPL.out out[j] (by rw [List.mem_take_iff_getElem]; exact ⟨j, by omega, rfl⟩)
            generalize out[j] = z at *
            have q0 : ∀ p' : Gp, (grow (wr.drewN p'.n) p'.os).cell? ⟨bk, j, none⟩ = some (.string z) := cell_gr hbk2 hcj
            have q1 : ∀ p' : Gp, (grow (wr.drewN p'.n) p'.os).cell? ⟨b, o + k, none⟩ = some (.string x) := cell_gr (Nat.lt_of_lt_of_le hbr HG.out.size) (HCX.out _ HG.out.nw)
            clear hcj
            go_wp2_with fail
            refine wp_region_gr (by kernel_rfl) (by kernel_rfl) ?_
            repeat (go_big_quiet_step (first | fail))
            refine wpQuiet_nil ?_
            rintro _ ⟨p', rfl⟩
            have HGz := Lib.hid (HG.out.trans (⟨p', rfl⟩ : Gr wr _))
            go_wp2_with fail
            go_roundw
            case rel => exact ⟨j + 1, by omega, by go_num, HGz⟩
            case measure => simp [intOf]; omega
          · obtain rfl : j = p := by omega
            have Hwr := HG
            have hjI : ¬ (j : Int) < (M : Int) := by omega
            have hjd : decide ((j : Int) < (M : Int)) = false := by rw [decide_eq_false_iff_not]; omega
            have hjn : decide (j < M) = false := by rw [decide_eq_false_iff_not]; omega
            go_wp2_with fail
            refine wp_region_gr (by kernel_rfl) (by kernel_rfl) ?_
            repeat (go_big_quiet_step (first | fail))
            refine wpQuiet_nil ?_
            rintro _ ⟨p', rfl⟩
            have Hwz := Lib.hid (Hwr.out.trans (⟨p', rfl⟩ : Gr wr _))
            generalize grow (wr.drewN p'.n) p'.os = wz at *
            go_wp2_with fail
            refine wp_region_gr (by kernel_rfl) (by kernel_rfl) ?_
            repeat (go_big_quiet_step (first | fail))
            refine wpQuiet_nil ?_
            rintro _ ⟨p', rfl⟩
            have Hwy := Lib.hid (Hwz.out.trans (⟨p', rfl⟩ : Gr wz _))
            generalize grow (wz.drewN p'.n) p'.os = wy at *
            have HOz := Lib.hid (HO.out.nw Hwy.out.nw)
            have HNz := Lib.hid (HN.out.trans Hwy.out.nw)
            clear HO
            go_wp2_with (at_builtin; refine wpList_app1 E_str rfl (.tmp 45) (.tmp 46) rfl rfl HOz.out rfl rfl (by omega) (by omega) ?_; intro b3 A3 c3 w3 r1 r2 r3 r4; have R1 := Lib.hid r1; have R2 := Lib.hid r2; have R3 := Lib.hid r3; clear r1 r2 r3 r4)
            have hN3 : Nw w w3 := Kp.nw HNz.out R3.out hbk hbk
            have hb3 : w.heap.size ≤ b3 := by
              rcases R2.out with h | h
              · omega
              · have := HNz.out.size; omega
            have hO3 : Ow w3 b3 9 1 A3 (M + 1) c3 (cT (gapB out M .empty)) := by
              have h := R1.out
              have e : gapB out M .empty = out ++ [.empty] := by unfold gapB; rw [List.take_of_length_le (by have := HMM.out; omega), List.drop_eq_nil_of_le (by have := HMM.out; omega)]
              rw [e]
              unfold cT at h ⊢
              rw [List.map_append]
              exact h
            have HO3 := Lib.hid hO3
            have HN3 := Lib.hid hN3
            obtain ⟨rfl, _, _, _⟩ := hO3.at_ (j := 0) (by omega)
            clear hO3 hN3 R1 R2 R3 HOz HNz
            go_loopw [6] (fun v w4 => ∃ (m : Nat) (z : ByteArray), j ≤ m ∧ m ≤ M ∧ v = .int .i64 m ∧ Hid (Ow w4 b3 9 1 (some ⟨b3, 0, none⟩) (M + 1) c3 (cT (gapB out m z))) ∧ Hid (Nw w w4)) (fun v _ => (intOf v).toNat)
            case atStart => exact ⟨M, .empty, by omega, by omega, by go_num, HO3, HN3⟩
            case round =>
              obtain ⟨m, z, hjm, hmM, rfl, HO4, HN4⟩ := hrel
              have hgl := gapB_length out m z (by have := HMM.out; omega)
              rw [HMM.out] at hgl
              by_cases hmj : j < m
              · omega
              · obtain rfl : m = j := by omega
                obtain ⟨_, hb4, f9, f2⟩ := cT_at (k := m) HO4.out (by omega)
                obtain ⟨u1, f1⟩ : ∃ u, wr.cell? ⟨b3, m, none⟩ = some u := ⟨_, f9⟩
                clear f9
                have i0 : ¬ (m : Int) < (m : Int) := by omega
                have i1 : (m : Int) < (M : Int) + 1 := by omega
                obtain ⟨o9, e9, _, hcx⟩ := (HR.out.nw HN4.out).get (k := k) (by simpa using hlt)
                obtain rfl : o9 = o := by injection e9 with e9; injection e9 with _ e9 _; exact e9.symm
                rw [List.getElem_map, HXX.out] at hcx
                clear hgl
                go_wp2
                go_roundw
                case rel =>
                  have hgl := gapB_length out m x (by have := HMM.out; omega)
                  rw [HMM.out] at hgl
                  refine ⟨k + 1, by omega, by go_num, gapB out m x, b3, some ⟨b3, 0, none⟩, c3, by rw [hgl], by omega, Lib.hid ?_, Lib.hid fun y => ?_, Lib.hid ?_, hb3, Lib.hid (HN4.out.setCell' (by exact hb3) _)⟩
                  · exact asc_ins HS.out HPL.out (fun h => ⟨HPR.out h, HNE.out h⟩)
                  · rw [HT.out y, ← HM.out y]
                    exact mem_ins
                  · rw [hgl]
                    have h := HO4.out.set_ m (.string x)
                    rw [← gapB_fill out m z x (by have := HMM.out; omega)]
                    unfold cT at h ⊢
                    rw [List.map_set]
                    exact h
                case measure => simp [intOf]; omega
    · obtain rfl : k = l.length := by omega
      have hM := HM.out
      rw [List.take_length] at hM
      have HTB := Lib.hid (tbl_one HS.out hM)
      have hl : out.length = (tbl l).length := by rw [← HTB.out, List.length_map]
      have HL := Lib.hid hl
      clear hM hl
      go_wp2
      go_ret
      refine ⟨bk, Ak, ck, by rw [HL.out]; rfl, ?_, HN.out⟩
      rw [← HL.out, ← HTB.out, enc_bys]
      exact HO.out
end Go.Proofs.Ytoogadidbbpplaa
