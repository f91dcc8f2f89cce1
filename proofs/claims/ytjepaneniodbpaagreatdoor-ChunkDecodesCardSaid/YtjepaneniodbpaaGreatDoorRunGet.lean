import Derived.Test.YtjepaneniodbpaaGreatDoorRunPut
import Derived.Laws.ResultCell
import Derived.Deep.AppendLies
import Derived.Deep.RegionHeld3

/- runval: getRun, Join. -/
namespace Go.Proofs.YtjepaneniodbpaaGreatDoor
open Go Go.RowKit Go.Sort

theorem results_cell_tmp_row {P : Program} {fn : Func} {p u : Tmp} {ty : TypeId} (h : fn.results = #[.cell p ty, .tmp u]) (tmps : Array Value) (w : World) (g : Nat) (t : TypeId) (cs : Array Value) (fr : Nat × Nat) (d : TypeDesc)
    (hp : tmps.getD p undef = .pointer (some ⟨g, 0, none⟩)) (hg : w.heap[g]? = some (.cells cs t fr))
    (hu : P.underlying ty = some d) (hd : (match d with | .struct _ | .array _ _ => true | _ => false) = true) (hi : (P.info? ty).map (·.size) = some cs.size) :
    (results fn tmps).run P w = .ok (.tuple #[.agg cs, tmps.getD u undef]) w := by
  rw [results_cell_tmp h, hp]
  simp [asAddr, Result.andThen, run_loadVar_row w g t ty cs fr d hg hu hd hi]
theorem two_set {W : World} {g : Nat} {t : TypeId} {u0 u1 : Value} (a b : Value) (h : W.heap[g]? = some (.cells #[u0, u1] t (0, 0))) : ((W.setCell ⟨g, 0, none⟩ a).setCell ⟨g, 1, none⟩ b).heap[g]? = some (.cells #[a, b] t (0, 0)) := by
  simp [World.setCell, Array.getElem?_modify, h]
/-- what getRun says: the bits R are left -/
def RunGot (w : World) (gr b : Nat) (bytes : List Nat) (R : List Bool) (e : Ending) (w' : World) : Prop :=
  Kp gr gr w w' ∧ if R.length < 71 then ∃ x c : Int, e = .returned (.tuple #[.agg #[.int .u64 x, .int .i64 c], .int .i64 3])
    else e = .returned (.tuple #[runV (bv (R.take 64)) (bv ((R.drop 64).take 7) + 1), .int .i64 0]) ∧ ∃ pos, Rdr w' gr b bytes pos ∧ rest bytes pos = R.drop 71

set_option maxRecDepth 100000 in
theorem getRun_any (w : World) (gr b : Nat) (bytes : List Nat) (pos : Nat) (h : Rdr w gr b bytes pos) (hbb0 : bytes = [] ∨ b < w.heap.size) :
    Calls Tryz.prog 73 #[.pointer (some ⟨gr, 0, none⟩)] w (RunGot w gr b bytes (rest bytes pos)) := by
  have hbb : bytes = [] ∨ (b ≠ w.heap.size ∧ b ≠ w.heap.size) := by rcases hbb0 with h | h; exact .inl h; right; omega
  have hwi := h.within
  have hgl := h.lt
  have hlen := rest_length bytes pos
  have hN1 : Nw w (w.alloc (.cells #[.int .u64 0, .int .i64 0] 130)) := (Nw.refl w).alloc' _
  have hR1 := h.nw hN1
  obtain ⟨R, hR⟩ : ∃ R, R = rest bytes pos := ⟨_, rfl⟩
  rw [← hR] at hlen ⊢
  by_cases h64 : R.length < 64
  · have HB := Lib.hid (RBits_eof _ gr b bytes pos 64 hR1 (by omega) (by omega))
    have H71 : Hid (R.length < 71) := Lib.hid (by omega)
    clear h hR1 hR hlen h64 hN1
    go_enter Tryz.func73, Tryz.ntmps73
    go_wp2_with (go_at_call 54; refine HB.out.mono ?_; rintro e w1 ⟨rfl, ⟨q, rfl⟩⟩)
    have hfin : ((((w.alloc (.cells #[.int .u64 0, .int .i64 0] 130)).drewN q).setCell ⟨w.heap.size, 0, none⟩ (.int .u64 0)).setCell ⟨w.heap.size, 1, none⟩ (.int .i64 0)).heap[w.heap.size]? = some (.cells #[.int .u64 0, .int .i64 0] 130 (0, 0)) := by
      have h0 : ((w.alloc (.cells #[.int .u64 0, .int .i64 0] 130)).drewN q).heap[w.heap.size]? = some (.cells #[.int .u64 0, .int .i64 0] 130 (0, 0)) := heap_alloc_new w _
      exact two_set _ _ h0
    refine bodyPost_ret (results_cell_tmp_row rfl _ _ w.heap.size 130 #[.int .u64 0, .int .i64 0] _ _ rfl hfin Tryz.underlying130 rfl (by kernel_rfl)) rfl ?_
    refine ⟨?_, by rw [if_pos H71.out]; exact ⟨0, 0, rfl⟩⟩
    exact (((Kp.refl gr gr w).alloc' _).drewN' q |>.setCell' (p := ⟨w.heap.size, 0, none⟩) (.inr (.inr (Nat.le_refl _))) _).setCell' (p := ⟨w.heap.size, 1, none⟩) (.inr (.inr (Nat.le_refl _))) _
  · have hB := RBits_ok _ gr b bytes pos 64 hR1 (by omega) (by omega)
    rw [← hR] at hB
    have hd1 : rest bytes (pos + 64) = R.drop 64 := rest_take hR.symm
    obtain ⟨_, hu⟩ := bits_take (r := R) (n := 64) (by omega)
    rw [pow64] at hu
    have hlen2 : (R.drop 64).length = 8 * bytes.length - (pos + 64) := by rw [List.length_drop]; omega
    have HB := Lib.hid hB
    have hgo : Hid (∃ x, x = bv (R.take 64)) := Lib.hid ⟨_, rfl⟩
    obtain ⟨x, hx⟩ := hgo.out
    rw [← hx] at HB hu
    have HX := Lib.hid hx
    clear h hR1 hR hB hx
    by_cases h71 : R.length < 71
    · have H71 := Lib.hid h71
      go_enter Tryz.func73, Tryz.ntmps73
      go_wp2_with fail
      refine HB.out.mono ?_
      rintro e w1 ⟨rfl, hR1, hK1⟩
      have hb1 : w1.heap[w.heap.size]? = some (.cells #[.int .u64 0, .int .i64 0] 130 (0, 0)) := (hK1.block _ (by simp) (by omega) (by omega)).trans (heap_alloc_new w _)
      have HB2 := Lib.hid (RBits_eof w1 gr b bytes (pos + 64) 7 hR1 (by omega) (by omega))
      have HBK := Lib.hid hb1
      have HK1 := Lib.hid hK1
      have hz0 : w1.cell? ⟨w.heap.size, 0, none⟩ = some (.int .u64 0) := by simp [World.cell?, hb1]
      have hz1 : w1.cell? ⟨w.heap.size, 1, none⟩ = some (.int .i64 0) := by simp [World.cell?, hb1]
      have hf0 : w1.frozen? ⟨w.heap.size, 0, none⟩ = false := by simp [World.frozen?, hb1]
      have hf1 : w1.frozen? ⟨w.heap.size, 1, none⟩ = false := by simp [World.frozen?, hb1]
      clear hb1 hR1 hK1
      go_wp2_with (go_at_call 54; refine HB2.out.mono ?_; rintro e w2 ⟨rfl, ⟨q, rfl⟩⟩)
      have hfin : (((w1.drewN q).setCell ⟨w.heap.size, 0, none⟩ (.int .u64 (x : Int))).setCell ⟨w.heap.size, 1, none⟩ (.int .i64 1)).heap[w.heap.size]? = some (.cells #[.int .u64 (x : Int), .int .i64 1] 130 (0, 0)) := by
        have h0 : (w1.drewN q).heap[w.heap.size]? = _ := HBK.out
        exact two_set _ _ h0
      refine bodyPost_ret (results_cell_tmp_row rfl _ _ w.heap.size 130 #[.int .u64 (x : Int), .int .i64 1] _ _ rfl hfin Tryz.underlying130 rfl (by kernel_rfl)) rfl ?_
      refine ⟨?_, by rw [if_pos H71.out]; exact ⟨x, 1, rfl⟩⟩
      have k1 : Kp gr gr w w1 := ((Kp.refl gr gr w).alloc' _).trans HK1.out (.inl rfl) (.inl rfl)
      exact ((k1.drewN' q).setCell' (p := ⟨w.heap.size, 0, none⟩) (.inr (.inr (Nat.le_refl _))) _).setCell' (p := ⟨w.heap.size, 1, none⟩) (.inr (.inr (Nat.le_refl _))) _
    · have H71 := Lib.hid h71
      go_enter Tryz.func73, Tryz.ntmps73
      go_wp2_with fail
      refine HB.out.mono ?_
      rintro e w1 ⟨rfl, hR1, hK1⟩
      have hb1 : w1.heap[w.heap.size]? = some (.cells #[.int .u64 0, .int .i64 0] 130 (0, 0)) := (hK1.block _ (by simp) (by omega) (by omega)).trans (heap_alloc_new w _)
      have hB2 := RBits_ok w1 gr b bytes (pos + 64) 7 hR1 (by omega) (by omega)
      rw [hd1] at hB2
      have hd2 : rest bytes (pos + 64 + 7) = R.drop 71 := by rw [rest_take hd1, List.drop_drop]
      obtain ⟨_, hu2⟩ := bits_take (r := R.drop 64) (n := 7) (by omega)
      obtain ⟨y, hy⟩ : ∃ y, y = bv ((R.drop 64).take 7) := ⟨_, rfl⟩
      rw [← hy] at hB2 hu2
      simp only [Nat.reducePow] at hu2
      have HB2 := Lib.hid hB2
      have HY := Lib.hid hy
      have HBK := Lib.hid hb1
      have HK1 := Lib.hid hK1
      have HD2 := Lib.hid hd2
      have hz0 : w1.cell? ⟨w.heap.size, 0, none⟩ = some (.int .u64 0) := by simp [World.cell?, hb1]
      clear hb1 hR1 hK1 hB2 hy hd2 hz0
      go_wp2_with fail
      refine HB2.out.mono ?_
      rintro e w2 ⟨rfl, hR2, hK2⟩
      have hb2 : w2.heap[w.heap.size]? = some (.cells #[.int .u64 0, .int .i64 0] 130 (0, 0)) := (hK2.block _ (lt_of_block HBK.out) (by omega) (by omega)).trans HBK.out
      have hz0 : w2.cell? ⟨w.heap.size, 0, none⟩ = some (.int .u64 0) := by simp [World.cell?, hb2]
      have hz1 : w2.cell? ⟨w.heap.size, 1, none⟩ = some (.int .i64 0) := by simp [World.cell?, hb2]
      have hf0 : w2.frozen? ⟨w.heap.size, 0, none⟩ = false := by simp [World.frozen?, hb2]
      have hf1 : w2.frozen? ⟨w.heap.size, 1, none⟩ = false := by simp [World.frozen?, hb2]
      have HB3 := Lib.hid hb2
      have HR2 := Lib.hid hR2
      have HK2 := Lib.hid hK2
      clear hb2 hR2 hK2
      go_wp2
      have hfin : ((w2.setCell ⟨w.heap.size, 0, none⟩ (.int .u64 (x : Int))).setCell ⟨w.heap.size, 1, none⟩ (.int .i64 ((y : Int) + 1))).heap[w.heap.size]? = some (.cells #[.int .u64 (x : Int), .int .i64 ((y : Int) + 1)] 130 (0, 0)) := by
        simp [World.setCell, Array.getElem?_modify, HB3.out]
      refine bodyPost_ret (results_cell_tmp_row rfl _ _ w.heap.size 130 #[.int .u64 (x : Int), .int .i64 ((y : Int) + 1)] _ _ rfl hfin Tryz.underlying130 rfl (by kernel_rfl)) rfl ?_
      have hkf : Kp w.heap.size w.heap.size w2 ((w2.setCell ⟨w.heap.size, 0, none⟩ (.int .u64 (x : Int))).setCell ⟨w.heap.size, 1, none⟩ (.int .i64 ((y : Int) + 1))) := ((Kp.refl _ _ _).setCell' (p := ⟨w.heap.size, 0, none⟩) (.inl rfl) _).setCell' (p := ⟨w.heap.size, 1, none⟩) (.inl rfl) _
      have k1 : Kp gr gr w w2 := (((Kp.refl gr gr w).alloc' _).trans HK1.out (.inl rfl) (.inl rfl)).trans HK2.out (.inl rfl) (.inl rfl)
      refine ⟨k1.trans hkf (.inr (.inr (Nat.le_refl _))) (.inr (.inr (Nat.le_refl _))), ?_⟩
      rw [if_neg H71.out, ← HX.out, ← HY.out]
      exact ⟨rfl, pos + 64 + 7, HR2.out.off hkf (by omega) (by omega) hbb, HD2.out⟩

/-- runs as cells -/
abbrev rcells (rs : List (Nat × Nat)) : List Value := rs.flatMap fun r => [.int .u64 (r.1 : Int), .int .i64 (r.2 : Int)]
theorem rcells_length (rs : List (Nat × Nat)) : (rcells rs).length = 2 * rs.length := by
  induction rs with
  | nil => rfl
  | cons r rs ih => simp only [rcells, List.flatMap_cons, List.length_append, List.length_cons, List.length_nil] at ih ⊢; omega
theorem rcells_get : ∀ (rs : List (Nat × Nat)) (k : Nat) (hk : k < rs.length), (rcells rs)[2 * k]? = some (.int .u64 (rs[k].1 : Int)) ∧ (rcells rs)[2 * k + 1]? = some (.int .i64 (rs[k].2 : Int)) := by
  intro rs
  induction rs with
  | nil => intro k hk; simp at hk
  | cons r rs ih =>
    intro k hk
    cases k with
    | zero => simp [rcells]
    | succ k =>
      have h := ih k (by simpa using hk)
      simp only [rcells, List.flatMap_cons, List.getElem_cons_succ] at h ⊢
      rw [show 2 * (k + 1) = 2 * k + 2 from by omega, show 2 * k + 2 + 1 = (2 * k + 1) + 2 from by omega]
      exact h
theorem unrun_take (rs : List (Nat × Nat)) (k : Nat) (hk : k < rs.length) : unrun (rs.take (k + 1)) = unrun (rs.take k) ++ List.replicate rs[k].2 rs[k].1 := by
  rw [List.take_succ_eq_append_getElem hk]
  unfold unrun
  rw [List.flatMap_append]
  simp only [List.flatMap_cons, List.flatMap_nil, List.append_nil]

set_option maxRecDepth 100000 in
theorem Join_any (w : World) (bl : Nat) (A : Option Addr) (n c : Nat) (rs : List (Nat × Nat)) (hn : n = rs.length) (hm : total rs ≤ 10000) (hr : Rd w bl A (rcells rs)) (h128 : ∀ r ∈ rs, r.2 ≤ 128) (hn2 : n ≤ 10000) :
    Calls Tryz.prog 74 #[.slice A n c] w fun e w' => ∃ b' A' c', e = .returned (.slice A' (unrun rs).length c') ∧ Ow w' b' 25 1 A' (unrun rs).length c' (cN .u64 (unrun rs)) ∧ w.heap.size ≤ b' ∧ Nw w w' := by
  subst hn
  have H128 := Lib.hid h128
  have htot : ∀ k, (unrun (rs.take k)).length ≤ total rs := by
    intro k
    rw [unrun_length]
    have := List.take_append_drop k rs
    have h2 : total rs = total (rs.take k) + total (rs.drop k) := by
      conv => lhs; rw [← this]
      simp only [total, List.map_append, List.sum_append]
    omega
  have HT := Lib.hid htot
  clear h128 htot
  go_enter Tryz.func74, Tryz.ntmps74
  go_wp2
  go_loopw [3, 8] (fun s i wr => ∃ k : Nat, k ≤ rs.length ∧ i = .int .i64 k ∧ ∃ (m bk : Nat) (Ak : Option Addr) (ck : Nat), m = (unrun (rs.take k)).length ∧ s = .slice Ak m ck ∧ Ow wr bk 25 1 Ak m ck (cN .u64 (unrun (rs.take k))) ∧ w.heap.size ≤ bk ∧ Nw w wr) (fun _ i _ => rs.length - (intOf i).toNat)
  case atStart => exact ⟨0, by omega, rfl, 0, w.heap.size, none, 0, rfl, rfl, Ow.nil _ _ _ _, Nat.le_refl _, Nw.refl w⟩
  case round =>
    obtain ⟨k, hk, rfl, m, bk, Ak, ck, hmk, rfl, hO, hbk, hN⟩ := hrel
    by_cases hlt : k < rs.length
    · obtain ⟨hg0, hg1⟩ := rcells_get rs k hlt
      have h128 := H128.out _ (List.getElem_mem hlt)
      have htk := unrun_take rs k hlt
      have hlen := rcells_length rs
      obtain ⟨o, rfl, hbl, hc0⟩ := (hr.nw hN).get (k := 2 * k) (by omega)
      obtain ⟨o', ho', _, hc1⟩ := (hr.nw hN).get (k := 2 * k + 1) (by omega)
      obtain rfl : o = o' := by simpa using ho'
      rw [List.getElem?_eq_getElem (by omega)] at hg0 hg1
      injection hg0 with hg0
      injection hg1 with hg1
      rw [hg0] at hc0
      rw [hg1] at hc1
      generalize rs[k].1 = v at *
      generalize rs[k].2 = q at *
      have hmm := HT.out k
      have hmm1 := HT.out (k + 1)
      rw [htk, List.length_append, List.length_replicate, ← hmk] at hmm1
      rw [← Nat.add_assoc] at hc1
      rw [Nat.mul_comm 2 k] at hc0 hc1
      have HTK := Lib.hid htk
      have HMK := Lib.hid hmk
      have HO := Lib.hid hO
      have HN := Lib.hid hN
      have hqI : (q : Int) ≤ 128 := by omega
      clear htk hmk hO hN hg0 hg1 ho'
      obtain ⟨wo, hwo⟩ : ∃ wo, wo = wr := ⟨_, rfl⟩
      subst hwo
      go_wp2
      go_loopw [3, 17] (fun s i wq => ∃ j : Nat, j ≤ q ∧ i = .int .i64 j ∧ ∃ (bj : Nat) (Aj : Option Addr) (cj : Nat), s = .slice Aj (m + j) cj ∧ Ow wq bj 25 1 Aj (m + j) cj (cN .u64 (unrun (rs.take k) ++ List.replicate j v)) ∧ w.heap.size ≤ bj ∧ bj ≠ wo.heap.size ∧ (bj = bk ∨ wo.heap.size ≤ bj) ∧ Kp bk bk wo wq ∧
        wq.heap[wo.heap.size]? = some (.cells #[.int .u64 (v : Int), .int .i64 (q : Int)] 130 (0, 0))) (fun _ i _ => q - (intOf i).toNat)
      case atStart =>
        have hN2 : Nw wo (wo.alloc (.cells #[.int .u64 (v : Int), .int .i64 (q : Int)] 130)) := (Nw.refl _).alloc' _
        have hNs := HN.out.size
        rcases HO.out with ⟨rfl, h1, rfl, h2⟩ | ⟨rfl, hlt2, hOw⟩
        · subst h1
          have hnil : unrun (rs.take k) = [] := by simpa using h2
          refine ⟨0, by omega, rfl, wo.heap.size + 1, none, 0, rfl, ?_, by omega, by omega, .inr (by omega), hN2.kp _ _, heap_alloc_new wo _⟩
          rw [hnil]
          exact Ow.nil _ _ _ _
        · refine ⟨0, by omega, rfl, bk, _, ck, rfl, ?_, hbk, by omega, .inl rfl, hN2.kp _ _, heap_alloc_new wo _⟩
          simpa using HO.out.nw hN2
      case round =>
        obtain ⟨j, hj, rfl, bj, Aj, cj, rfl, hOj, hbj, hne, hbn, hK, hb⟩ := hrel
        have hcj0 : wr.cell? ⟨wo.heap.size, 0, none⟩ = some (.int .u64 (v : Int)) := by simp [World.cell?, hb]
        have hcj1 : wr.cell? ⟨wo.heap.size, 1, none⟩ = some (.int .i64 (q : Int)) := by simp [World.cell?, hb]
        have hbl2 := lt_of_block hb
        have HB := Lib.hid hb
        have HK := Lib.hid hK
        have hNs := HN.out.size
        clear hb hK
        by_cases hjq : j < q
        · have hjI : (j : Int) < (q : Int) := by omega
          go_wp2_with (at_builtin; refine wpList_app1 E_u64 rfl (.tmp 19) (.tmp 22) rfl rfl hOj rfl rfl (by omega) (by omega) ?_; intro b1 A1 c1 w5 g1 g2 g3 g4)
          go_roundw
          case rel =>
            refine ⟨j + 1, by omega, by go_num, b1, A1, c1, by rw [← Nat.add_assoc], ?_, by rcases g2 with rfl | g2 <;> omega, by rcases g2 with rfl | g2 <;> omega, by rcases g2 with rfl | g2; exact hbn; right; omega, ?_, (g3.block _ hbl2 (Ne.symm hne) (Ne.symm hne)).trans HB.out⟩
            · rw [List.replicate_succ', ← List.append_assoc, ← Nat.add_assoc]
              simpa using g1
            · refine HK.out.trans g3 ?_ ?_
              all_goals
                rcases hbn with h | h
                · exact .inl h
                · exact .inr (.inr h)
          case measure => simp [intOf]; omega
        · obtain rfl : j = q := by omega
          go_wp2
          go_roundw
          case rel =>
            refine ⟨k + 1, by omega, by go_num, m + j, bj, Aj, cj, by rw [HTK.out, List.length_append, List.length_replicate, HMK.out], rfl, by rw [HTK.out]; exact hOj, hbj, Kp.nw HN.out HK.out hbk hbk⟩
          case measure => simp [intOf]; omega
    · go_wp2
      go_ret
      obtain rfl : k = rs.length := by omega
      rw [List.take_length] at hO hmk
      subst hmk
      exact ⟨bk, Ak, ck, rfl, hO, hbk, hN⟩
end Go.Proofs.YtjepaneniodbpaaGreatDoor

/- runval.Get. -/
namespace Go.Proofs.YtjepaneniodbpaaGreatDoor
open Go Go.RowKit Go.Sort

theorem rgetF_glue (l : List (Nat × Nat)) (f m v c : Nat) (bs : List Bool) : glue l (rgetF (f + 1) m v c bs) =
    if m = 0 then .ok (l, bs) else if bs.length < 71 then .error 3
    else if m < bv ((bs.drop 64).take 7) + 1 ∨ (bv (bs.take 64) = v ∧ c < 128) then .error 8
    else glue (l ++ [(bv (bs.take 64), bv ((bs.drop 64).take 7) + 1)]) (rgetF f (m - (bv ((bs.drop 64).take 7) + 1)) (bv (bs.take 64)) (bv ((bs.drop 64).take 7) + 1) (bs.drop 71)) := by
  conv => lhs; rw [rgetF]
  split
  · simp [glue]
  · split
    · rfl
    · split
      · rfl
      · cases rgetF f (m - (bv ((bs.drop 64).take 7) + 1)) (bv (bs.take 64)) (bv ((bs.drop 64).take 7) + 1) (bs.drop 71) with
        | error e => rfl
        | ok y =>
          obtain ⟨l2, r2⟩ := y
          simp [glue]

def joinX (X : Except Nat (List (Nat × Nat) × List Bool)) : Except Nat (List Nat × List Bool) :=
  match X with
  | .error e => .error e
  | .ok (l, r) => .ok (unrun l, r)
theorem E_run : ElemT Tryz.prog 131 130 (.agg #[.int .u64 0, .int .i64 0]) 2 16 := ElemT.mk' Tryz.underlying131 (by kernel_rfl) rfl (by omega)
theorem rget_join (n : Nat) (bs : List Bool) : rget n bs = joinX (rgetR n bs) := rfl

set_option maxRecDepth 100000 in
set_option maxHeartbeats 1000000 in
theorem rGet_any (w : World) (gr b : Nat) (bytes : List Nat) (pos n : Nat) (h : Rdr w gr b bytes pos) (hb : b < w.heap.size) (hn : n ≤ 10000) :
    Calls Tryz.prog 43 #[.pointer (some ⟨gr, 0, none⟩), .int .i64 (n : Int)] w (XGot w gr b bytes (rget n (rest bytes pos))) := by
  have hgl := h.lt
  have hnil : ∀ W, (binOp .eql 67 (.pointer (some ⟨gr, 0, none⟩)) (.pointer none)).run Tryz.prog W = .ok (.bool false) W := fun _ => by kernel_rfl
  obtain ⟨X, hX⟩ : ∃ X, X = rgetR n (rest bytes pos) := ⟨_, rfl⟩
  have hXe : rget n (rest bytes pos) = joinX X := by rw [hX]; rfl
  rw [hXe]
  have HR := Lib.hid h
  have HX := Lib.hid hX
  clear h hX hXe
  go_enter Tryz.func43, Tryz.ntmps43
  go_wp2
  go_loopw [1, 6] (fun vn vs wr => ∃ (m k f : Nat) (rs : List (Nat × Nat)) (v c bk : Nat) (Ak : Option Addr) (ck p : Nat), vn = .int .i64 m ∧ vs = .slice Ak k ck ∧ k = rs.length ∧ m < f ∧ total rs + m = n ∧ k + m ≤ n ∧ (∀ r ∈ rs, r.2 ≤ 128) ∧ v < 18446744073709551616 ∧ c ≤ 128 ∧
    Ow wr bk 130 2 Ak k ck (rcells rs) ∧ w.heap.size < bk ∧ wr.heap[w.heap.size]? = some (.cells #[.int .u64 (v : Int), .int .i64 (c : Int)] 130 (0, 0)) ∧
    Rdr wr gr b bytes p ∧ Kp gr gr w wr ∧ X = glue rs (rgetF f m v c (rest bytes p))) (fun vn _ _ => (intOf vn).toNat)
  case atStart =>
    have hN : Nw w (w.alloc (.cells #[.int .u64 0, .int .i64 128] 130)) := (Nw.refl w).alloc' _
    refine ⟨n, 0, n + 1, [], 0, 128, w.heap.size + 1, none, 0, pos, rfl, rfl, rfl, by omega, by simp [total], by omega, by simp, by omega, by omega, Ow.nil _ _ _ _, by omega, heap_alloc_new w _, HR.out.nw hN, hN.kp _ _, ?_⟩
    rw [HX.out]
    unfold rgetR
    cases rgetF (n + 1) n 0 128 (rest bytes pos) with
    | error e => rfl
    | ok y => rfl
  case round =>
    obtain ⟨m, k, f, rs, v, c, bk, Ak, ck, p, rfl, rfl, hk, hmf, htot, hkm, h128, hv, hc, hO, hbk, hb7, hR, hK, hXX⟩ := hrel
    subst hk
    obtain ⟨f, rfl⟩ : ∃ f', f = f' + 1 := ⟨f - 1, by omega⟩
    rw [rgetF_glue] at hXX
    by_cases hm0 : m = 0
    · subst hm0
      rw [if_pos rfl] at hXX
      have HJ := Lib.hid (Join_any wr bk Ak rs.length ck rs rfl (by omega) hO.rd h128 (by omega))
      have HXX := Lib.hid hXX
      have HK := Lib.hid hK
      clear hXX hO hb7 hK
      go_wp2_with (go_at_call 74; refine HJ.out.mono ?_; rintro e w2 ⟨b2, A2, c2, rfl, hO2, hb2, hN2⟩)
      go_ret2
      rw [HXX.out]
      have hKs := HK.out.size
      exact ⟨⟨⟨b2, A2, c2, rfl, hO2, by omega⟩, p, hR.nw hN2, rfl⟩, HK.out.nw' hN2⟩
    · rw [if_neg hm0] at hXX
      have hm0I : (0 : Int) < (m : Int) := by omega
      have hKs := hK.size
      have hG := getRun_any wr gr b bytes p hR (.inr (by omega))
      by_cases h71 : (rest bytes p).length < 71
      · rw [if_pos h71] at hXX
        unfold RunGot at hG
        simp only [if_pos h71] at hG
        have HG := Lib.hid hG
        have HXX := Lib.hid hXX
        have HK := Lib.hid hK
        clear hXX hG hO hb7 hK hR h71
        go_wp2_with fail
        refine HG.out.mono ?_
        rintro e w2 ⟨hK2, x, y, rfl⟩
        go_wp2
        go_ret2
        rw [HXX.out]
        exact ⟨⟨rfl, by omega⟩, (HK.out.trans hK2 (.inl rfl) (.inl rfl)).alloc' _⟩
      · rw [if_neg h71] at hXX
        unfold RunGot at hG
        simp only [if_neg h71] at hG
        obtain ⟨_, hu⟩ := bits_take (r := rest bytes p) (n := 64) (by omega)
        rw [pow64] at hu
        obtain ⟨_, hu2⟩ := bits_take (r := (rest bytes p).drop 64) (n := 7) (by rw [List.length_drop]; omega)
        generalize bv ((rest bytes p).take 64) = x at *
        generalize bv (((rest bytes p).drop 64).take 7) = y at *
        simp only [Nat.reducePow] at hu2
        obtain ⟨q, hq⟩ : ∃ q, q = y + 1 := ⟨_, rfl⟩
        rw [← hq] at hXX hG
        have hq1 : 1 ≤ q := by omega
        have hq2 : q ≤ 128 := by omega
        clear hq hu2
        have HG := Lib.hid hG
        have HK := Lib.hid hK
        have HO := Lib.hid hO
        have HB7 := Lib.hid hb7
        have H128 := Lib.hid h128
        clear hG hO hb7 hK hR h71 h128
        go_wp2_with fail
        refine HG.out.mono ?_
        rintro e w2 ⟨hK2, rfl, p2, hR2, hr2⟩
        have hK2s := hK2.size
        have hb7' := (hK2.block _ (lt_of_block HB7.out) (by omega) (by omega)).trans HB7.out
        have hN3 : Nw w2 (w2.alloc (.cells #[.int .u64 (x : Int), .int .i64 (q : Int)] 130)) := (Nw.refl w2).alloc' _
        have hcl0 : (w2.alloc (.cells #[.int .u64 (x : Int), .int .i64 (q : Int)] 130)).cell? ⟨w.heap.size, 0, none⟩ = some (.int .u64 (v : Int)) := cell_old hN3 (lt_of_block hb7') (by simp [World.cell?, hb7'])
        have hcl1 : (w2.alloc (.cells #[.int .u64 (x : Int), .int .i64 (q : Int)] 130)).cell? ⟨w.heap.size, 1, none⟩ = some (.int .i64 (c : Int)) := cell_old hN3 (lt_of_block hb7') (by simp [World.cell?, hb7'])
        have HB7' := Lib.hid hb7'
        have HR2 := Lib.hid hR2
        have HRR := Lib.hid hr2
        have HK2 := Lib.hid hK2
        clear hR2 hr2 hK2 hb7'
        by_cases hA : m < q
        · rw [if_pos (.inl hA)] at hXX
          have HXX := Lib.hid hXX
          have hAI : (m : Int) < (q : Int) := by omega
          clear hXX
          go_wp2
          go_ret2
          rw [HXX.out]
          exact ⟨⟨rfl, by omega⟩, (HK.out.trans HK2.out (.inl rfl) (.inl rfl)).alloc' _⟩
        · have hAI : ¬ (m : Int) < (q : Int) := by omega
          by_cases hB : x = v ∧ c < 128
          · rw [if_pos (.inr hB)] at hXX
            have HXX := Lib.hid hXX
            obtain ⟨rfl, hc128⟩ := hB
            have hcI : (c : Int) < 128 := by omega
            clear hXX
            go_wp2
            go_ret2
            rw [HXX.out]
            exact ⟨⟨rfl, by omega⟩, (HK.out.trans HK2.out (.inl rfl) (.inl rfl)).alloc' _⟩
          · rw [if_neg (fun h => h.elim hA hB)] at hXX
            have HXX := Lib.hid hXX
            clear hXX
            have hgd : ((x : Int) == (v : Int) && decide ((c : Int) < 128)) = false := by
              rw [Bool.and_eq_false_iff, beq_eq_false_iff_ne, decide_eq_false_iff_not]
              by_cases hx : x = v
              · right; intro h; exact hB ⟨hx, by omega⟩
              · left; omega
            clear hB
            by_cases hx : x = v
            · have hc128 : ¬ (c : Int) < 128 := by subst hx; simp at hgd; omega
              have hxv : ((x : Int) == (v : Int)) = true := by rw [beq_iff_eq]; omega
              have HX0 := Lib.hid hx
              clear hx hgd
              go_wp2_with fail
              have hO3 := (HO.out.kp HK2.out (by omega) (by omega)).nw hN3
              have hb83 : (w2.alloc (.cells #[.int .u64 (x : Int), .int .i64 (q : Int)] 130)).heap[w2.heap.size]? = some (.cells #[.int .u64 (x : Int), .int .i64 (q : Int)] 130 (0, 0)) := heap_alloc_new w2 _
              have hb73 : (w2.alloc (.cells #[.int .u64 (x : Int), .int .i64 (q : Int)] 130)).heap[w.heap.size]? = some (.cells #[.int .u64 (v : Int), .int .i64 (c : Int)] 130 (0, 0)) := (hN3.block _ (lt_of_block HB7'.out)).trans HB7'.out
              have hR3 := HR2.out.nw hN3
              have hK3 : Kp gr gr w (w2.alloc (.cells #[.int .u64 (x : Int), .int .i64 (q : Int)] 130)) := (HK.out.trans HK2.out (.inl rfl) (.inl rfl)).alloc' _
              have ht8 : w.heap.size < w2.heap.size := lt_of_block HB7'.out
              have hbT : Ak = none ∨ (Ak = some ⟨bk, 0, none⟩ ∧ bk < w2.heap.size) := by
                rcases HO.out.kp HK2.out (by omega) (by omega) with ⟨h, _⟩ | ⟨h, h', _⟩
                · exact .inl h
                · exact .inr ⟨h, h'⟩
              generalize hw3 : w2.alloc (.cells #[.int .u64 (x : Int), .int .i64 (q : Int)] 130) = w3 at *
              generalize w2.heap.size = T8 at *
              have h8l := lt_of_block hb83
              have h7l := lt_of_block hb73
              have hs0 : w3.cell? ⟨T8, 0, none⟩ = some (.int .u64 (x : Int)) := by simp [World.cell?, hb83]
              have hs1 : w3.cell? ⟨T8, 1, none⟩ = some (.int .i64 (q : Int)) := by simp [World.cell?, hb83]
              obtain ⟨i0, hi, hz0, hz1, hz2⟩ := E_run.info
              have HOW := Lib.hid fun W (hN : Nw w3 W) => (hO3.nw hN).row
              have HO3 := Lib.hid hO3
              have HR3 := Lib.hid hR3
              have HK3 := Lib.hid hK3
              have HB73 := Lib.hid hb73
              have HB83 := Lib.hid hb83
              have hlr : rs.length ≤ 10000 := by omega
              have HOB8 : Hid (some T8 ≠ (Value.slice Ak rs.length ck).ownBlock) := Lib.hid (by
                rcases hbT with rfl | ⟨rfl, h⟩
                · simp [Value.ownBlock]
                · simp [Value.ownBlock]; omega)
              have HOB7 : Hid (some w.heap.size ≠ (Value.slice Ak rs.length ck).ownBlock) := Lib.hid (by
                rcases hbT with rfl | ⟨rfl, h⟩
                · simp [Value.ownBlock]
                · simp [Value.ownBlock]; omega)
              have HOWB : Hid (∀ j, (Value.slice Ak rs.length ck).ownBlock = some j → j = bk) := Lib.hid (by
                rcases hbT with rfl | ⟨rfl, h⟩
                · simp [Value.ownBlock]
                · simp [Value.ownBlock])
              have h70 : w3.cell? ⟨w.heap.size, 0, none⟩ = some (.int .u64 (v : Int)) := by simp [World.cell?, hb73]
              have h71c : w3.cell? ⟨w.heap.size, 1, none⟩ = some (.int .i64 (c : Int)) := by simp [World.cell?, hb73]
              have h7f0 : w3.frozen? ⟨w.heap.size, 0, none⟩ = false := by simp [World.frozen?, hb73]
              have h7f1 : w3.frozen? ⟨w.heap.size, 1, none⟩ = false := by simp [World.frozen?, hb73]
              have H70 := Lib.hid h70
              have H71c := Lib.hid h71c
              have H7f0 := Lib.hid h7f0
              have H7f1 := Lib.hid h7f1
              have HS0 := Lib.hid hs0
              have HS1 := Lib.hid hs1
              have HW5 : Hid (∀ W5, (w3.drew.alloc (.cells #[.int .u64 (x : Int), .int .i64 (q : Int)] 130)).grownBy W5 (Value.slice Ak rs.length ck).ownBlock → (W5.cell? ⟨T8, 0, none⟩ = some (.int .u64 (x : Int)) ∧ W5.cell? ⟨T8, 1, none⟩ = some (.int .i64 (q : Int))) ∧ W5.cell? ⟨w.heap.size, 0, none⟩ = some (.int .u64 (v : Int)) ∧ W5.cell? ⟨w.heap.size, 1, none⟩ = some (.int .i64 (c : Int)) ∧ W5.frozen? ⟨w.heap.size, 0, none⟩ = false ∧ W5.frozen? ⟨w.heap.size, 1, none⟩ = false ∧ W5.heap[w.heap.size]? = some (.cells #[.int .u64 (v : Int), .int .i64 (c : Int)] 130 (0, 0))) := by
                refine Lib.hid fun W5 hg => ?_
                have hN4 : Nw w3 (w3.drew.alloc (.cells #[.int .u64 (x : Int), .int .i64 (q : Int)] 130)) := (Nw.drewO w3).alloc' _
                have h8 := (hg.block T8 (Nat.lt_of_lt_of_le h8l hN4.size) HOB8.out).trans (hN4.block T8 h8l)
                have h7 := (hg.block _ (Nat.lt_of_lt_of_le h7l hN4.size) HOB7.out).trans (hN4.block _ h7l)
                have h7' := h7.trans hb73
                exact ⟨⟨(World.cell?_of_block h8).trans HS0.out, (World.cell?_of_block h8).trans HS1.out⟩, (World.cell?_of_block h7).trans H70.out, (World.cell?_of_block h7).trans H71c.out, (World.frozen?_of_block h7).trans H7f0.out, (World.frozen?_of_block h7).trans H7f1.out, h7'⟩
              clear h70 h71c h7f0 h7f1
              clear hO3 hR3 hK3 hcl0 hcl1 hN3 hw3 hb83 hbT hb73
              have hne78 : w.heap.size ≠ T8 := by omega
              go_region_held3 (fun w' => w'.cell? ⟨T8, 0, none⟩ = some (.int .u64 (x : Int)) ∧ w'.cell? ⟨T8, 1, none⟩ = some (.int .i64 (q : Int)))
                (first | exact ⟨hs0, hs1⟩ | exact ⟨hp0, hp1⟩ | exact ⟨cell_past h8l hs0, cell_past h8l hs1⟩ | exact ⟨cell_skip (Ne.symm hne78) (cell_skip (Ne.symm hne78) hp0), cell_skip (Ne.symm hne78) (cell_skip (Ne.symm hne78) hp1)⟩ | (constructor <;> simp [*]))
                (first
                  | (refine step_append_lies _ rfl (.tmp 43) (.tmp 45) 131 rfl 0 130 i0 (.agg #[.int .u64 0, .int .i64 0]) 2 16 Tryz.underlying131 hi hz0 hz1 hz2 rfl (by omega) _ rs.length (rcells rs) rfl (HOW.out _ (Nw.alloc' (Nw.drewO _) _)) ⟨_, 0, none⟩ 1 1 [.int .u64 (x : Int), .int .i64 (q : Int)] rfl rfl (World.news_of_block (heap_alloc_new _ _)) (by intro u hu; simp at hu; rcases hu with rfl | rfl <;> rfl) (by omega) (by simp only [maxLen]; omega) (by omega) (Nat.zero_le _) _ rfl ?_; intro g5 cap5 w5 q1 q2 q3 q4; obtain ⟨⟨hp0, hp1⟩, hr0, hr1, hrf0, hrf1, hrb⟩ := HW5.out w5 q2))
              have HB5 := Lib.hid hrb
              have hkA : Kp bk bk w3 w5 := by
                have h1 : Kp bk bk w3 (w3.drew.alloc (.cells #[.int .u64 (x : Int), .int .i64 (q : Int)] 130)) := ((Nw.drewO w3).alloc' _).kp _ _
                exact h1.grown q2 (fun j e => .inl (HOWB.out j e))
              have hkB : Kp w.heap.size w.heap.size w5 ((w5.setCell ⟨w.heap.size, 0, none⟩ (.int .u64 (x : Int))).setCell ⟨w.heap.size, 1, none⟩ (.int .i64 (q : Int))) := ((Kp.refl _ _ _).setCell' (p := ⟨w.heap.size, 0, none⟩) (.inl rfl) _).setCell' (p := ⟨w.heap.size, 1, none⟩) (.inl rfl) _
              have hg5 : w.heap.size < g5 := by
                rcases q3 with h | h
                · have := HOWB.out g5 h
                  omega
                · have h2 : g5 = w3.heap.size + 1 := by simpa using h
                  omega
              have hO5 : Ow w5 g5 130 2 (some ⟨g5, 0, none⟩) (rs.length + 1) cap5 (rcells (rs ++ [(x, q)])) := by
                have e : rcells (rs ++ [(x, q)]) = rcells rs ++ [.int .u64 (x : Int), .int .i64 (q : Int)] := by simp [rcells]
                rw [e]
                exact .inr ⟨rfl, q4, q1⟩
              have hO6 := hO5.kp hkB (by omega) (by omega)
              have hb6 := two_set (.int .u64 (x : Int)) (.int .i64 (q : Int)) HB5.out
              have hR6 := (HR3.out.off hkA (by omega) (by omega) (.inr ⟨by omega, by omega⟩)).off hkB (by omega) (by omega) (.inr ⟨by omega, by omega⟩)
              have hK6 := (HK3.out.trans hkA (.inr (.inr (by omega))) (.inr (.inr (by omega)))).trans hkB (.inr (.inr (Nat.le_refl _))) (.inr (.inr (Nat.le_refl _)))
              have he6 : ((w5.setCell ⟨w.heap.size, 0, none⟩ (.int .u64 (x : Int))).setCell ⟨w.heap.size, 1, none⟩ (.int .i64 (q : Int))).cell? ⟨T8, 1, none⟩ = some (.int .i64 (q : Int)) := cell_skip (Ne.symm hne78) (cell_skip (Ne.symm hne78) hp1)
              generalize (w5.setCell ⟨w.heap.size, 0, none⟩ (.int .u64 (x : Int))).setCell ⟨w.heap.size, 1, none⟩ (.int .i64 (q : Int)) = w6 at *
              have HO6 := Lib.hid hO6
              have HB6 := Lib.hid hb6
              have HR6 := Lib.hid hR6
              have HK6 := Lib.hid hK6
              clear hO6 hb6 hR6 hK6 hO5 hkA hkB q1 q2 q3 q4 hrb HB5 hr0 hr1 hrf0 hrf1 hp0 hp1 hs0 hs1
              go_wp2
              go_roundw
              case rel =>
                refine ⟨m - q, rs.length + 1, f, rs ++ [(x, q)], x, q, g5, some ⟨g5, 0, none⟩, cap5, p2, ?_, rfl, by simp, by omega, ?_, by omega, ?_, hu, hq2, HO6.out, hg5, HB6.out, HR6.out, HK6.out, ?_⟩
                · go_num
                · simp [total] at htot ⊢; omega
                · intro r hr
                  rcases List.mem_append.1 hr with h | h
                  · exact H128.out r h
                  · simp at h; subst h; exact hq2
                · rw [HXX.out, HRR.out]
              case measure => simp [intOf]; omega
            · have hxv : ((x : Int) == (v : Int)) = false := by rw [beq_eq_false_iff_ne]; omega
              have HX0 := Lib.hid hx
              clear hx hgd
              go_wp2_with fail
              have hO3 := (HO.out.kp HK2.out (by omega) (by omega)).nw hN3
              have hb83 : (w2.alloc (.cells #[.int .u64 (x : Int), .int .i64 (q : Int)] 130)).heap[w2.heap.size]? = some (.cells #[.int .u64 (x : Int), .int .i64 (q : Int)] 130 (0, 0)) := heap_alloc_new w2 _
              have hb73 : (w2.alloc (.cells #[.int .u64 (x : Int), .int .i64 (q : Int)] 130)).heap[w.heap.size]? = some (.cells #[.int .u64 (v : Int), .int .i64 (c : Int)] 130 (0, 0)) := (hN3.block _ (lt_of_block HB7'.out)).trans HB7'.out
              have hR3 := HR2.out.nw hN3
              have hK3 : Kp gr gr w (w2.alloc (.cells #[.int .u64 (x : Int), .int .i64 (q : Int)] 130)) := (HK.out.trans HK2.out (.inl rfl) (.inl rfl)).alloc' _
              have ht8 : w.heap.size < w2.heap.size := lt_of_block HB7'.out
              have hbT : Ak = none ∨ (Ak = some ⟨bk, 0, none⟩ ∧ bk < w2.heap.size) := by
                rcases HO.out.kp HK2.out (by omega) (by omega) with ⟨h, _⟩ | ⟨h, h', _⟩
                · exact .inl h
                · exact .inr ⟨h, h'⟩
              generalize hw3 : w2.alloc (.cells #[.int .u64 (x : Int), .int .i64 (q : Int)] 130) = w3 at *
              generalize w2.heap.size = T8 at *
              have h8l := lt_of_block hb83
              have h7l := lt_of_block hb73
              have hs0 : w3.cell? ⟨T8, 0, none⟩ = some (.int .u64 (x : Int)) := by simp [World.cell?, hb83]
              have hs1 : w3.cell? ⟨T8, 1, none⟩ = some (.int .i64 (q : Int)) := by simp [World.cell?, hb83]
              obtain ⟨i0, hi, hz0, hz1, hz2⟩ := E_run.info
              have HOW := Lib.hid fun W (hN : Nw w3 W) => (hO3.nw hN).row
              have HO3 := Lib.hid hO3
              have HR3 := Lib.hid hR3
              have HK3 := Lib.hid hK3
              have HB73 := Lib.hid hb73
              have HB83 := Lib.hid hb83
              have hlr : rs.length ≤ 10000 := by omega
              have HOB8 : Hid (some T8 ≠ (Value.slice Ak rs.length ck).ownBlock) := Lib.hid (by
                rcases hbT with rfl | ⟨rfl, h⟩
                · simp [Value.ownBlock]
                · simp [Value.ownBlock]; omega)
              have HOB7 : Hid (some w.heap.size ≠ (Value.slice Ak rs.length ck).ownBlock) := Lib.hid (by
                rcases hbT with rfl | ⟨rfl, h⟩
                · simp [Value.ownBlock]
                · simp [Value.ownBlock]; omega)
              have HOWB : Hid (∀ j, (Value.slice Ak rs.length ck).ownBlock = some j → j = bk) := Lib.hid (by
                rcases hbT with rfl | ⟨rfl, h⟩
                · simp [Value.ownBlock]
                · simp [Value.ownBlock])
              have h70 : w3.cell? ⟨w.heap.size, 0, none⟩ = some (.int .u64 (v : Int)) := by simp [World.cell?, hb73]
              have h71c : w3.cell? ⟨w.heap.size, 1, none⟩ = some (.int .i64 (c : Int)) := by simp [World.cell?, hb73]
              have h7f0 : w3.frozen? ⟨w.heap.size, 0, none⟩ = false := by simp [World.frozen?, hb73]
              have h7f1 : w3.frozen? ⟨w.heap.size, 1, none⟩ = false := by simp [World.frozen?, hb73]
              have H70 := Lib.hid h70
              have H71c := Lib.hid h71c
              have H7f0 := Lib.hid h7f0
              have H7f1 := Lib.hid h7f1
              have HS0 := Lib.hid hs0
              have HS1 := Lib.hid hs1
              have HW5 : Hid (∀ W5, (w3.drew.alloc (.cells #[.int .u64 (x : Int), .int .i64 (q : Int)] 130)).grownBy W5 (Value.slice Ak rs.length ck).ownBlock → (W5.cell? ⟨T8, 0, none⟩ = some (.int .u64 (x : Int)) ∧ W5.cell? ⟨T8, 1, none⟩ = some (.int .i64 (q : Int))) ∧ W5.cell? ⟨w.heap.size, 0, none⟩ = some (.int .u64 (v : Int)) ∧ W5.cell? ⟨w.heap.size, 1, none⟩ = some (.int .i64 (c : Int)) ∧ W5.frozen? ⟨w.heap.size, 0, none⟩ = false ∧ W5.frozen? ⟨w.heap.size, 1, none⟩ = false ∧ W5.heap[w.heap.size]? = some (.cells #[.int .u64 (v : Int), .int .i64 (c : Int)] 130 (0, 0))) := by
                refine Lib.hid fun W5 hg => ?_
                have hN4 : Nw w3 (w3.drew.alloc (.cells #[.int .u64 (x : Int), .int .i64 (q : Int)] 130)) := (Nw.drewO w3).alloc' _
                have h8 := (hg.block T8 (Nat.lt_of_lt_of_le h8l hN4.size) HOB8.out).trans (hN4.block T8 h8l)
                have h7 := (hg.block _ (Nat.lt_of_lt_of_le h7l hN4.size) HOB7.out).trans (hN4.block _ h7l)
                have h7' := h7.trans hb73
                exact ⟨⟨(World.cell?_of_block h8).trans HS0.out, (World.cell?_of_block h8).trans HS1.out⟩, (World.cell?_of_block h7).trans H70.out, (World.cell?_of_block h7).trans H71c.out, (World.frozen?_of_block h7).trans H7f0.out, (World.frozen?_of_block h7).trans H7f1.out, h7'⟩
              clear h70 h71c h7f0 h7f1
              clear hO3 hR3 hK3 hcl0 hcl1 hN3 hw3 hb83 hbT hb73
              have hne78 : w.heap.size ≠ T8 := by omega
              go_region_held3 (fun w' => w'.cell? ⟨T8, 0, none⟩ = some (.int .u64 (x : Int)) ∧ w'.cell? ⟨T8, 1, none⟩ = some (.int .i64 (q : Int)))
                (first | exact ⟨hs0, hs1⟩ | exact ⟨hp0, hp1⟩ | exact ⟨cell_past h8l hs0, cell_past h8l hs1⟩ | exact ⟨cell_skip (Ne.symm hne78) (cell_skip (Ne.symm hne78) hp0), cell_skip (Ne.symm hne78) (cell_skip (Ne.symm hne78) hp1)⟩ | (constructor <;> simp [*]))
                (first
                  | (refine step_append_lies _ rfl (.tmp 43) (.tmp 45) 131 rfl 0 130 i0 (.agg #[.int .u64 0, .int .i64 0]) 2 16 Tryz.underlying131 hi hz0 hz1 hz2 rfl (by omega) _ rs.length (rcells rs) rfl (HOW.out _ (Nw.alloc' (Nw.drewO _) _)) ⟨_, 0, none⟩ 1 1 [.int .u64 (x : Int), .int .i64 (q : Int)] rfl rfl (World.news_of_block (heap_alloc_new _ _)) (by intro u hu; simp at hu; rcases hu with rfl | rfl <;> rfl) (by omega) (by simp only [maxLen]; omega) (by omega) (Nat.zero_le _) _ rfl ?_; intro g5 cap5 w5 q1 q2 q3 q4; obtain ⟨⟨hp0, hp1⟩, hr0, hr1, hrf0, hrf1, hrb⟩ := HW5.out w5 q2))
              have HB5 := Lib.hid hrb
              have hkA : Kp bk bk w3 w5 := by
                have h1 : Kp bk bk w3 (w3.drew.alloc (.cells #[.int .u64 (x : Int), .int .i64 (q : Int)] 130)) := ((Nw.drewO w3).alloc' _).kp _ _
                exact h1.grown q2 (fun j e => .inl (HOWB.out j e))
              have hkB : Kp w.heap.size w.heap.size w5 ((w5.setCell ⟨w.heap.size, 0, none⟩ (.int .u64 (x : Int))).setCell ⟨w.heap.size, 1, none⟩ (.int .i64 (q : Int))) := ((Kp.refl _ _ _).setCell' (p := ⟨w.heap.size, 0, none⟩) (.inl rfl) _).setCell' (p := ⟨w.heap.size, 1, none⟩) (.inl rfl) _
              have hg5 : w.heap.size < g5 := by
                rcases q3 with h | h
                · have := HOWB.out g5 h
                  omega
                · have h2 : g5 = w3.heap.size + 1 := by simpa using h
                  omega
              have hO5 : Ow w5 g5 130 2 (some ⟨g5, 0, none⟩) (rs.length + 1) cap5 (rcells (rs ++ [(x, q)])) := by
                have e : rcells (rs ++ [(x, q)]) = rcells rs ++ [.int .u64 (x : Int), .int .i64 (q : Int)] := by simp [rcells]
                rw [e]
                exact .inr ⟨rfl, q4, q1⟩
              have hO6 := hO5.kp hkB (by omega) (by omega)
              have hb6 := two_set (.int .u64 (x : Int)) (.int .i64 (q : Int)) HB5.out
              have hR6 := (HR3.out.off hkA (by omega) (by omega) (.inr ⟨by omega, by omega⟩)).off hkB (by omega) (by omega) (.inr ⟨by omega, by omega⟩)
              have hK6 := (HK3.out.trans hkA (.inr (.inr (by omega))) (.inr (.inr (by omega)))).trans hkB (.inr (.inr (Nat.le_refl _))) (.inr (.inr (Nat.le_refl _)))
              have he6 : ((w5.setCell ⟨w.heap.size, 0, none⟩ (.int .u64 (x : Int))).setCell ⟨w.heap.size, 1, none⟩ (.int .i64 (q : Int))).cell? ⟨T8, 1, none⟩ = some (.int .i64 (q : Int)) := cell_skip (Ne.symm hne78) (cell_skip (Ne.symm hne78) hp1)
              generalize (w5.setCell ⟨w.heap.size, 0, none⟩ (.int .u64 (x : Int))).setCell ⟨w.heap.size, 1, none⟩ (.int .i64 (q : Int)) = w6 at *
              have HO6 := Lib.hid hO6
              have HB6 := Lib.hid hb6
              have HR6 := Lib.hid hR6
              have HK6 := Lib.hid hK6
              clear hO6 hb6 hR6 hK6 hO5 hkA hkB q1 q2 q3 q4 hrb HB5 hr0 hr1 hrf0 hrf1 hp0 hp1 hs0 hs1
              go_wp2
              go_roundw
              case rel =>
                refine ⟨m - q, rs.length + 1, f, rs ++ [(x, q)], x, q, g5, some ⟨g5, 0, none⟩, cap5, p2, ?_, rfl, by simp, by omega, ?_, by omega, ?_, hu, hq2, HO6.out, hg5, HB6.out, HR6.out, HK6.out, ?_⟩
                · go_num
                · simp [total] at htot ⊢; omega
                · intro r hr
                  rcases List.mem_append.1 hr with h | h
                  · exact H128.out r h
                  · simp at h; subst h; exact hq2
                · rw [HXX.out, HRR.out]
              case measure => simp [intOf]; omega
end Go.Proofs.YtjepaneniodbpaaGreatDoor
