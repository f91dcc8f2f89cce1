/- The table of the names and values of a list of series: model.Symbols. -/
import Derived.Test.YtoogadidbbpplaaGreatTable
import Derived.Test.YtoogadidbbpplaaGreatClone
namespace Go.Proofs.YtoogadidbbpplaaGreat
open Go Go.RowKit Go.Sort Go.Shelf Go.Lib

theorem labsOf_snoc {l : List Ser} {k : Nat} (h : k < l.length) : labsOf (l.take (k + 1)) = labsOf (l.take k) ++ l[k].labs := by
  unfold labsOf; rw [List.take_succ_eq_append_getElem h, List.flatMap_append]; simp
theorem labsOf_le (l : List Ser) (k : Nat) : (labsOf (l.take k)).length ≤ (labsOf l).length := by
  have : labsOf l = labsOf (l.take k) ++ labsOf (l.drop k) := by unfold labsOf; rw [← List.flatMap_append, List.take_append_drop]
  rw [this, List.length_append]; omega
theorem strsOf_append (a b : List Lab) : strsOf (a ++ b) = strsOf a ++ strsOf b := by unfold strsOf; rw [List.flatMap_append]

set_option maxRecDepth 100000 in
set_option maxHeartbeats 1600000 in
theorem Symbols_any (w : World) (b : Nat) (A : Option Addr) (n c : Nat) (l : List Ser) (hI : InSer w b A n c l) (hs : (labsOf l).length ≤ 100000) (hn : n ≤ 100000) :
    Calls Tryz.prog 17 #[.slice A n c] w fun e w' => ∃ g A' c', e = .returned (.slice A' (tbl (strsOf (labsOf l))).length c') ∧ Ow w' g 9 1 A' (tbl (strsOf (labsOf l))).length c' ((tbl (strsOf (labsOf l))).map encStr) ∧ Nw w w' := by
  have hl := hI.len
  subst hl
  have HR := Lib.hid hI.rd
  have HOK := Lib.hid hI.ok
  clear hI
  obtain ⟨T, hT⟩ : ∃ T, tbl (strsOf (labsOf l)) = T := ⟨_, rfl⟩
  rw [hT]
  have HT := Lib.hid hT
  have HLE := Lib.hid fun k => labsOf_le l k
  clear hT
  go_enter Tryz.func17, Tryz.ntmps17
  go_wp2
  go_loopw [3, 8] (fun s i wr => ∃ k : Nat, k ≤ l.length ∧ i = .int .i64 k ∧ ∃ (M bk : Nat) (Ak : Option Addr) (ck : Nat), s = .slice Ak (2 * M) ck ∧ M ≤ 100000 ∧ Hid (M = (labsOf (l.take k)).length) ∧
    Hid (Ow wr bk 9 1 Ak (2 * M) ck (cT (strsOf (labsOf (l.take k))))) ∧ w.heap.size ≤ bk ∧ Hid (Nw w wr)) (fun _ i _ => l.length - (intOf i).toNat)
  case atStart => exact ⟨0, by omega, rfl, 0, w.heap.size, none, 0, rfl, by omega, Lib.hid rfl, Lib.hid (Ow.nil _ _ _ _), Nat.le_refl _, Lib.hid (Nw.refl _)⟩
  case round =>
    obtain ⟨k, hk, rfl, M, bk, Ak, ck, rfl, hM, HM, HO, hbk, HN⟩ := hrel
    by_cases hlt : k < l.length
    · have hltI : (k : Int) < (l.length : Int) := by omega
      obtain ⟨o, rfl, hbw, hc0, hc1⟩ := two_at (HR.out.nw HN.out) hlt
      have HTk := Lib.hid (labsOf_snoc hlt)
      have hle := HLE.out (k + 1)
      rw [HTk.out, List.length_append, ← HM.out] at hle
      have HOx := Lib.hid (HOK.out l[k] (List.getElem_mem hlt))
      generalize l[k] = x at *
      obtain ⟨bx, hbx⟩ : ∃ o, o = Obj.cells #[.slice x.al x.labs.length x.cl, .slice x.as_ x.smps.length x.cs] 37 := ⟨_, rfl⟩
      have hNb : Nw wr (wr.alloc (.cells #[.slice x.al x.labs.length x.cl, .slice x.as_ x.smps.length x.cs] 37)) := (Nw.refl wr).alloc' _
      have HS := Lib.hid fun W (hN : Nw wr W) => Strings_any W x.bl x.al x.labs.length x.cl x.labs rfl (by omega) ((HOx.out.1.rd.nw HN.out).nw hN)
      clear hbx
      go_wp2_with (first
        | (go_at_call 37; refine (HS.out _ hNb).mono ?_; rintro e w2 ⟨b2, A2, c2', rfl, hO2, hb2, hN2⟩; have HO2 := Lib.hid hO2; have hN2' := hNb.trans hN2; have HOk := Lib.hid (HO.out.nw hN2'); have hnil2 := hO2.nil_cap; clear hO2)
        | (at_builtin; refine wpList_app E_str rfl (.tmp 12) (.tmp 15) rfl rfl HOk.out rfl HO2.out.rd (by rw [List.length_map, strsOf_length]; omega) hnil2 (oc_T _) (by simp only [maxLen]; omega) (by omega) ?_; intro b3 A3 c3 w3 q1 q2 q3 q4; have Q1 := Lib.hid q1; have Q2 := Lib.hid q2; have Q3 := Lib.hid q3; clear q1 q2 q3 q4))
      go_roundw
      case rel =>
        refine ⟨k + 1, by omega, by go_num, M + x.labs.length, b3, A3, c3, by rw [Nat.mul_add], by omega, Lib.hid (by rw [HTk.out, List.length_append, HM.out]), Lib.hid ?_, ?_, Lib.hid (Kp.nw (HN.out.trans hN2') Q3.out hbk hbk)⟩
        · have h := Q1.out
          rw [HTk.out, strsOf_append, Nat.mul_add]
          unfold cT at h ⊢
          rw [List.map_append]
          exact h
        · rcases Q2.out with h | h
          · omega
          · have := (HN.out.trans hN2').size; omega
      case measure => simp [intOf]; omega
    · obtain rfl : k = l.length := by omega
      have hO := HO.out
      rw [List.take_length] at hO
      have hM2 := HM.out
      rw [List.take_length] at hM2
      have hTb := Table_any wr bk Ak (2 * M) ck (strsOf (labsOf l)) (by rw [strsOf_length, hM2]) (by omega) hO.rd
      rw [HT.out] at hTb
      have HTb := Lib.hid hTb
      clear hTb hO hM2
      go_wp2_with (go_at_call 38; refine HTb.out.mono ?_; rintro e w2 ⟨g, A', c', rfl, hO2, hN2⟩)
      go_ret
      exact ⟨g, A', c', rfl, hO2, HN.out.trans hN2⟩
end Go.Proofs.YtoogadidbbpplaaGreat
