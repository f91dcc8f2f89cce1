/- The names and values of labels: labels.Strings. -/
import Derived.Test.YtoogadidbbpplaaGreatSerChk
namespace Go.Proofs.YtoogadidbbpplaaGreat
open Go Go.RowKit Go.Sort

theorem Ow.lt_some {w : World} {g n c : Nat} {e : TypeId} {size : Nat} {A : Option Addr} {xs : List Value} (h : Ow w g e size A n c xs) (hA : A ≠ none) : g < w.heap.size := by
  rcases h with ⟨h, _⟩ | ⟨_, h, _⟩
  · exact (hA h).elim
  · exact h

set_option maxRecDepth 100000 in
set_option maxHeartbeats 1600000 in
theorem Strings_any (w : World) (b : Nat) (A : Option Addr) (n c : Nat) (l : List Lab) (hn : n = l.length) (hm : n ≤ 1000000) (hr : Rd w b A (cL l)) :
    Calls Tryz.prog 37 #[.slice A n c] w fun e w' => ∃ b' A' c', e = .returned (.slice A' (2 * n) c') ∧ Ow w' b' 9 1 A' (2 * n) c' (cT (strsOf l)) ∧ w.heap.size ≤ b' ∧ Nw w w' := by
  subst hn
  have HR := Lib.hid hr
  have i0 : ∀ W, (Instr.index 81 (.agg partFs) (.int .i64 0)).run Tryz.prog W = .ok (.agg #[.func (.func 64) #[] #[]]) W := fun _ => by kernel_rfl
  have i1 : ∀ W, (Instr.index 81 (.agg partFs) (.int .i64 1)).run Tryz.prog W = .ok (.agg #[.func (.func 65) #[] #[]]) W := fun _ => by kernel_rfl
  clear hr
  go_enter Tryz.func37, Tryz.ntmps37
  go_wp2
  go_loopw [3, 10] (fun s i wr => ∃ k : Nat, k ≤ l.length ∧ i = .int .i64 k ∧ ∃ (bk : Nat) (Ak : Option Addr) (ck : Nat), s = .slice Ak (2 * k) ck ∧ Hid (Ow wr bk 9 1 Ak (2 * k) ck (cT (strsOf (l.take k)))) ∧ w.heap.size ≤ bk ∧ Hid (Nw w wr)) (fun _ i _ => l.length - (intOf i).toNat)
  case atStart => exact ⟨0, by omega, rfl, w.heap.size, none, 0, rfl, Lib.hid (Ow.nil _ _ _ _), Nat.le_refl _, Lib.hid (Nw.refl _)⟩
  case round =>
    obtain ⟨k, hk, rfl, bk, Ak, ck, rfl, HO, hbk, HN⟩ := hrel
    by_cases hlt : k < l.length
    · have hltI : (k : Int) < (l.length : Int) := by omega
      obtain ⟨o, rfl, hbw, hc0, hc1⟩ := two_at (HR.out.nw HN.out) hlt
      have HT := Lib.hid (show strsOf (l.take (k + 1)) = strsOf (l.take k) ++ [l[k].1, l[k].2] from by unfold strsOf; rw [List.take_succ_eq_append_getElem hlt, List.flatMap_append]; rfl)
      generalize l[k] = x at *
      obtain ⟨a, d⟩ := x
      dsimp only at hc0 hc1 HT
      obtain ⟨bx, hbx⟩ : ∃ o, o = Obj.cells #[.string a, .string d] 47 := ⟨_, rfl⟩
      have hNb : Nw wr (wr.alloc bx) := (Nw.refl wr).alloc' _
      have hbb : (wr.alloc bx).heap[wr.heap.size]? = some bx := heap_alloc_new _ _
      go_wp2_with (go_at_call 47; refine (parts_any _).mono ?_; rintro e w1 ⟨rfl, hgr⟩)
      rw [← hbx] at hgr
      obtain ⟨nb, hnb⟩ : ∃ nb, wr.heap.size = nb := ⟨_, rfl⟩
      rw [hnb] at hbb ⊢
      have hb1 := (hgr.nw.block nb (lt_of_block hbb)).trans hbb
      have HN1 := Lib.hid (hNb.trans hgr.nw)
      have hNB := Lib.hid hnb
      have hb1l := lt_of_block hb1
      have HB1 := Lib.hid (hb1.trans (congrArg some hbx))
      clear hNb hbb hgr hnb hc0 hc1 hb1 hbx
      refine wp_loop_rounds 3 ?_
      rw [rounds_succ]
      obtain ⟨pb, hpb⟩ : ∃ o, o = Obj.cells #[.func (.func 64) #[] #[]] 80 := ⟨_, rfl⟩
      have hNp : Nw w1 (w1.alloc pb) := (Nw.refl w1).alloc' _
      have hbp := (hNp.block nb hb1l).trans HB1.out
      rw [hpb] at hbp
      have e0 := cell_at (k := 0) hbp
      have e1 := cell_at (k := 1) hbp
      go_wp2_with fail
      refine (part1_any _ a d).mono ?_
      rintro e w2 ⟨rfl, hgr2⟩
      have hN2 := (HN1.out.trans (by rw [hpb] at hNp; exact hNp)).trans hgr2.nw
      have hb2 := (hgr2.nw.block nb (lt_of_block hbp)).trans hbp
      have hO2 := HO.out.nw hN2
      have HO2 := Lib.hid hO2
      have HN2 := Lib.hid hN2
      have HB2 := Lib.hid hb2
      have HLT := Lib.hid fun h => (show bk < nb from by have := HO.out.lt_some h; have := hNB.out; omega)
      clear hbp e0 e1 hNp hpb hgr2 hO2 hN2 hb2 HB1
      go_wp2_with (at_builtin; refine wpList_app1 E_str rfl (.tmp 18) (.tmp 23) rfl rfl HO2.out rfl rfl (by omega) (by omega) ?_; intro b3 A3 c3 w3 q1 q2 q3 q4; have Q1 := Lib.hid q1; have Q2 := Lib.hid q2; have Q3 := Lib.hid q3; have Q4 := Lib.hid q4; clear q1 q2 q3 q4)
      have hb3 : w3.heap[nb]? = some (Obj.cells #[.string a, .string d] 47) := by
        have hl := lt_of_block HB2.out
        by_cases hA : Ak = none
        · exact ((Q4.out hA).1.block nb hl).trans HB2.out
        · have := HLT.out hA
          exact (Q3.out.block nb hl (by omega) (by omega)).trans HB2.out
      have hN3 : Nw w w3 := Kp.nw (HN.out.trans HN2.out) Q3.out hbk hbk
      have hb3w : w.heap.size ≤ b3 := by
        rcases Q2.out with h | h
        · omega
        · have := (HN.out.trans HN2.out).size; omega
      have HN3 := Lib.hid hN3
      have HB3 := Lib.hid hb3
      have hl3 := lt_of_block hb3
      clear hb3 hN3 HB2 HO2 HLT Q2 Q3 Q4
      rw [rounds_succ]
      obtain ⟨pb, hpb⟩ : ∃ o, o = Obj.cells #[.func (.func 65) #[] #[]] 80 := ⟨_, rfl⟩
      have hNp : Nw w3 (w3.alloc pb) := (Nw.refl w3).alloc' _
      have hbp := (hNp.block nb hl3).trans HB3.out
      rw [hpb] at hbp
      have e0 := cell_at (k := 0) hbp
      have e1 := cell_at (k := 1) hbp
      go_wp2_with fail
      refine (part2_any _ a d).mono ?_
      rintro e w4 ⟨rfl, hgr4⟩
      have hN4 : Nw w3 w4 := (show Nw w3 (w3.alloc (.cells #[.func (.func 65) #[] #[]] 80)) from by rw [hpb] at hNp; exact hNp).trans hgr4.nw
      have HO4 := Lib.hid (Q1.out.nw hN4)
      have HN4 := Lib.hid (HN3.out.trans hN4)
      clear hbp e0 e1 hNp hpb hgr4 hN4 HB3 Q1 hl3
      go_wp2_with (at_builtin; refine wpList_app1 E_str rfl (.tmp 18) (.tmp 23) rfl rfl HO4.out rfl rfl (by omega) (by omega) ?_; intro b5 A5 c5 w5 q1 q2 q3 q4; have Q1 := Lib.hid q1; have Q2 := Lib.hid q2; have Q3 := Lib.hid q3; clear q1 q2 q3 q4)
      rw [rounds_succ]
      go_wp2_with fail
      go_roundw
      case rel =>
        refine ⟨k + 1, by omega, by go_num, b5, A5, c5, rfl, Lib.hid ?_, ?_, Lib.hid (Kp.nw HN4.out Q3.out hb3w hb3w)⟩
        · have h := Q1.out
          rw [List.append_assoc] at h
          rw [HT.out]
          unfold cT at h ⊢
          rw [List.map_append, show 2 * (k + 1) = 2 * k + 1 + 1 from rfl]
          exact h
        · rcases Q2.out with h | h
          · omega
          · have := HN4.out.size; omega
      case measure => simp [intOf]; omega
    · obtain rfl : k = l.length := by omega
      go_wp2
      go_ret
      have h := HO.out
      rw [List.take_length] at h
      exact ⟨bk, Ak, ck, rfl, h, hbk, HN.out⟩
end Go.Proofs.YtoogadidbbpplaaGreat
