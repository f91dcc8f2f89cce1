/- Sorting in place: siftDown, heapSort. -/
import Derived.Test.YtbdpimnbjonhlaaSortM
namespace Go.Proofs.Ytbdpimnbjonhlaa
open Go Go.RowKit Go.Sort

set_option maxRecDepth 100000 in
set_option maxHeartbeats 1600000 in
theorem siftDown_any (w : World) (b c lo hi F : Nat) (d : Array Nat) (hH : Dv w b c d) (hF : F + hi ≤ d.size) (hlo : lo ≤ hi) (hsz : d.size < 2305843009213693951) :
    Calls Try.prog 62 #[.slice (some ⟨b, 0, none⟩) d.size c, .int .i64 (lo : Int), .int .i64 (hi : Int), .int .i64 (F : Int)] w fun e w' =>
      e = .returned (.tuple #[]) ∧ Dv w' b c (Sort.siftDown ltN hi F lo d) ∧ Kp b b w w' := by
  go_enter Try.func62, Try.ntmps62
  go_wp2
  go_loopw [8] (fun vr wr => ∃ (r : Nat) (dk : Array Nat), vr = .int .i64 r ∧ r ≤ hi ∧ dk.size = d.size ∧ Dv wr b c dk ∧ Kp b b w wr ∧ siftDown ltN hi F r dk = siftDown ltN hi F lo d) (fun vr _ => (hi - intOf vr).toNat)
  case atStart => exact ⟨lo, d, rfl, hlo, rfl, hH, Kp.refl _ _ _, rfl⟩
  case round =>
    obtain ⟨r, dk, rfl, hr, hsk, hD, hK, hO⟩ := hrel
    have HO := Lib.hid hO
    have HS := Lib.hid hsk
    have HD := Lib.hid hD
    clear hO hH hsk hD
    obtain ⟨ch, hch⟩ : ∃ ch, ch = 2 * r + 1 := ⟨_, rfl⟩
    have e0 : 2 * (r : Int) + 1 = (ch : Int) := by omega
    have HCH := Lib.hid hch
    have hchr : r < ch := by omega
    have hch2 : ch ≤ 2 * r + 1 := by omega
    clear hch
    by_cases hend : hi ≤ ch
    · go_wp2
      go_end0
      exact ⟨rfl, by rw [← HO.out, sd_end _ _ (by have := HCH.out; omega)]; exact HD.out, hK⟩
    · have hlt : ch < hi := by omega
      have hrs : F + r < d.size := by omega
      have hcs : F + ch < d.size := by omega
      have hckr := HD.out.cell (j := F + r) (by have := HS.out; omega)
      have hckc := HD.out.cell (j := F + ch) (by have := HS.out; omega)
      have hfr := HD.out.free (F + r) (by have := HS.out; omega)
      have hfc := HD.out.free (F + ch) (by have := HS.out; omega)
      obtain ⟨pr, hpr⟩ : ∃ p, p = dk[F + r]! := ⟨_, rfl⟩
      obtain ⟨pc, hpc⟩ : ∃ p, p = dk[F + ch]! := ⟨_, rfl⟩
      rw [← hpr] at hckr
      rw [← hpc] at hckc
      have HPR := Lib.hid hpr
      have HPC := Lib.hid hpc
      clear hpr hpc
      obtain ⟨ir, hir⟩ : ∃ i, i = F + r := ⟨_, rfl⟩
      obtain ⟨ic, hic⟩ : ∃ i, i = F + ch := ⟨_, rfl⟩
      have er : (F : Int) + (r : Int) = (ir : Int) := by omega
      have ec : (F : Int) + (ch : Int) = (ic : Int) := by omega
      rw [← hir] at hckr hfr
      rw [← hic] at hckc hfc
      have hirs : ir < d.size := by omega
      have hics : ic < d.size := by omega
      have hirc : ir < ic := by omega
      have HIR := Lib.hid hir
      have HIC := Lib.hid hic
      clear hir hic
      have wr1 : IntKind.i64.wrap (ir : Int) = (ir : Int) := IntWalk.i64_in _ (by omega)
      have wc1 : IntKind.i64.wrap (ic : Int) = (ic : Int) := IntWalk.i64_in _ (by omega)
      have ir1 : (ir : Int) < (d.size : Int) := by omega
      have ic1 : (ic : Int) < (d.size : Int) := by omega
      have hne1 : ¬ ir = ic := by omega
      have hne2 : ¬ ic = ir := by omega
      by_cases hr2 : ch + 1 < hi
      · obtain ⟨cg, hcg⟩ : ∃ cg, cg = ch + 1 := ⟨_, rfl⟩
        obtain ⟨ig, hig⟩ : ∃ ig, ig = ic + 1 := ⟨_, rfl⟩
        have hgs : F + cg < d.size := by omega
        have HIG := Lib.hid (show ig = F + (ch + 1) from by have := HIC.out; omega)
        have hckg := HD.out.cell (j := ig) (by have := HS.out; have := HIC.out; omega)
        have hfg := HD.out.free ig (by have := HS.out; have := HIC.out; omega)
        obtain ⟨pg, hpg⟩ : ∃ p, p = dk[ig]! := ⟨_, rfl⟩
        rw [← hpg] at hckg
        have HPG := Lib.hid (show pg = dk[F + (ch + 1)]! from by rw [hpg, HIG.out])
        have eg : (ch : Int) + 1 = (cg : Int) := by omega
        have eg2 : (ic : Int) + 1 = (ig : Int) := by omega
        have eg3 : (F : Int) + (cg : Int) = (ig : Int) := by omega
        have wg1 : IntKind.i64.wrap (ig : Int) = (ig : Int) := IntWalk.i64_in _ (by omega)
        have wg2 : IntKind.i64.wrap (cg : Int) = (cg : Int) := IntWalk.i64_in _ (by omega)
        have ig1 : (ig : Int) < (d.size : Int) := by have := HIC.out; omega
        have hg : (cg : Int) < (hi : Int) := by omega
        have hne3 : ¬ ir = ig := by omega
        have hne4 : ¬ ig = ir := by omega
        have HCG := Lib.hid hcg
        have hcr2 : r < cg := by omega
        have hcg2 : cg ≤ hi := by omega
        clear hcg hig hpg
        by_cases hpick : pc < pg
        · by_cases hcmp : pr < pg
          · go_wp2
            go_quiet ((go_at_call 48; exact quiet1 (Less_any _ _ _)))
            go_wp2
            go_quiet ((go_at_call 48; exact quiet2 (Less_any _ _ _)))
            go_wp2
            go_region
            all_goals go_wp2
            go_roundw
            case rel =>
              have h1 := HPR.out
              have h2 := HPG.out
              have h3 := HIR.out
              have h4 := HIG.out
              have h5 := HCH.out
              refine ⟨cg, swp dk (F + r) (F + (ch + 1)), rfl, by omega, by rw [size_swp]; exact HS.out, ?_, ((hK.drewN' _).setCell' (.inl rfl) _).setCell' (.inl rfl) _, ?_⟩
              · rw [h1, h2, h3, h4]
                exact (HD.out.nw (Nw.drewN wr _)).swap (F + r) (F + (ch + 1))
              · rw [← HO.out]
                subst h5
                subst h3
                subst h4
                refine Eq.symm ?_
                have h6 := HPC.out
                have h7 := HCG.out
                subst h7
                exact sd_right_go ltN dk (by omega) (by rw [decide_eq_true_iff]; rw [h6, h2] at hpick; exact hpick) (by rw [decide_eq_true_iff]; rw [h1, h2] at hcmp; exact hcmp)
            case measure => simp [intOf]; omega
          · go_wp2
            go_quiet ((go_at_call 48; exact quiet1 (Less_any _ _ _)))
            go_wp2
            go_quiet ((go_at_call 48; exact quiet2 (Less_any _ _ _)))
            go_wp2
            (try simp only [Exit.inBlock, Exit.then])
            refine bodyPost_ret (results_none rfl _ _ _) rfl ?_
            have h1 := HPR.out
            have h2 := HPG.out
            have h3 := HIR.out
            have h4 := HIG.out
            have h5 := HCH.out
            refine ⟨rfl, ?_, (hK.drewN' _).drewN' _⟩
            rw [← HO.out]
            subst h5
            subst h3
            subst h4
            rw [sd_right_stop ltN dk (by omega) (by rw [decide_eq_true_iff]; have h6 := HPC.out; rw [h6, h2] at hpick; exact hpick) (by rw [decide_eq_false_iff_not]; rw [h1, h2] at hcmp; exact hcmp)]
            exact HD.out.nw (Nw.drewN' (Nw.drewN wr _) _)
        · by_cases hcmp : pr < pc
          · go_wp2
            go_quiet ((go_at_call 48; exact quiet1 (Less_any _ _ _)))
            go_wp2
            go_quiet ((go_at_call 48; exact quiet2 (Less_any _ _ _)))
            go_wp2
            go_region
            all_goals go_wp2
            go_roundw
            case rel =>
              have h1 := HPR.out
              have h2 := HPC.out
              have h3 := HIR.out
              have h4 := HIC.out
              have h5 := HCH.out
              refine ⟨ch, swp dk (F + r) (F + ch), rfl, by omega, by rw [size_swp]; exact HS.out, ?_, ((hK.drewN' _).setCell' (.inl rfl) _).setCell' (.inl rfl) _, ?_⟩
              · rw [h1, h2, h3, h4]
                exact (HD.out.nw (Nw.drewN wr _)).swap (F + r) (F + ch)
              · rw [← HO.out]
                subst h5
                subst h3
                subst h4
                exact (sd_left_go ltN dk (by omega) (fun _ => by rw [decide_eq_false_iff_not]; have h6 := HPG.out; rw [h2, h6] at hpick; exact hpick) (by rw [decide_eq_true_iff]; rw [h1, h2] at hcmp; exact hcmp)).symm
            case measure => simp [intOf]; omega
          · go_wp2
            go_quiet ((go_at_call 48; exact quiet1 (Less_any _ _ _)))
            go_wp2
            go_quiet ((go_at_call 48; exact quiet2 (Less_any _ _ _)))
            go_wp2
            (try simp only [Exit.inBlock, Exit.then])
            refine bodyPost_ret (results_none rfl _ _ _) rfl ?_
            have h1 := HPR.out
            have h2 := HPC.out
            have h3 := HIR.out
            have h4 := HIC.out
            have h5 := HCH.out
            refine ⟨rfl, ?_, (hK.drewN' _).drewN' _⟩
            rw [← HO.out]
            subst h5
            subst h3
            subst h4
            rw [sd_left_stop ltN dk (by omega) (fun _ => by rw [decide_eq_false_iff_not]; have h6 := HPG.out; rw [h2, h6] at hpick; exact hpick) (by rw [decide_eq_false_iff_not]; rw [h1, h2] at hcmp; exact hcmp)]
            exact HD.out.nw (Nw.drewN' (Nw.drewN wr _) _)
      · have hg : decide ((ch : Int) + 1 < (hi : Int)) = false := by rw [decide_eq_false_iff_not]; omega
        by_cases hcmp : pr < pc
        · go_wp2
          go_quiet (fail)
          go_wp2
          go_quiet ((go_at_call 48; exact quiet2 (Less_any _ _ _)))
          go_wp2
          go_region
          all_goals go_wp2
          go_roundw
          case rel =>
            have h1 := HPR.out
            have h2 := HPC.out
            have h3 := HIR.out
            have h4 := HIC.out
            have h5 := HCH.out
            refine ⟨ch, swp dk (F + r) (F + ch), rfl, by omega, by rw [size_swp]; exact HS.out, ?_, ((hK.drewN' _).setCell' (.inl rfl) _).setCell' (.inl rfl) _, ?_⟩
            · rw [h1, h2, h3, h4]
              exact (HD.out.nw (Nw.drewN wr _)).swap (F + r) (F + ch)
            · rw [← HO.out]
              subst h5
              subst h3
              subst h4
              exact (sd_left_go ltN dk (by omega) (fun h => by omega) (by rw [decide_eq_true_iff]; rw [h1, h2] at hcmp; exact hcmp)).symm
          case measure => simp [intOf]; omega
        · go_wp2
          go_quiet (fail)
          go_wp2
          go_quiet ((go_at_call 48; exact quiet2 (Less_any _ _ _)))
          go_wp2
          (try simp only [Exit.inBlock, Exit.then])
          refine bodyPost_ret (results_none rfl _ _ _) rfl ?_
          have h1 := HPR.out
          have h2 := HPC.out
          have h3 := HIR.out
          have h4 := HIC.out
          have h5 := HCH.out
          refine ⟨rfl, ?_, (hK.drewN' _).drewN' _⟩
          rw [← HO.out]
          subst h5
          subst h3
          subst h4
          rw [sd_left_stop ltN dk (by omega) (fun h => by omega) (by rw [decide_eq_false_iff_not]; rw [h1, h2] at hcmp; exact hcmp)]
          exact HD.out.nw (Nw.drewN' (Nw.drewN wr _) _)

set_option maxHeartbeats 1600000 in
theorem heapSort_any (w : World) (b c x y : Nat) (d : Array Nat) (hH : Dv w b c d) (hxy : x ≤ y) (hy : y ≤ d.size) (hsz : d.size < 2305843009213693951) :
    Calls Try.prog 55 #[.slice (some ⟨b, 0, none⟩) d.size c, .int .i64 (x : Int), .int .i64 (y : Int)] w fun e w' =>
      e = .returned (.tuple #[]) ∧ Dv w' b c (Sort.heapSort ltN d x y) ∧ Kp b b w w' := by
  obtain ⟨hi, hyy⟩ : ∃ hi, hi = y - x := ⟨y - x, rfl⟩
  have e0 : (y : Int) - (x : Int) = (hi : Int) := by omega
  have HF : x + hi ≤ d.size := by omega
  have HYY := Lib.hid hyy
  clear hyy
  have hini : ((hi : Int) - 1).tdiv 2 = (((hi - 1) / 2 + 1 : Nat) : Int) - 1 := by
    have := half_start (a := 0) (b := hi) (by omega)
    simpa using this
  have HINI := Lib.hid hini
  clear hini
  go_enter Try.func55, Try.ntmps55
  go_wp2
  go_loopw [9] (fun vi wr => ∃ (k : Nat) (dk : Array Nat), vi = .int .i64 ((k : Int) - 1) ∧ k ≤ (hi - 1) / 2 + 1 ∧ dk.size = d.size ∧ Dv wr b c dk ∧ Kp b b w wr ∧ heapBuild ltN hi x k dk = heapBuild ltN hi x ((hi - 1) / 2 + 1) d) (fun vi _ => (intOf vi + 1).toNat)
  case atStart =>
    refine ⟨(hi - 1) / 2 + 1, d, ?_, Nat.le_refl _, rfl, hH, Kp.refl _ _ _, rfl⟩
    rw [← HINI.out]
  case round =>
    obtain ⟨k, dk, rfl, hk, hsk, hD, hK, hO⟩ := hrel
    have HO := Lib.hid hO
    have HS := Lib.hid hsk
    clear hO hH hsk
    cases k with
    | zero =>
      have ez : ((0 : Nat) : Int) - 1 = -1 := rfl
      rw [ez]
      clear ez
      go_wp2
      go_loopw [10] (fun vi wr => ∃ (k : Nat) (dk : Array Nat), vi = .int .i64 ((k : Int) - 1) ∧ k ≤ hi ∧ dk.size = d.size ∧ Dv wr b c dk ∧ Kp b b w wr ∧ heapPop ltN x k dk = Sort.heapSort ltN d x y) (fun vi _ => (intOf vi + 1).toNat)
      case atStart =>
        refine ⟨hi, dk, rfl, Nat.le_refl _, HS.out, hD, hK, ?_⟩
        unfold Sort.heapSort
        rw [← HYY.out, ← HO.out]
        rfl
      case round =>
        clear hD hK HO HS
        obtain ⟨k, dk, rfl, hk, hsk, hD, hK, hO⟩ := hrel
        have HO := Lib.hid hO
        have HS := Lib.hid hsk
        clear hO hsk
        cases k with
        | zero =>
          go_wp2
          go_end0
          exact ⟨rfl, by rw [← HO.out]; exact hD, hK⟩
        | succ k =>
          have ek : ((k + 1 : Nat) : Int) - 1 = (k : Int) := by omega
          rw [ek]
          clear ek
          rcases Nat.eq_zero_or_pos k with rfl | hk0
          · have hxs : x < d.size := by omega
            have hxx := hD.cell (j := x) (by have := HS.out; omega)
            have hfx := hD.free x (by have := HS.out; omega)
            obtain ⟨q, hq⟩ : ∃ q, q = dk[x]! := ⟨_, rfl⟩
            rw [← hq] at hxx
            have HQ := Lib.hid hq
            have HD := Lib.hid hD
            have i2 : (x : Int) < (d.size : Int) := by omega
            have w1 : IntKind.i64.wrap (x : Int) = (x : Int) := IntWalk.i64_in _ (by omega)
            clear hq hD
            have hsd : ∀ W, Dv W b c (swp dk x x) → Calls Try.prog 62 #[.slice (some ⟨b, 0, none⟩) d.size c, .int .i64 0, .int .i64 0, .int .i64 (x : Int)] W fun e w' =>
                e = .returned (.tuple #[]) ∧ Dv w' b c (Sort.siftDown ltN 0 x 0 (swp dk x x)) ∧ Kp b b W w' := by
              intro W hW
              have hs : (swp dk x x).size = d.size := by rw [size_swp]; exact HS.out
              have := siftDown_any W b c 0 0 x (swp dk x x) hW (by rw [hs]; omega) (by omega) (by rw [hs]; omega)
              rw [hs] at this
              exact this
            have HSD := Lib.hid hsd
            clear hsd
            have hDs : Dv ((wr.setCell ⟨b, x, none⟩ (.int .u64 (q : Int))).setCell ⟨b, x, none⟩ (.int .u64 (q : Int))).drew b c (swp dk x x) := by
              have h2 := HD.out.swap x x
              rw [← HQ.out] at h2
              exact h2.nw (Nw.drewN _ 1)
            have HDS := Lib.hid hDs
            clear hDs
            have hKs : Kp b b w ((wr.setCell ⟨b, x, none⟩ (.int .u64 (q : Int))).setCell ⟨b, x, none⟩ (.int .u64 (q : Int))).drew := ((hK.setCell' (.inl rfl) _).setCell' (.inl rfl) _).drewN' 1
            have HKS := Lib.hid hKs
            clear hKs
            go_wp2
            go_region
            all_goals go_wp2_with fail
            refine (HSD.out _ HDS.out).mono ?_
            rintro e w1 ⟨rfl, hD1, hK1⟩
            go_wp2
            go_roundw
            case rel =>
              refine ⟨0, _, rfl, by omega, by rw [size_siftDown ltN 0 x _ 0 _ (Nat.le_refl _), size_swp]; exact HS.out, hD1, HKS.out.trans hK1 (.inl rfl) (.inl rfl), ?_⟩
              rw [← HO.out]
              rfl
            case measure => simp [intOf]
          · obtain ⟨ik, hik⟩ : ∃ i, i = x + k := ⟨_, rfl⟩
            have e1 : (x : Int) + (k : Int) = (ik : Int) := by omega
            have hiks : ik < d.size := by omega
            have hxs : x < d.size := by omega
            have hxk := hD.cell (j := ik) (by have := HS.out; omega)
            have hxx := hD.cell (j := x) (by have := HS.out; omega)
            have hfk := hD.free ik (by have := HS.out; omega)
            have hfx := hD.free x (by have := HS.out; omega)
            obtain ⟨p, hp⟩ : ∃ p, p = dk[ik]! := ⟨_, rfl⟩
            obtain ⟨q, hq⟩ : ∃ q, q = dk[x]! := ⟨_, rfl⟩
            rw [← hp] at hxk
            rw [← hq] at hxx
            have HPQ := Lib.hid (And.intro hp hq)
            have HIK := Lib.hid hik
            have HD := Lib.hid hD
            have i1 : (ik : Int) < (d.size : Int) := by omega
            have i2 : (x : Int) < (d.size : Int) := by omega
            have w1 : IntKind.i64.wrap (ik : Int) = (ik : Int) := IntWalk.i64_in _ (by omega)
            clear hp hq hik hD
            have hsd : ∀ W, Dv W b c (swp dk x ik) → Calls Try.prog 62 #[.slice (some ⟨b, 0, none⟩) d.size c, .int .i64 0, .int .i64 (k : Int), .int .i64 (x : Int)] W fun e w' =>
                e = .returned (.tuple #[]) ∧ Dv w' b c (Sort.siftDown ltN k x 0 (swp dk x ik)) ∧ Kp b b W w' := by
              intro W hW
              have hs : (swp dk x ik).size = d.size := by rw [size_swp]; exact HS.out
              have := siftDown_any W b c 0 k x (swp dk x ik) hW (by rw [hs]; omega) (by omega) (by rw [hs]; omega)
              rw [hs] at this
              exact this
            have HSD := Lib.hid hsd
            clear hsd
            have hne1 : ¬ x = ik := by omega
            have hne2 : ¬ ik = x := by omega
            have hDs : Dv ((wr.setCell ⟨b, x, none⟩ (.int .u64 (p : Int))).setCell ⟨b, ik, none⟩ (.int .u64 (q : Int))).drew b c (swp dk x ik) := by
              obtain ⟨hp, hq⟩ := HPQ.out
              rw [hp, hq]
              exact (HD.out.swap x ik).nw (Nw.drewN _ 1)
            have HDS := Lib.hid hDs
            clear hDs
            have hKs : Kp b b w ((wr.setCell ⟨b, x, none⟩ (.int .u64 (p : Int))).setCell ⟨b, ik, none⟩ (.int .u64 (q : Int))).drew := ((hK.setCell' (.inl rfl) _).setCell' (.inl rfl) _).drewN' 1
            have HKS := Lib.hid hKs
            clear hKs
            go_wp2
            go_region
            all_goals go_wp2_with fail
            refine (HSD.out _ HDS.out).mono ?_
            rintro e w1 ⟨rfl, hD1, hK1⟩
            go_wp2
            go_roundw
            case rel =>
              refine ⟨k, _, rfl, by omega, by rw [size_siftDown ltN k x _ 0 _ (Nat.le_refl _), size_swp]; exact HS.out, hD1, HKS.out.trans hK1 (.inl rfl) (.inl rfl), ?_⟩
              have h1 := HIK.out
              rw [← HO.out]
              show _ = heapPop ltN x k (siftDown ltN k x 0 (swp dk x (x + k)))
              rw [h1]
            case measure => simp [intOf]
    | succ k =>
      have ek : ((k + 1 : Nat) : Int) - 1 = (k : Int) := by omega
      rw [ek]
      clear ek
      have hsd := siftDown_any wr b c k hi x dk hD (by have := HS.out; omega) (by omega) (by have := HS.out; omega)
      rw [HS.out] at hsd
      have HSD := Lib.hid hsd
      clear hsd hD
      go_wp2_with (go_at_call 62; refine HSD.out.mono ?_; rintro e w1 ⟨rfl, hD1, hK1⟩)
      go_roundw
      case rel => exact ⟨k, _, rfl, by omega, by rw [size_siftDown ltN hi x _ k dk (Nat.le_refl _)]; exact HS.out, hD1, hK.trans hK1 (.inl rfl) (.inl rfl), HO.out⟩
      case measure => simp [intOf]
end Go.Proofs.Ytbdpimnbjonhlaa
