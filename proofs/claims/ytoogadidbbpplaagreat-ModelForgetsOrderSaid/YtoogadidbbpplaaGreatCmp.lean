/- labels: parts, by, single; labels.Compare and the reference's Compare. -/
import Derived.Test.YtoogadidbbpplaaGreatStr
import Derived.Laws.ResultCell
import Derived.Laws.EntriesVeiled
import Derived.BigQuiet
import Derived.Shelf.Abstract
namespace Go.Proofs.YtoogadidbbpplaaGreat
open Go Go.RowKit Go.Sort

theorem cell_at {w : World} {b k : Nat} {cs : Array Value} {t : TypeId} {fr : Nat × Nat} (h : w.heap[b]? = some (.cells cs t fr)) : w.cell? ⟨b, k, none⟩ = cs[k]? := by simp [World.cell?, h]
def partFs : Array Value := #[.func (.func 64) #[] #[], .func (.func 65) #[] #[]]
theorem parts_any (w : World) : Calls Tryz.prog 47 #[] w fun e w' => e = .returned (.agg partFs) ∧ Gr w w' := by
  go_enter Tryz.func47, Tryz.ntmps47
  go_wp2
  refine bodyPost_ret (results_cell_row rfl _ _ w.heap.size 81 _ _ _ rfl (heap_alloc_new _ _) Tryz.underlying81 rfl (by kernel_rfl)) rfl ?_
  exact ⟨rfl, Gr.alloc _ _⟩
theorem part1_any (w : World) (a b : ByteArray) : Calls Tryz.prog 64 #[.agg #[.string a, .string b]] w fun e w' => e = .returned (.string a) ∧ Gr w w' := by
  go_enter Tryz.func64, Tryz.ntmps64
  go_wp2
  go_ret
  exact ⟨rfl, Gr.alloc _ _⟩
theorem part2_any (w : World) (a b : ByteArray) : Calls Tryz.prog 65 #[.agg #[.string a, .string b]] w fun e w' => e = .returned (.string b) ∧ Gr w w' := by
  go_enter Tryz.func65, Tryz.ntmps65
  go_wp2
  go_ret
  exact ⟨rfl, Gr.alloc _ _⟩
theorem by_any (w : World) (f : FuncId) : Calls Tryz.prog 46 #[.func (.func f) #[] #[]] w fun e w' => e = .returned (.func (.func 62) #[] #[.pointer (some ⟨w.heap.size, 0, none⟩)]) ∧ w' = w.alloc (.cells #[.func (.func f) #[] #[]] 78) := by
  go_enter Tryz.func46, Tryz.ntmps46
  go_wp2
  go_ret
  exact ⟨rfl, rfl⟩
theorem byC1_any (w : World) (g : Nat) (a b c d : ByteArray) (hc : w.cell? ⟨g, 0, none⟩ = some (.func (.func 64) #[] #[])) :
    Calls Tryz.prog 62 #[.agg #[.string a, .string b], .agg #[.string c, .string d], .pointer (some ⟨g, 0, none⟩)] w fun e w' => e = .returned (.int .i64 (cmpS a c)) ∧ Gr w w' := by
  have hg := lt_of_cell hc
  go_enter Tryz.func62, Tryz.ntmps62
  go_wp2_with fail
  have hb0 : ((w.alloc (.cells #[.string a, .string b] 47)).alloc (.cells #[.string c, .string d] 47)).heap[w.heap.size]? = some (.cells #[.string a, .string b] 47 (0, 0)) := by
    rw [heap_alloc_old _ _ (by simp)]; exact heap_alloc_new _ _
  have hb1 : ((w.alloc (.cells #[.string a, .string b] 47)).alloc (.cells #[.string c, .string d] 47)).heap[w.heap.size + 1]? = some (.cells #[.string c, .string d] 47 (0, 0)) := by
    simpa using heap_alloc_new (w.alloc (.cells #[.string a, .string b] 47)) _
  have hgr : Gr w ((w.alloc (.cells #[.string a, .string b] 47)).alloc (.cells #[.string c, .string d] 47)) := (Gr.alloc _ _).trans (Gr.alloc _ _)
  have hcq := cell_old hgr.nw hg hc
  have hgq : g < ((w.alloc (.cells #[.string a, .string b] 47)).alloc (.cells #[.string c, .string d] 47)).heap.size := Nat.lt_of_lt_of_le hg hgr.nw.size
  generalize (w.alloc (.cells #[.string a, .string b] 47)).alloc (.cells #[.string c, .string d] 47) = wq at *
  have hl0 := lt_of_block hb0
  have hl1 := lt_of_block hb1
  have q0 : ∀ p : Gp, (grow (wq.drewN p.n) p.os).cell? ⟨w.heap.size, 0, none⟩ = some (.string a) := cell_gr hl0 (by simp [World.cell?, hb0])
  have q1 : ∀ p : Gp, (grow (wq.drewN p.n) p.os).cell? ⟨w.heap.size, 1, none⟩ = some (.string b) := cell_gr hl0 (by simp [World.cell?, hb0])
  have q2 : ∀ p : Gp, (grow (wq.drewN p.n) p.os).cell? ⟨w.heap.size + 1, 0, none⟩ = some (.string c) := cell_gr hl1 (by simp [World.cell?, hb1])
  have q3 : ∀ p : Gp, (grow (wq.drewN p.n) p.os).cell? ⟨w.heap.size + 1, 1, none⟩ = some (.string d) := cell_gr hl1 (by simp [World.cell?, hb1])
  have q4 : ∀ p : Gp, (grow (wq.drewN p.n) p.os).cell? ⟨g, 0, none⟩ = some (.func (.func 64) #[] #[]) := cell_gr hgq hcq
  refine wp_region_gr (by kernel_rfl) (by kernel_rfl) ?_
  repeat (quiet_step (first | (go_at_call 63; refine Calls.gr ((CompareS_any _ _ _).mono fun _ _ h => ⟨h.1, by rw [← h.2]; exact Gr.refl _⟩)) | (go_at_call 64; refine Calls.gr (part1_any _ _ _)) | (refine Calls.gr (part1_any _ _ _))))
  refine wpQuiet_nil ?_
  rintro _ ⟨p, rfl⟩
  go_wp2
  go_ret
  exact ⟨rfl, hgr.trans ⟨p, rfl⟩⟩
theorem byC2_any (w : World) (g : Nat) (a b c d : ByteArray) (hc : w.cell? ⟨g, 0, none⟩ = some (.func (.func 65) #[] #[])) :
    Calls Tryz.prog 62 #[.agg #[.string a, .string b], .agg #[.string c, .string d], .pointer (some ⟨g, 0, none⟩)] w fun e w' => e = .returned (.int .i64 (cmpS b d)) ∧ Gr w w' := by
  have hg := lt_of_cell hc
  go_enter Tryz.func62, Tryz.ntmps62
  go_wp2_with fail
  have hb0 : ((w.alloc (.cells #[.string a, .string b] 47)).alloc (.cells #[.string c, .string d] 47)).heap[w.heap.size]? = some (.cells #[.string a, .string b] 47 (0, 0)) := by
    rw [heap_alloc_old _ _ (by simp)]; exact heap_alloc_new _ _
  have hb1 : ((w.alloc (.cells #[.string a, .string b] 47)).alloc (.cells #[.string c, .string d] 47)).heap[w.heap.size + 1]? = some (.cells #[.string c, .string d] 47 (0, 0)) := by
    simpa using heap_alloc_new (w.alloc (.cells #[.string a, .string b] 47)) _
  have hgr : Gr w ((w.alloc (.cells #[.string a, .string b] 47)).alloc (.cells #[.string c, .string d] 47)) := (Gr.alloc _ _).trans (Gr.alloc _ _)
  have hcq := cell_old hgr.nw hg hc
  have hgq : g < ((w.alloc (.cells #[.string a, .string b] 47)).alloc (.cells #[.string c, .string d] 47)).heap.size := Nat.lt_of_lt_of_le hg hgr.nw.size
  generalize (w.alloc (.cells #[.string a, .string b] 47)).alloc (.cells #[.string c, .string d] 47) = wq at *
  have hl0 := lt_of_block hb0
  have hl1 := lt_of_block hb1
  have q0 : ∀ p : Gp, (grow (wq.drewN p.n) p.os).cell? ⟨w.heap.size, 0, none⟩ = some (.string a) := cell_gr hl0 (by simp [World.cell?, hb0])
  have q1 : ∀ p : Gp, (grow (wq.drewN p.n) p.os).cell? ⟨w.heap.size, 1, none⟩ = some (.string b) := cell_gr hl0 (by simp [World.cell?, hb0])
  have q2 : ∀ p : Gp, (grow (wq.drewN p.n) p.os).cell? ⟨w.heap.size + 1, 0, none⟩ = some (.string c) := cell_gr hl1 (by simp [World.cell?, hb1])
  have q3 : ∀ p : Gp, (grow (wq.drewN p.n) p.os).cell? ⟨w.heap.size + 1, 1, none⟩ = some (.string d) := cell_gr hl1 (by simp [World.cell?, hb1])
  have q4 : ∀ p : Gp, (grow (wq.drewN p.n) p.os).cell? ⟨g, 0, none⟩ = some (.func (.func 65) #[] #[]) := cell_gr hgq hcq
  refine wp_region_gr (by kernel_rfl) (by kernel_rfl) ?_
  repeat (quiet_step (first | (go_at_call 63; refine Calls.gr ((CompareS_any _ _ _).mono fun _ _ h => ⟨h.1, by rw [← h.2]; exact Gr.refl _⟩)) | (go_at_call 65; refine Calls.gr (part2_any _ _ _)) | (refine Calls.gr (part2_any _ _ _))))
  refine wpQuiet_nil ?_
  rintro _ ⟨p, rfl⟩
  go_wp2
  go_ret
  exact ⟨rfl, hgr.trans ⟨p, rfl⟩⟩

/-- labels compared -/
def cmpL (x y : Lab) : Int := if cmpS x.1 y.1 ≠ 0 then cmpS x.1 y.1 else cmpS x.2 y.2
set_option maxRecDepth 100000 in
set_option maxHeartbeats 1600000 in
theorem cmpLab_any (w : World) (x y : Lab) :
    Calls Tryz.prog 72 #[.agg #[.string x.1, .string x.2], .agg #[.string y.1, .string y.2]] w fun e w' => e = .returned (.int .i64 (cmpL x y)) ∧ Gr w w' := by
  have HC := Lib.hid (show cmpL x y = (if cmpS x.1 y.1 ≠ 0 then cmpS x.1 y.1 else cmpS x.2 y.2) from rfl)
  obtain ⟨a, b⟩ := x
  obtain ⟨c, d⟩ := y
  dsimp only at HC ⊢
  generalize cmpL (a, b) (c, d) = C at *
  have i0 : ∀ W, (Instr.index 81 (.agg partFs) (.int .i64 0)).run Tryz.prog W = .ok (.agg #[.func (.func 64) #[] #[]]) W := fun _ => by kernel_rfl
  have i1 : ∀ W, (Instr.index 81 (.agg partFs) (.int .i64 1)).run Tryz.prog W = .ok (.agg #[.func (.func 65) #[] #[]]) W := fun _ => by kernel_rfl
  obtain ⟨c1, hc1⟩ : ∃ x, cmpS a c = x := ⟨_, rfl⟩
  obtain ⟨c2, hc2⟩ : ∃ x, cmpS b d = x := ⟨_, rfl⟩
  rw [hc1, hc2] at HC
  have HV1 := Lib.hid hc1
  have HV2 := Lib.hid hc2
  clear hc1 hc2
  go_enter Tryz.func72, Tryz.ntmps72
  go_wp2_with fail
  obtain ⟨g0, hg0⟩ : ∃ g, g = w.heap.size := ⟨_, rfl⟩
  obtain ⟨g1, hg1⟩ : ∃ g, g = w.heap.size + 1 := ⟨_, rfl⟩
  have hb0 : ((w.alloc (.cells #[.string a, .string b] 47)).alloc (.cells #[.string c, .string d] 47)).heap[g0]? = some (.cells #[.string a, .string b] 47 (0, 0)) := by
    rw [hg0, heap_alloc_old _ _ (by simp)]; exact heap_alloc_new _ _
  have hb1 : ((w.alloc (.cells #[.string a, .string b] 47)).alloc (.cells #[.string c, .string d] 47)).heap[g1]? = some (.cells #[.string c, .string d] 47 (0, 0)) := by
    rw [hg1]; simpa using heap_alloc_new (w.alloc (.cells #[.string a, .string b] 47)) _
  have hN0 : Gr w ((w.alloc (.cells #[.string a, .string b] 47)).alloc (.cells #[.string c, .string d] 47)) := ((Gr.refl w).alloc' _).alloc' _
  rw [← hg1, ← hg0]
  clear hg0 hg1
  generalize (w.alloc (.cells #[.string a, .string b] 47)).alloc (.cells #[.string c, .string d] 47) = wb at *
  refine (parts_any _).mono ?_
  rintro e w1 ⟨rfl, hgr⟩
  have hN1 := hgr
  have hbl0 := lt_of_block hb0
  have hbl1 := lt_of_block hb1
  have HBB : Hid (∀ W, Gr wb W → W.cell? ⟨g0, 0, none⟩ = some (.string a) ∧ W.cell? ⟨g0, 1, none⟩ = some (.string b) ∧ W.cell? ⟨g1, 0, none⟩ = some (.string c) ∧ W.cell? ⟨g1, 1, none⟩ = some (.string d)) := by
    refine Lib.hid fun W hN => ?_
    have h0 := (hN.block g0 hbl0).trans hb0
    have h1 := (hN.block g1 hbl1).trans hb1
    exact ⟨by simp [World.cell?, h0], by simp [World.cell?, h0], by simp [World.cell?, h1], by simp [World.cell?, h1]⟩
  go_wp2_with fail
  refine wp_loop_rounds 3 ?_
  rw [rounds_succ]
  go_wp2_with fail
  generalize hwq : w1.alloc (.cells #[.func (.func 64) #[] #[]] 80) = wq1
  obtain ⟨gp1, hgp1⟩ : ∃ g, g = w1.heap.size := ⟨_, rfl⟩
  have hp1 : wq1.heap[gp1]? = some (.cells #[.func (.func 64) #[] #[]] 80 (0, 0)) := by rw [← hwq, hgp1]; exact heap_alloc_new _ _
  have hq1 : Gr wb wq1 := by rw [← hwq]; exact hN1.alloc' _
  rw [← hgp1]
  have hpl1 := lt_of_block hp1
  have H1 : Hid (∀ W, Gr wq1 W → W.cell? ⟨gp1, 0, none⟩ = some (.func (.func 64) #[] #[]) ∧ W.cell? ⟨g0, 0, none⟩ = some (.string a) ∧ W.cell? ⟨g0, 1, none⟩ = some (.string b) ∧ W.cell? ⟨g1, 0, none⟩ = some (.string c) ∧ W.cell? ⟨g1, 1, none⟩ = some (.string d)) := by
    refine Lib.hid fun W hN => ?_
    have h0 := (hN.block gp1 hpl1).trans hp1
    exact ⟨by simp [World.cell?, h0], HBB.out _ (hq1.trans hN)⟩
  clear hwq hgp1 hp1
  have HB1 : Hid (∀ W, (W.cell? ⟨gp1, 0, none⟩ = some (.func (.func 64) #[] #[]) ∧ W.cell? ⟨g0, 0, none⟩ = some (.string a) ∧ W.cell? ⟨g0, 1, none⟩ = some (.string b) ∧ W.cell? ⟨g1, 0, none⟩ = some (.string c) ∧ W.cell? ⟨g1, 1, none⟩ = some (.string d)) ∧ Gr wq1 W →
      Calls Tryz.prog 46 #[.func (.func 64) #[] #[]] W fun e w' => ∃ gb : Nat, e = .returned (.func (.func 62) #[] #[.pointer (some ⟨gb, 0, none⟩)]) ∧ w'.cell? ⟨gb, 0, none⟩ = some (.func (.func 64) #[] #[]) ∧
        ((w'.cell? ⟨gp1, 0, none⟩ = some (.func (.func 64) #[] #[]) ∧ w'.cell? ⟨g0, 0, none⟩ = some (.string a) ∧ w'.cell? ⟨g0, 1, none⟩ = some (.string b) ∧ w'.cell? ⟨g1, 0, none⟩ = some (.string c) ∧ w'.cell? ⟨g1, 1, none⟩ = some (.string d)) ∧ Gr wq1 w')) := by
    refine Lib.hid fun W hS => (by_any W _).mono ?_
    rintro e w' ⟨rfl, rfl⟩
    exact ⟨W.heap.size, rfl, cell_at (heap_alloc_new W _), H1.out _ (hS.2.alloc' _), hS.2.alloc' _⟩
  have HC1 : Hid (∀ W (gb : Nat), W.cell? ⟨gb, 0, none⟩ = some (.func (.func 64) #[] #[]) → ((W.cell? ⟨gp1, 0, none⟩ = some (.func (.func 64) #[] #[]) ∧ W.cell? ⟨g0, 0, none⟩ = some (.string a) ∧ W.cell? ⟨g0, 1, none⟩ = some (.string b) ∧ W.cell? ⟨g1, 0, none⟩ = some (.string c) ∧ W.cell? ⟨g1, 1, none⟩ = some (.string d)) ∧ Gr wq1 W) →
      Calls Tryz.prog 62 #[.agg #[.string a, .string b], .agg #[.string c, .string d], .pointer (some ⟨gb, 0, none⟩)] W fun e w' => e = .returned (.int .i64 c1) ∧
        ((w'.cell? ⟨gp1, 0, none⟩ = some (.func (.func 64) #[] #[]) ∧ w'.cell? ⟨g0, 0, none⟩ = some (.string a) ∧ w'.cell? ⟨g0, 1, none⟩ = some (.string b) ∧ w'.cell? ⟨g1, 0, none⟩ = some (.string c) ∧ w'.cell? ⟨g1, 1, none⟩ = some (.string d)) ∧ Gr wq1 w')) := by
    refine Lib.hid fun W gb hgb hS => ?_
    have h := byC1_any W gb a b c d hgb
    rw [HV1.out] at h
    refine h.mono ?_
    rintro e w' ⟨rfl, hN⟩
    exact ⟨rfl, H1.out _ (hS.2.trans hN), hS.2.trans hN⟩
  have E10 := Lib.hid (And.intro (H1.out _ (Gr.refl wq1)) (Gr.refl wq1))
  have E11 := Lib.hid (And.intro (H1.out _ (Gr.drewO wq1)) (Gr.drewO wq1))
  go_region_held3 (fun w' => (w'.cell? ⟨gp1, 0, none⟩ = some (.func (.func 64) #[] #[]) ∧ w'.cell? ⟨g0, 0, none⟩ = some (.string a) ∧ w'.cell? ⟨g0, 1, none⟩ = some (.string b) ∧ w'.cell? ⟨g1, 0, none⟩ = some (.string c) ∧ w'.cell? ⟨g1, 1, none⟩ = some (.string d)) ∧ Gr wq1 w')
    (first | exact E10.out | exact E11.out | exact hS)
    (first
      | (go_at_call 46; refine (HB1.out _ (by assumption)).mono ?_; rintro e w5 ⟨gb, rfl, hgb, hS⟩)
      | (go_at_call 62; refine (HC1.out _ gb hgb (by assumption)).mono ?_; rintro e w6 ⟨rfl, hS⟩))
  by_cases hz : c1 = 0
  · have hz1 : (c1 != 0) = false := by rw [bne_eq_false_iff_eq]; exact hz
    have hC := HC.out
    rw [if_neg (by simp [hz])] at hC
    have HC0 := Lib.hid hC
    have HS6 := Lib.hid (hq1.trans hS.2)
    clear hC hS HC hz
    go_wp2_with fail
    rw [rounds_succ]
    go_wp2_with fail
    generalize hwq : w6.alloc (.cells #[.func (.func 65) #[] #[]] 80) = wq2
    obtain ⟨gp2, hgp2⟩ : ∃ g, g = w6.heap.size := ⟨_, rfl⟩
    have hp2 : wq2.heap[gp2]? = some (.cells #[.func (.func 65) #[] #[]] 80 (0, 0)) := by rw [← hwq, hgp2]; exact heap_alloc_new _ _
    have hq2 : Gr wb wq2 := by rw [← hwq]; exact HS6.out.alloc' _
    rw [← hgp2]
    have hpl2 := lt_of_block hp2
    have H2 : Hid (∀ W, Gr wq2 W → W.cell? ⟨gp2, 0, none⟩ = some (.func (.func 65) #[] #[]) ∧ W.cell? ⟨g0, 0, none⟩ = some (.string a) ∧ W.cell? ⟨g0, 1, none⟩ = some (.string b) ∧ W.cell? ⟨g1, 0, none⟩ = some (.string c) ∧ W.cell? ⟨g1, 1, none⟩ = some (.string d)) := by
      refine Lib.hid fun W hN => ?_
      have h0 := (hN.block gp2 hpl2).trans hp2
      exact ⟨by simp [World.cell?, h0], HBB.out _ (hq2.trans hN)⟩
    clear hwq hgp2 hp2
    have HB2 : Hid (∀ W, (W.cell? ⟨gp2, 0, none⟩ = some (.func (.func 65) #[] #[]) ∧ W.cell? ⟨g0, 0, none⟩ = some (.string a) ∧ W.cell? ⟨g0, 1, none⟩ = some (.string b) ∧ W.cell? ⟨g1, 0, none⟩ = some (.string c) ∧ W.cell? ⟨g1, 1, none⟩ = some (.string d)) ∧ Gr wq2 W →
        Calls Tryz.prog 46 #[.func (.func 65) #[] #[]] W fun e w' => ∃ gb : Nat, e = .returned (.func (.func 62) #[] #[.pointer (some ⟨gb, 0, none⟩)]) ∧ w'.cell? ⟨gb, 0, none⟩ = some (.func (.func 65) #[] #[]) ∧
          ((w'.cell? ⟨gp2, 0, none⟩ = some (.func (.func 65) #[] #[]) ∧ w'.cell? ⟨g0, 0, none⟩ = some (.string a) ∧ w'.cell? ⟨g0, 1, none⟩ = some (.string b) ∧ w'.cell? ⟨g1, 0, none⟩ = some (.string c) ∧ w'.cell? ⟨g1, 1, none⟩ = some (.string d)) ∧ Gr wq2 w')) := by
      refine Lib.hid fun W hS => (by_any W _).mono ?_
      rintro e w' ⟨rfl, rfl⟩
      exact ⟨W.heap.size, rfl, cell_at (heap_alloc_new W _), H2.out _ (hS.2.alloc' _), hS.2.alloc' _⟩
    have HC2 : Hid (∀ W (gb : Nat), W.cell? ⟨gb, 0, none⟩ = some (.func (.func 65) #[] #[]) → ((W.cell? ⟨gp2, 0, none⟩ = some (.func (.func 65) #[] #[]) ∧ W.cell? ⟨g0, 0, none⟩ = some (.string a) ∧ W.cell? ⟨g0, 1, none⟩ = some (.string b) ∧ W.cell? ⟨g1, 0, none⟩ = some (.string c) ∧ W.cell? ⟨g1, 1, none⟩ = some (.string d)) ∧ Gr wq2 W) →
        Calls Tryz.prog 62 #[.agg #[.string a, .string b], .agg #[.string c, .string d], .pointer (some ⟨gb, 0, none⟩)] W fun e w' => e = .returned (.int .i64 c2) ∧
          ((w'.cell? ⟨gp2, 0, none⟩ = some (.func (.func 65) #[] #[]) ∧ w'.cell? ⟨g0, 0, none⟩ = some (.string a) ∧ w'.cell? ⟨g0, 1, none⟩ = some (.string b) ∧ w'.cell? ⟨g1, 0, none⟩ = some (.string c) ∧ w'.cell? ⟨g1, 1, none⟩ = some (.string d)) ∧ Gr wq2 w')) := by
      refine Lib.hid fun W gb hgb hS => ?_
      have h := byC2_any W gb a b c d hgb
      rw [HV2.out] at h
      refine h.mono ?_
      rintro e w' ⟨rfl, hN⟩
      exact ⟨rfl, H2.out _ (hS.2.trans hN), hS.2.trans hN⟩
    have E20 := Lib.hid (And.intro (H2.out _ (Gr.refl wq2)) (Gr.refl wq2))
    have E21 := Lib.hid (And.intro (H2.out _ (Gr.drewO wq2)) (Gr.drewO wq2))
    go_region_held3 (fun w' => (w'.cell? ⟨gp2, 0, none⟩ = some (.func (.func 65) #[] #[]) ∧ w'.cell? ⟨g0, 0, none⟩ = some (.string a) ∧ w'.cell? ⟨g0, 1, none⟩ = some (.string b) ∧ w'.cell? ⟨g1, 0, none⟩ = some (.string c) ∧ w'.cell? ⟨g1, 1, none⟩ = some (.string d)) ∧ Gr wq2 w')
      (first | exact E20.out | exact E21.out | exact hS)
      (first
        | (go_at_call 46; refine (HB2.out _ (by assumption)).mono ?_; rintro e w5 ⟨gb, rfl, hgb, hS⟩)
        | (go_at_call 62; refine (HC2.out _ gb hgb (by assumption)).mono ?_; rintro e w6 ⟨rfl, hS⟩))
    by_cases hz2 : c2 = 0
    · have hz3 : (c2 != 0) = false := by rw [bne_eq_false_iff_eq]; exact hz2
      go_wp2_with fail
      rw [rounds_succ]
      go_wp2_with fail
      go_ret
      rw [HC0.out, hz2]
      exact ⟨rfl, (hN0.trans hq2).trans hS.2⟩
    · have hz3 : (c2 != 0) = true := by rw [bne_iff_ne]; exact hz2
      go_wp2_with fail
      go_ret
      rw [HC0.out]
      exact ⟨rfl, (hN0.trans hq2).trans hS.2⟩
  · have hz1 : (c1 != 0) = true := by rw [bne_iff_ne]; exact hz
    have hC := HC.out
    rw [if_pos hz] at hC
    have HC0 := Lib.hid hC
    clear hC HC
    go_wp2_with fail
    go_ret
    rw [HC0.out]
    exact ⟨rfl, (hN0.trans hq1).trans hS.2⟩
end Go.Proofs.YtoogadidbbpplaaGreat
