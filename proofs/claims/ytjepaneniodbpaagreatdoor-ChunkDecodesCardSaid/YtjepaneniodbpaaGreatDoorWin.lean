/- xorval's windows: trail, windowOf, fits. -/
import Derived.Test.YtjepaneniodbpaaGreatDoorGl
import Derived.Test.YtjepaneniodbpaaGreatDoorGrown
import Derived.BigQuiet
namespace Go.Proofs.YtjepaneniodbpaaGreatDoor
open Go Go.RowKit Go.Sort

/-- a window as a value: its leading zeros, its width -/
abbrev winV (a n : Int) : Value := .agg #[.int .i64 a, .int .i64 n]
/-- the window (a, b) of the plain law; the zero window is not used -/
def winOf : Win → Value
  | none => winV 0 0
  | some (a, b) => winV a ((64 - a - b : Nat) : Int)

theorem trail_any (w : World) (a n : Nat) (h : a + n ≤ 64) : Calls Tryz.prog 90 #[winV a n] w fun e w' => e = .returned (.int .i64 ((64 - a - n : Nat) : Int)) ∧ Gr w w' := by
  have e1 : (64 : Int) - (a : Int) - (n : Int) = ((64 - a - n : Nat) : Int) := by omega
  go_enter Tryz.func90, Tryz.ntmps90
  go_wp2
  go_ret
  exact ⟨by simp, Gr.alloc _ _⟩

theorem lz_le {x : Nat} (h0 : x ≠ 0) (hx : x < 18446744073709551616) : lz x ≤ 63 := (lz_spec h0 hx).1
theorem LeadingZeros64_any (w : World) (x : Nat) (hx : x < 18446744073709551616) : Calls Tryz.prog 98 #[.int .u64 (x : Int)] w fun e w' => e = .returned (.int .i64 (lz x : Int)) ∧ w = w' := by
  have h := Tryz.bits_LeadingZeros64 (x : Int) w (by omega) (by omega)
  have hl := Lib.bitLen_le x 64 (by omega) (by rw [pow64]; exact hx)
  have e1 : (64 : Int) - (Lib.bitLen x : Int) = (lz x : Int) := by unfold lz; omega
  simp only [Int.toNat_natCast, e1] at h
  exact h.mono fun e w' h => ⟨h.1, h.2.symm⟩

theorem windowOf_any (w : World) (x : Nat) (hG : Gl w) (h0 : x ≠ 0) (hx : x < 18446744073709551616) : Calls Tryz.prog 91 #[.int .u64 (x : Int)] w fun e w' => e = .returned (winV (lz x) ((64 - lz x - tz x : Nat) : Int)) ∧ Gr w w' := by
  have hlt := lz_tz h0 hx
  have HL := Lib.hid fun W : World => LeadingZeros64_any W x hx
  have HT := Lib.hid fun (W : World) (hN : Nw w W) => TrailingZeros64_any W x (hG.nw hN) h0 hx
  have e1 : (64 : Int) - (lz x : Int) - (tz x : Int) = ((64 - lz x - tz x : Nat) : Int) := by omega
  clear hG h0 hx
  generalize lz x = a at *
  generalize tz x = b at *
  go_enter Tryz.func91, Tryz.ntmps91
  go_wp2_with (first
    | (go_at_call 98; refine (HL.out _).mono ?_; rintro e w1 ⟨rfl, rfl⟩)
    | (go_at_call 99; refine (HT.out _ (Nw.alloc' (Nw.refl w) _)).mono ?_; rintro e w1 ⟨rfl, rfl⟩))
  refine bodyPost_ret (results_cell_row rfl _ _ w.heap.size 120 _ _ _ rfl (heap_alloc_new _ _) Tryz.underlying120 rfl (by kernel_rfl)) rfl ?_
  exact ⟨rfl, Gr.alloc _ _⟩

set_option maxHeartbeats 2000000 in
theorem fits_any (w : World) (g x : Nat) (win : Win) (hG : Gl w) (hw : WinOk win) (h0 : x ≠ 0) (hx : x < 18446744073709551616) (hg : g < w.heap.size)
    (hc : ∃ a n : Int, winOf win = winV a n ∧ w.cell? ⟨g, 1, none⟩ = some (.int .i64 a) ∧ w.cell? ⟨g, 2, none⟩ = some (.int .i64 n)) :
    Calls Tryz.prog 92 #[.pointer (some ⟨g, 0, none⟩), .int .u64 (x : Int)] w fun e w' => e = .returned (.bool (decide (fits win x))) ∧ Gr w w' := by
  obtain ⟨a0, n0, hwv, hc1, hc2⟩ := hc
  cases win with
  | none =>
    injection hwv with e; injection e with e; injection e with e1 e2; injection e2 with e2 _; injection e1 with _ e1; injection e2 with _ e2
    subst e1 e2
    clear hG
    go_enter Tryz.func92, Tryz.ntmps92
    go_wp2
    go_ret
    exact ⟨by show _ = Ending.returned (.bool (decide False)); simp, Gr.refl _⟩
  | some ab =>
    obtain ⟨a, b⟩ := ab
    injection hwv with e; injection e with e; injection e with e1 e2; injection e2 with e2 _; injection e1 with _ e1; injection e2 with _ e2
    subst e1 e2
    have hw' : a + b ≤ 63 := hw
    have hlt := lz_tz h0 hx
    have HW := Lib.hid (windowOf_any w x hG h0 hx)
    have HT := Lib.hid fun (W : World) (a n : Nat) (h : a + n ≤ 64) => trail_any W a n h
    clear hG h0 hx hw
    have hn : (((64 - a - b : Nat) : Int) == 0) = false := by rw [beq_eq_false_iff_ne]; omega
    go_enter Tryz.func92, Tryz.ntmps92
    go_wp2_with (go_at_call 91; refine HW.out.mono ?_; rintro e w1 ⟨rfl, hgr⟩)
    have hgn : Nw w w1 := hgr.nw
    generalize hwq : World.alloc w1 _ = wq
    have hs1 := hgn.size
    have hlw : w1.heap.size < wq.heap.size := by rw [← hwq]; simp
    have hd1 : ∀ p : Gp, (grow (wq.drewN p.n) p.os).cell? ⟨w1.heap.size, 0, none⟩ = some (.int .i64 (lz x : Int)) := cell_gr hlw (by rw [← hwq]; simp)
    have hd2 : ∀ p : Gp, (grow (wq.drewN p.n) p.os).cell? ⟨w1.heap.size, 1, none⟩ = some (.int .i64 ((64 - lz x - tz x : Nat) : Int)) := cell_gr hlw (by rw [← hwq]; simp)
    have hnq : Nw w wq := by rw [← hwq]; exact hgn.alloc' _
    have hgq : Gr w wq := by rw [← hwq]; exact hgr.trans (Gr.alloc _ _)
    have hd3 : ∀ p : Gp, (grow (wq.drewN p.n) p.os).cell? ⟨g, 1, none⟩ = some (.int .i64 (a : Int)) := cell_gr (Nat.lt_of_lt_of_le hg hnq.size) (cell_old hnq hg hc1)
    have hd4 : ∀ p : Gp, (grow (wq.drewN p.n) p.os).cell? ⟨g, 2, none⟩ = some (.int .i64 ((64 - a - b : Nat) : Int)) := cell_gr (Nat.lt_of_lt_of_le hg hnq.size) (cell_old hnq hg hc2)
    have HQ := Lib.hid hgq
    clear hgq hnq hwq hgn hgr hs1 hc1 hc2 HW
    by_cases hle : a ≤ lz x
    · have hd : decide ((a : Int) ≤ (lz x : Int)) = true := by simp [hle]
      refine wp_region_gr (by kernel_rfl) (by kernel_rfl) ?_
      repeat (quiet_step (first | (go_at_call 90; refine Calls.gr (HT.out _ _ _ (by omega)))))
      refine wpQuiet_nil ?_
      rintro _ ⟨p, rfl⟩
      go_wp2
      go_ret
      refine ⟨?_, HQ.out.trans ⟨p, rfl⟩⟩
      refine congrArg Ending.returned (congrArg Value.bool ?_)
      show decide _ = decide (a ≤ lz x ∧ b ≤ tz x)
      rw [decide_eq_decide]
      omega
    · have hd : decide ((a : Int) ≤ (lz x : Int)) = false := by simp; omega
      refine wp_region_gr (by kernel_rfl) (by kernel_rfl) ?_
      repeat (with_reducible refine wpQuiet_step ?_; intro K hK; go_simp; refine hK _ ?_; clear hK K)
      refine wpQuiet_nil ?_
      rintro _ ⟨p, rfl⟩
      go_wp2
      go_ret
      refine ⟨?_, HQ.out.trans ⟨p, rfl⟩⟩
      rw [show decide (fits (some (a, b)) x) = false from decide_eq_false (fun h => hle h.1)]
      rfl
end Go.Proofs.YtjepaneniodbpaaGreatDoor
