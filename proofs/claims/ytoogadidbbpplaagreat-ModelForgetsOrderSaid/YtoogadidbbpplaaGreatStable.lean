/- slices.SortStableFunc at samples and at series, below 20 elements. -/
import Derived.Test.YtoogadidbbpplaaGreatNormLs
namespace Go.Proofs.YtoogadidbbpplaaGreat
open Go Go.RowKit Go.Sort Go.Shelf

theorem lt_time {x y : Smpl} : ltOf (fun x y : Smpl => cmpI x.1 y.1) x y = true ↔ x.1 < y.1 := by
  unfold ltOf cmpI
  rw [decide_eq_true_iff]
  show (if x.1 < y.1 then (-1 : Int) else if y.1 < x.1 then 1 else 0) < 0 ↔ _
  split
  · simp; omega
  · split
    · simp; omega
    · simp; omega
theorem swo_time : SWO (ltOf fun x y : Smpl => cmpI x.1 y.1) where
  irrefl x := by rw [Bool.eq_false_iff]; intro h; rw [lt_time] at h; omega
  trans x y z h1 h2 := by rw [lt_time] at *; omega
  ntrans x y z h1 h2 := by
    rw [Bool.eq_false_iff] at *
    intro h
    rw [ne_eq, lt_time] at *
    omega
theorem tyS (w : World) : (isAgg 41).run Tryz.prog w = .ok true w := by kernel_rfl
theorem szS (w : World) : (Go.sizeOf 41).run Tryz.prog w = .ok 2 w := by kernel_rfl
theorem tyR (w : World) : (isAgg 37).run Tryz.prog w = .ok true w := by kernel_rfl
theorem szR (w : World) : (Go.sizeOf 37).run Tryz.prog w = .ok 2 w := by kernel_rfl
abbrev encS : Smpl → List Value := fun z => [.int .i64 z.1, .int .u64 (z.2 : Int)]
theorem egS (args : Array Value) (w : World) : (callFunc 23 args).run Tryz.prog w = .ok (.enter 23 args) w := enters_of Tryz.func23 (by kernel_rfl) rfl args w
theorem egR (args : Array Value) (w : World) : (callFunc 26 args).run Tryz.prog w = .ok (.enter 26 args) w := enters_of Tryz.func26 (by kernel_rfl) rfl args w
theorem cmpLaysS (blk size : Nat) (w : World) : CmpLays Tryz.prog 23 #[] encS 2 (fun x y => cmpI x.1 y.1) blk 0 size w := by
  intro m os dk hd x y
  refine (byTime_any _ x.1 y.1 x.2 y.2).mono ?_
  rintro e w' ⟨he, p, hp⟩
  exact ⟨he, p.n, p.os, hp⟩

/-- the insertion sort of samples -/
theorem InsS_any (w : World) (g n c : Nat) (l : List Smpl) (hn : n = l.length) (hm : n ≤ 1000000) (hO : Ow w g 41 2 (some ⟨g, 0, none⟩) n c (cS l)) :
    Calls Tryz.prog 66 #[.slice (some ⟨g, 0, none⟩) n c, .int .i64 0, .int .i64 (n : Int), .func (.func 23) #[] #[]] w fun e w' => e = .returned (.tuple #[]) ∧ ∃ l', l'.Perm l ∧ l'.Pairwise (fun x y => ¬ y.1 < x.1) ∧ Ow w' g 41 2 (some ⟨g, 0, none⟩) n c (cS l') ∧ Kp g g w w' := by
  subst hn
  have hO' : Ow w g 41 2 (some ⟨g, 0, none⟩) l.toArray.size c (c2 (fun z : Smpl => .int .i64 z.1) (fun z => .int .u64 (z.2 : Int)) l.toArray.toList) := by simpa [cS] using hO
  obtain ⟨cs, hh, _⟩ := hO.heap
  have hcon := AnyQ.insertionSortCmpFunc Tryz.insSmp 2 tyS szS encS (fun _ => rfl) (fun x v hv => by simp [encS] at hv; rcases hv with rfl | rfl <;> rfl) (fun x y => cmpI x.1 y.1) 23 #[] g 0 c 0 l.toArray.size l.toArray w egS (cmpLaysS g _ w) (holds_ow hO') (lt_of_block hh) (Nat.zero_le _) (Nat.le_refl _) (by simp; omega)
  change Calls Tryz.prog 66 _ _ _ at hcon
  rw [List.size_toArray] at hcon
  refine hcon.mono ?_
  rintro e w' ⟨rfl, m, os, rfl⟩
  obtain ⟨hp, hs⟩ := insertionSort_holds (lt := ltOf fun x y : Smpl => cmpI x.1 y.1) swo_time l.toArray 0 l.length (Nat.zero_le _) (by simp)
  generalize Sort.insertionSort (ltOf fun x y : Smpl => cmpI x.1 y.1) l.toArray 0 l.length = d' at *
  have hd : d'.size = l.length := by have := hp.1; simpa using this
  have hw := sort_ow (α := Smpl) (f := fun z => .int .i64 z.1) (h := fun z => .int .u64 (z.2 : Int)) (m := m) hO hd os
  refine ⟨rfl, d'.toList, ?_, ?_, hw.1, hw.2⟩
  · have := perm_of (d := l.toArray) (d' := d') (by simpa using hp)
    simpa using this
  · refine (sorted_of hs hd.symm).imp ?_
    intro x y h h2
    rw [lt_time.2 h2] at h
    cases h

set_option maxRecDepth 100000 in
theorem stableS_any (w : World) (g n c : Nat) (l : List Smpl) (hn : n = l.length) (hm : n < 20) (hO : Ow w g 41 2 (some ⟨g, 0, none⟩) n c (cS l)) :
    Calls Tryz.prog 49 #[.slice (some ⟨g, 0, none⟩) n c, .int .i64 (n : Int), .func (.func 23) #[] #[]] w fun e w' => e = .returned (.tuple #[]) ∧ ∃ l', l'.Perm l ∧ l'.Pairwise (fun x y => ¬ y.1 < x.1) ∧ Ow w' g 41 2 (some ⟨g, 0, none⟩) n c (cS l') ∧ Kp g g w w' := by
  have HI := Lib.hid (InsS_any w g n c l hn (by omega) hO)
  have h1 : ¬ (20 : Int) ≤ (n : Int) := by omega
  have h2 : ¬ (20 : Int) < (n : Int) := by omega
  clear hO hn
  go_enter Tryz.func49, Tryz.ntmps49
  go_wp2
  refine wp_loop_rounds 1 ?_
  rw [rounds_succ]
  go_wp2_with (go_at_call 66; refine HI.out.mono ?_; rintro e w1 ⟨rfl, hR⟩)
  have HR := Lib.hid hR
  clear hR
  refine wp_loop_rounds 1 ?_
  rw [rounds_succ]
  go_wp2
  go_end0
  exact ⟨rfl, HR.out⟩
theorem StableS_any (w : World) (g n c : Nat) (l : List Smpl) (hn : n = l.length) (hm : n < 20) (hO : Ow w g 41 2 (some ⟨g, 0, none⟩) n c (cS l)) :
    Calls Tryz.prog 22 #[.slice (some ⟨g, 0, none⟩) n c, .func (.func 23) #[] #[]] w fun e w' => e = .returned (.tuple #[]) ∧ ∃ l', l'.Perm l ∧ l'.Pairwise (fun x y => ¬ y.1 < x.1) ∧ Ow w' g 41 2 (some ⟨g, 0, none⟩) n c (cS l') ∧ Kp g g w w' := by
  have HI := Lib.hid (stableS_any w g n c l hn hm hO)
  clear hO hn
  go_enter Tryz.func22, Tryz.ntmps22
  go_wp2_with (go_at_call 49; refine HI.out.mono ?_; rintro e w1 ⟨rfl, hR⟩)
  go_end0
  exact ⟨rfl, hR⟩
end Go.Proofs.YtoogadidbbpplaaGreat
