/- chunk: the three encodings, their sizes and the choice. -/
import Derived.Test.YtjepaneniodbpaaGreatDoorChunkLaw
import Derived.Test.YtjepaneniodbpaaGreatDoorEncode
import Derived.Test.YtjepaneniodbpaaGreatDoorRunPut
import Derived.Test.YtjepaneniodbpaaGreatDoorXGet
import Derived.Test.YtjepaneniodbpaaGreatDoorRunGet
import Derived.Laws.ResultCell
import Derived.Laws.EntriesVeiled
namespace Go.Proofs.YtjepaneniodbpaaGreatDoor
open Go Go.RowKit

def encFs : Array Value := #[.func (.func 38) #[] #[], .func (.func 39) #[] #[], .func (.func 40) #[] #[],
  .func (.func 41) #[] #[], .func (.func 42) #[] #[], .func (.func 43) #[] #[],
  .func (.func 44) #[] #[], .func (.func 45) #[] #[], .func (.func 46) #[] #[]]
theorem encodings_any (w : World) : Calls Tryz.prog 20 #[] w fun e w' => e = .returned (.agg encFs) ∧ Nw w w' := by
  go_enter Tryz.func20, Tryz.ntmps20
  go_wp2
  refine bodyPost_ret (results_cell_row rfl _ _ w.heap.size 57 _ _ _ rfl (heap_alloc_new _ _) Tryz.underlying57 rfl (by kernel_rfl)) rfl ?_
  exact ⟨rfl, (Nw.refl w).alloc' _⟩

/-- a store into a new block that holds three numbers -/
theorem three_set {w W : World} {g0 g k : Nat} {x0 x1 x2 x : Value} {t : TypeId} {hd : Array Value} (hN : Nw w W) (h1 : w.heap.size ≤ g) (h2 : g0 ≠ g)
    (hO : W.heap[g]? = some (.cells #[x0, x1, x2] t (0, 0))) (hZ : W.heap[g0]? = some (.cells hd t (0, 0))) :
    Nw w (W.setCell ⟨g, k, none⟩ x) ∧ (W.setCell ⟨g, k, none⟩ x).heap[g]? = some (.cells (#[x0, x1, x2].setIfInBounds k x) t (0, 0)) ∧ (W.setCell ⟨g, k, none⟩ x).heap[g0]? = some (.cells hd t (0, 0)) :=
  ⟨Kp.nw hN ((Kp.refl g g W).setCell' (.inl rfl) x) h1 h1, by simp [World.setCell, Array.getElem?_modify, hO], by simp [World.setCell, Array.getElem?_modify, hZ, Ne.symm h2]⟩
theorem three_at {W : World} {g : Nat} {x0 x1 x2 : Value} {t : TypeId} (hO : W.heap[g]? = some (.cells #[x0, x1, x2] t (0, 0))) :
    (W.cell? ⟨g, 0, none⟩ = some x0 ∧ W.cell? ⟨g, 1, none⟩ = some x1 ∧ W.cell? ⟨g, 2, none⟩ = some x2) ∧ W.frozen? ⟨g, 0, none⟩ = false ∧ W.frozen? ⟨g, 1, none⟩ = false ∧ W.frozen? ⟨g, 2, none⟩ = false :=
  ⟨⟨by simp [World.cell?, hO], by simp [World.cell?, hO], by simp [World.cell?, hO]⟩, by simp [World.frozen?, hO], by simp [World.frozen?, hO], by simp [World.frozen?, hO]⟩
theorem block_on {W W' : World} {g : Nat} {o o' : Obj} (hN : Nw (W.alloc o) W') (h : W.heap[g]? = some o') : W'.heap[g]? = some o' := by
  have hl := lt_of_block h
  rw [hN.block g (by simp; omega)]
  exact (heap_alloc_old W o hl).trans h

theorem Sizes_any (w : World) (b : Nat) (A : Option Addr) (n c : Nat) (l : List Nat) (hn : n = l.length) (hm : n ≤ 10000) (hr : Rd w b A (cN .u64 l)) (hb : b < w.heap.size) (hx : ∀ x ∈ l, x < 18446744073709551616) (hG : Gl w) :
    Calls Tryz.prog 14 #[.slice A n c] w fun e w' => e = .returned (.agg #[.int .i64 ((xput l).length : Int), .int .i64 ((rput l).length : Int), .int .i64 (szOf l)]) ∧ Nw w w' := by
  have H1 := Lib.hid fun (w' : World) (hN : Nw w w') => xSize_any w' b A n c l hn hm (hr.nw hN) (Nat.lt_of_lt_of_le hb hN.size) hx (hG.nw hN)
  have H2 := Lib.hid fun (w' : World) (hN : Nw w w') => rSize_any w' b A n c l hn hm (hr.nw hN) (Nat.lt_of_lt_of_le hb hN.size) hx
  have H3 := Lib.hid fun (w' : World) (hN : Nw w w') => Size_any w' b A n c l hn (by omega) (hr.nw hN) hx
  have i0 : ∀ W, (Instr.index 57 (.agg encFs) (.int .i64 0)).run Tryz.prog W = .ok (.agg #[.func (.func 38) #[] #[], .func (.func 39) #[] #[], .func (.func 40) #[] #[]]) W := fun _ => by kernel_rfl
  have i1 : ∀ W, (Instr.index 57 (.agg encFs) (.int .i64 1)).run Tryz.prog W = .ok (.agg #[.func (.func 41) #[] #[], .func (.func 42) #[] #[], .func (.func 43) #[] #[]]) W := fun _ => by kernel_rfl
  have i2 : ∀ W, (Instr.index 57 (.agg encFs) (.int .i64 2)).run Tryz.prog W = .ok (.agg #[.func (.func 44) #[] #[], .func (.func 45) #[] #[], .func (.func 46) #[] #[]]) W := fun _ => by kernel_rfl
  generalize ((xput l).length : Int) = s1 at *
  generalize ((rput l).length : Int) = s2 at *
  generalize szOf l = s3 at *
  clear hn hm hr hb hx hG
  go_enter Tryz.func14, Tryz.ntmps14
  go_wp2_with (go_at_call 20; refine (encodings_any _).mono ?_; rintro e w1 ⟨rfl, hN1⟩)
  have hN : Nw w w1 := (((Nw.refl w).alloc' _).alloc' _).trans hN1
  have hO : w1.heap[w.heap.size + 1]? = some (.cells #[.int .i64 0, .int .i64 0, .int .i64 0] 42 (0, 0)) := (hN1.block _ (by simp)).trans (by simpa using heap_alloc_new (w.alloc _) _)
  have hZ : w1.heap[w.heap.size]? = some (.cells #[.int .i64 0, .int .i64 0, .int .i64 0] 42 (0, 0)) := block_on (W := w.alloc _) hN1 (heap_alloc_new w _)
  clear hN1
  refine wp_loop_rounds 4 ?_
  rw [rounds_succ]
  go_wp2_with fail
  refine (H1.out _ (hN.alloc' _)).mono ?_
  rintro e w2 ⟨rfl, hN2⟩
  have hO2 := block_on hN2 hO
  have hZ2 := block_on hN2 hZ
  have hn2 := (hN.alloc' _).trans hN2
  have c0 := (three_at hO2).1.1; have f0 := (three_at hO2).2.1
  obtain ⟨hN3, hO3, hZ3⟩ := three_set (k := 0) (x := .int .i64 s1) hn2 (by omega) (by omega) hO2 hZ2
  clear hO hZ hN2 hO2 hZ2 hN hn2
  go_wp2_with fail
  clear c0 f0
  generalize w2.setCell ⟨w.heap.size + 1, 0, none⟩ (.int .i64 s1) = w3 at *
  rw [rounds_succ]
  go_wp2_with fail
  refine (H2.out _ (hN3.alloc' _)).mono ?_
  rintro e w4 ⟨rfl, hN4⟩
  have hO4 := block_on hN4 hO3
  have hZ4 := block_on hN4 hZ3
  have hn4 := (hN3.alloc' _).trans hN4
  have c1 := (three_at hO4).1.2.1; have f1 := (three_at hO4).2.2.1
  obtain ⟨hN5, hO5, hZ5⟩ := three_set (k := 1) (x := .int .i64 s2) hn4 (by omega) (by omega) hO4 hZ4
  clear hO3 hZ3 hN4 hO4 hZ4 hN3 hn4
  go_wp2_with fail
  clear c1 f1
  generalize w4.setCell ⟨w.heap.size + 1, 1, none⟩ (.int .i64 s2) = w5 at *
  rw [rounds_succ]
  go_wp2_with fail
  refine (H3.out _ (hN5.alloc' _)).mono ?_
  rintro e w6 ⟨rfl, hN6⟩
  have hO6 := block_on hN6 hO5
  have hZ6 := block_on hN6 hZ5
  have hn6 := (hN5.alloc' _).trans hN6
  have c2 := (three_at hO6).1.2.2; have f2 := (three_at hO6).2.2.2
  obtain ⟨hN7, hO7, hZ7⟩ := three_set (k := 2) (x := .int .i64 s3) hn6 (by omega) (by omega) hO6 hZ6
  clear hO5 hZ5 hN6 hO6 hZ6 hN5 hn6
  go_wp2_with fail
  clear c2 f2
  generalize w6.setCell ⟨w.heap.size + 1, 2, none⟩ (.int .i64 s3) = w7 at *
  obtain ⟨a0, a1, a2⟩ := (three_at hO7).1
  obtain ⟨⟨b0, b1, b2⟩, e0, e1, e2⟩ := three_at hZ7
  rw [rounds_succ]
  go_wp2_with fail
  have hfin : (((w7.setCell ⟨w.heap.size, 0, none⟩ (.int .i64 s1)).setCell ⟨w.heap.size, 1, none⟩ (.int .i64 s2)).setCell ⟨w.heap.size, 2, none⟩ (.int .i64 s3)).heap[w.heap.size]? = some (.cells #[.int .i64 s1, .int .i64 s2, .int .i64 s3] 42 (0, 0)) := by
    simp [World.setCell, Array.getElem?_modify, hZ7]
  refine bodyPost_ret (results_cell_row rfl _ _ w.heap.size 42 _ _ _ rfl hfin Tryz.underlying42 rfl (by kernel_rfl)) rfl ?_
  exact ⟨rfl, ((hN7.setCell' (Nat.le_refl _) _).setCell' (Nat.le_refl _) _).setCell' (Nat.le_refl _) _⟩

/-- Choose, by what the sizes are -/
theorem choose_walk (w : World) (A : Option Addr) (n c : Nat) (s1 s2 s3 : Int) (t : Nat) (hS : Calls Tryz.prog 14 #[.slice A n c] w fun e w' => e = .returned (.agg #[.int .i64 s1, .int .i64 s2, .int .i64 s3]) ∧ Nw w w')
    (h1 : 0 ≤ s1) (h2 : 0 ≤ s2) (ht : pick3 s1 s2 s3 = t) :
    Calls Tryz.prog 15 #[.slice A n c] w fun e w' => e = .returned (.int .i64 (t : Int)) ∧ Nw w w' := by
  have HS := Lib.hid hS
  have HT := Lib.hid ht
  have i0 : ∀ W, (Instr.index 42 (.agg #[.int .i64 s1, .int .i64 s2, .int .i64 s3]) (.int .i64 0)).run Tryz.prog W = .ok (.int .i64 s1) W := fun _ => by kernel_rfl
  have i1 : ∀ W, (Instr.index 42 (.agg #[.int .i64 s1, .int .i64 s2, .int .i64 s3]) (.int .i64 1)).run Tryz.prog W = .ok (.int .i64 s2) W := fun _ => by kernel_rfl
  have i2 : ∀ W, (Instr.index 42 (.agg #[.int .i64 s1, .int .i64 s2, .int .i64 s3]) (.int .i64 2)).run Tryz.prog W = .ok (.int .i64 s3) W := fun _ => by kernel_rfl
  clear hS ht
  by_cases c3 : 0 ≤ s3 <;> by_cases c21 : s2 < s1 <;> by_cases c31 : s3 < s1 <;> by_cases c32 : s3 < s2
  all_goals
    first
    | (exfalso; omega)
    | (have hp : t = pick3 s1 s2 s3 := HT.out.symm
       unfold pick3 at hp
       simp only [c3, c21, c31, c32, h2, and_self, and_true, and_false, if_true, if_false] at hp
       subst hp
       clear HT
       go_enter Tryz.func15, Tryz.ntmps15
       go_wp2_with (go_at_call 14; refine HS.out.mono ?_; rintro e w1 ⟨rfl, hN1⟩)
       refine wp_loop_rounds 4 ?_
       rw [rounds_succ]
       go_wp2_with fail
       rw [rounds_succ]
       go_wp2_with fail
       rw [rounds_succ]
       go_wp2_with fail
       rw [rounds_succ]
       go_wp2_with fail
       go_ret
       exact ⟨rfl, hN1.alloc' _⟩)

theorem Choose_any (w : World) (b : Nat) (A : Option Addr) (n c : Nat) (l : List Nat) (hn : n = l.length) (hm : n ≤ 10000) (hr : Rd w b A (cN .u64 l)) (hb : b < w.heap.size) (hx : ∀ x ∈ l, x < 18446744073709551616) (hG : Gl w) :
    Calls Tryz.prog 15 #[.slice A n c] w fun e w' => e = .returned (.int .i64 (tagOf l : Int)) ∧ Nw w w' :=
  choose_walk w A n c _ _ _ _ (Sizes_any w b A n c l hn hm hr hb hx hG) (by omega) (by omega) rfl
end Go.Proofs.YtjepaneniodbpaaGreatDoor
