/- Sorting in place: the choice of the pivot. -/
import Derived.Test.YtbdpimnbjonhlaaSortM
namespace Go.Proofs.Ytbdpimnbjonhlaa
open Go Go.RowKit Go.Sort

/-- block g is one int that holds n -/
def Ctr (w : World) (g n : Nat) : Prop := w.heap[g]? = some (.cells #[.int .i64 (n : Int)] 3 (0, 0))
section
variable {w w' : World} {g n : Nat}
theorem Ctr.lt (h : Ctr w g n) : g < w.heap.size := lt_of_block h
theorem Ctr.cell (h : Ctr w g n) : w.cell? ⟨g, 0, none⟩ = some (.int .i64 (n : Int)) := cell_of_one h
theorem Ctr.free (h : Ctr w g n) : w.frozen? ⟨g, 0, none⟩ = false := free_of_one h
theorem Ctr.nw (h : Ctr w g n) (hk : Nw w w') : Ctr w' g n := (hk.block g h.lt).trans h
theorem Ctr.kp {g1 g2 : Nat} (h : Ctr w g n) (hk : Kp g1 g2 w w') (e1 : g ≠ g1) (e2 : g ≠ g2) : Ctr w' g n := (hk.block g h.lt e1 e2).trans h
theorem Ctr.set_ (h : Ctr w g n) (m : Nat) : Ctr (w.setCell ⟨g, 0, none⟩ (.int .i64 (m : Int))) g m := one_setCell h
end

theorem order2_any (w : World) (b c i j g n : Nat) (d : Array Nat) (hH : Dv w b c d) (hi : i < d.size) (hj : j < d.size) (hg : Ctr w g n) (hn : n ≤ 1000) :
    Calls Try.prog 67 #[.slice (some ⟨b, 0, none⟩) d.size c, .int .i64 (i : Int), .int .i64 (j : Int), .pointer (some ⟨g, 0, none⟩)] w fun e w' =>
      ∃ p q m : Nat, e = .returned (.tuple #[.int .i64 (p : Int), .int .i64 (q : Int)]) ∧ (p = i ∧ q = j ∨ p = j ∧ q = i) ∧ Ctr w' g m ∧ n ≤ m ∧ m ≤ n + 1 ∧ Kp g g w w' := by
  have h1 := hH.cell hi
  have h2 := hH.cell hj
  have c1 := hg.cell
  have f1 := hg.free
  have HG := Lib.hid hg
  obtain ⟨p, hp⟩ : ∃ p, p = d[i]! := ⟨_, rfl⟩
  obtain ⟨q, hq⟩ : ∃ q, q = d[j]! := ⟨_, rfl⟩
  rw [← hp] at h1
  rw [← hq] at h2
  have i1 : (i : Int) < (d.size : Int) := by omega
  have i2 : (j : Int) < (d.size : Int) := by omega
  clear hp hq hg hH
  by_cases hc : q < p
  · go_enter Try.func67, Try.ntmps67
    go_wp2
    go_quiet ((go_at_call 48; exact quiet1 (Less_any _ _ _)))
    go_wp2
    go_ret2
    exact ⟨j, i, n + 1, rfl, .inr ⟨rfl, rfl⟩, (HG.out.nw (Nw.drewN w nq)).set_ (n + 1), by omega, by omega, ((Kp.refl g g w).drewN' nq).setCell' (.inl rfl) _⟩
  · go_enter Try.func67, Try.ntmps67
    go_wp2
    go_quiet ((go_at_call 48; exact quiet1 (Less_any _ _ _)))
    go_wp2
    go_ret2
    exact ⟨i, j, n, rfl, .inl ⟨rfl, rfl⟩, HG.out.nw (Nw.drewN w nq), by omega, by omega, (Kp.refl g g w).drewN' nq⟩

theorem median_any (w : World) (b c i j k g n : Nat) (d : Array Nat) (hH : Dv w b c d) (hi : i < d.size) (hj : j < d.size) (hk : k < d.size) (hg : Ctr w g n) (hn : n ≤ 900) (hbg : b ≠ g) :
    Calls Try.prog 66 #[.slice (some ⟨b, 0, none⟩) d.size c, .int .i64 (i : Int), .int .i64 (j : Int), .int .i64 (k : Int), .pointer (some ⟨g, 0, none⟩)] w fun e w' =>
      ∃ p m : Nat, e = .returned (.int .i64 (p : Int)) ∧ (p = i ∨ p = j ∨ p = k) ∧ Ctr w' g m ∧ n ≤ m ∧ m ≤ n + 3 ∧ Kp g g w w' := by
  have HH := Lib.hid hH
  have HG := Lib.hid hg
  clear hH hg
  go_enter Try.func66, Try.ntmps66
  go_wp2_with fail
  refine (order2_any _ b c i j g n d HH.out hi hj HG.out (by omega)).mono ?_
  rintro e w1 ⟨p1, q1, m1, rfl, o1, g1, a1, a2, k1⟩
  have O1 := Lib.hid o1
  have G1 := Lib.hid g1
  have K1 := Lib.hid k1
  have hq1 : q1 < d.size := by rcases o1 with ⟨_, h⟩ | ⟨_, h⟩ <;> omega
  have hp1 : p1 < d.size := by rcases o1 with ⟨h, _⟩ | ⟨h, _⟩ <;> omega
  clear o1 g1 k1
  go_wp2_with fail
  refine (order2_any _ b c q1 k g m1 d (HH.out.kp K1.out hbg hbg) hq1 hk G1.out (by omega)).mono ?_
  rintro e w2 ⟨p2, q2, m2, rfl, o2, g2, a3, a4, k2⟩
  have O2 := Lib.hid o2
  have G2 := Lib.hid g2
  have K2 := Lib.hid (K1.out.trans k2 (.inl rfl) (.inl rfl))
  have hp2 : p2 < d.size := by rcases o2 with ⟨h, _⟩ | ⟨h, _⟩ <;> omega
  clear o2 g2 k2
  go_wp2_with fail
  refine (order2_any _ b c p1 p2 g m2 d (HH.out.kp K2.out hbg hbg) hp1 hp2 G2.out (by omega)).mono ?_
  rintro e w3 ⟨p3, q3, m3, rfl, o3, g3, a5, a6, k3⟩
  have O3 := Lib.hid o3
  have G3 := Lib.hid g3
  have K3 := Lib.hid (K2.out.trans k3 (.inl rfl) (.inl rfl))
  clear o3 g3 k3
  go_wp2
  go_ret
  refine ⟨q3, m3, rfl, ?_, G3.out, by omega, by omega, K3.out⟩
  have o1 := O1.out
  have o2 := O2.out
  have o3 := O3.out
  omega

theorem medianAdj_any (w : World) (b c i g n : Nat) (d : Array Nat) (hH : Dv w b c d) (hi0 : 0 < i) (hi : i + 1 < d.size) (hsz : d.size < 4611686018427387904) (hg : Ctr w g n) (hn : n ≤ 900) (hbg : b ≠ g) :
    Calls Try.prog 65 #[.slice (some ⟨b, 0, none⟩) d.size c, .int .i64 (i : Int), .pointer (some ⟨g, 0, none⟩)] w fun e w' =>
      ∃ p m : Nat, e = .returned (.int .i64 (p : Int)) ∧ (p = i - 1 ∨ p = i ∨ p = i + 1) ∧ Ctr w' g m ∧ n ≤ m ∧ m ≤ n + 3 ∧ Kp g g w w' := by
  have hM := median_any w b c (i - 1) i (i + 1) g n d hH (by omega) (by omega) (by omega) hg hn hbg
  have e1 : ((i - 1 : Nat) : Int) = (i : Int) - 1 := by omega
  have e2 : ((i + 1 : Nat) : Int) = (i : Int) + 1 := by omega
  rw [e1, e2] at hM
  have HM := Lib.hid hM
  clear hM hH hg e1 e2
  go_enter Try.func65, Try.ntmps65
  go_wp2_with fail
  refine HM.out.mono ?_
  rintro e w1 ⟨p1, m1, rfl, o1, g1, a1, a2, k1⟩
  have O1 := Lib.hid o1
  have G1 := Lib.hid g1
  clear o1 g1
  go_wp2
  go_ret
  exact ⟨p1, m1, rfl, O1.out, G1.out, a1, a2, k1⟩

set_option maxHeartbeats 800000 in
theorem choosePivot_any (w : World) (b c x y : Nat) (d : Array Nat) (hH : Dv w b c d) (hxy : x + 12 < y) (hy : y ≤ d.size) (hsz : d.size < 4611686018427387904) :
    Calls Try.prog 57 #[.slice (some ⟨b, 0, none⟩) d.size c, .int .i64 (x : Int), .int .i64 (y : Int)] w fun e w' =>
      ∃ p h : Nat, e = .returned (.tuple #[.int .i64 (p : Int), .int .i64 (h : Int)]) ∧ x ≤ p ∧ p < y ∧ h ≤ 2 ∧ Nw w w' := by
  obtain ⟨l, hl⟩ : ∃ l, l = y - x := ⟨_, rfl⟩
  obtain ⟨t, ht⟩ : ∃ t, t = l / 4 := ⟨_, rfl⟩
  have e0 : (y : Int) - (x : Int) = (l : Int) := by omega
  have e1 : (l : Int) / 4 = (t : Int) := by omega
  have h1 : 4 * t ≤ l := by omega
  have h2 : 3 ≤ t := by omega
  have h3 : x + l ≤ y := by omega
  have h4 : y ≤ x + l := by omega
  have HH := Lib.hid hH
  have hbl := hH.lt
  obtain ⟨t2, ht2⟩ : ∃ t2, t2 = t * 2 := ⟨_, rfl⟩
  obtain ⟨t3, ht3⟩ : ∃ t3, t3 = t * 3 := ⟨_, rfl⟩
  obtain ⟨i, hi⟩ : ∃ i, i = x + t := ⟨_, rfl⟩
  obtain ⟨j, hj⟩ : ∃ j, j = x + t2 := ⟨_, rfl⟩
  obtain ⟨k, hk⟩ : ∃ k, k = x + t3 := ⟨_, rfl⟩
  have e2 : (t : Int) * 2 = (t2 : Int) := by omega
  have e3 : (t : Int) * 3 = (t3 : Int) := by omega
  have ei : (x : Int) + (t : Int) = (i : Int) := by omega
  have ej : (x : Int) + (t2 : Int) = (j : Int) := by omega
  have ek : (x : Int) + (t3 : Int) = (k : Int) := by omega
  have b1 : x + 3 ≤ i := by omega
  have b2 : i + 3 ≤ j := by omega
  have b3 : j + 3 ≤ k := by omega
  have b4 : k + 3 ≤ y := by omega
  have hC : Ctr (w.alloc (.cells #[.int .i64 0] 3)) w.heap.size 0 := heap_alloc_new w _
  have HC := Lib.hid hC
  have hD0 : Dv (w.alloc (.cells #[.int .i64 0] 3)) b c d := HH.out.nw (Nw.alloc' (Nw.refl w) _)
  have HD0 := Lib.hid hD0
  have HN0 := Lib.hid (Nw.alloc' (Nw.refl w) (.cells #[.int .i64 0] 3))
  have hbne : b ≠ w.heap.size := by omega
  have fin : ∀ (p m : Nat) (w' : World), x ≤ p → p < y → Ctr w' w.heap.size m → Kp w.heap.size w.heap.size (w.alloc (.cells #[.int .i64 0] 3)) w' →
      Nw w w' := fun p m w' _ _ _ hk => Kp.nw HN0.out hk (Nat.le_refl _) (Nat.le_refl _)
  have FIN := Lib.hid fin
  clear hl ht hH ht2 ht3 hi hj hk hC hD0 fin
  by_cases hn : 50 ≤ l
  · go_enter Try.func57, Try.ntmps57
    go_wp2_with fail
    refine (medianAdj_any _ b c i w.heap.size 0 d HD0.out (by omega) (by omega) (by omega) HC.out (by omega) hbne).mono ?_
    rintro e w1 ⟨p1, m1, rfl, o1, g1, a1, a2, k1⟩
    have hp1 : x ≤ p1 ∧ p1 < y := by omega
    have O1 := Lib.hid hp1
    have G1 := Lib.hid g1
    have K1 := Lib.hid k1
    clear o1 hp1 g1 k1
    go_wp2_with fail
    refine (medianAdj_any _ b c j w.heap.size m1 d (HD0.out.kp K1.out hbne hbne) (by omega) (by omega) (by omega) G1.out (by omega) hbne).mono ?_
    rintro e w2 ⟨p2, m2, rfl, o2, g2, a3, a4, k2⟩
    have hp2 : x ≤ p2 ∧ p2 < y := by omega
    have O2 := Lib.hid hp2
    have G2 := Lib.hid g2
    have K2 := Lib.hid (K1.out.trans k2 (.inl rfl) (.inl rfl))
    clear o2 hp2 g2 k2
    go_wp2_with fail
    refine (medianAdj_any _ b c k w.heap.size m2 d (HD0.out.kp K2.out hbne hbne) (by omega) (by omega) (by omega) G2.out (by omega) hbne).mono ?_
    rintro e w3 ⟨p3, m3, rfl, o3, g3, a5, a6, k3⟩
    have hp3 : x ≤ p3 ∧ p3 < y := by omega
    have O3 := Lib.hid hp3
    have G3 := Lib.hid g3
    have K3 := Lib.hid (K2.out.trans k3 (.inl rfl) (.inl rfl))
    clear o3 hp3 g3 k3
    go_wp2_with fail
    refine (median_any _ b c p1 p2 p3 w.heap.size m3 d (HD0.out.kp K3.out hbne hbne) (by have := O1.out; omega) (by have := O2.out; omega) (by have := O3.out; omega) G3.out (by omega) hbne).mono ?_
    rintro e w4 ⟨p4, m4, rfl, o4, g4, a7, a8, k4⟩
    have hp4 : x ≤ p4 ∧ p4 < y := by have := O1.out; have := O2.out; have := O3.out; omega
    have c4 := g4.cell
    have NW := Lib.hid (FIN.out p4 m4 w4 hp4.1 hp4.2 g4 (K3.out.trans k4 (.inl rfl) (.inl rfl)))
    have O4 := Lib.hid hp4
    clear o4 hp4 g4 k4
    by_cases z0 : m4 = 0
    · have z1 : ((m4 : Int) == 0) = true := by rw [beq_iff_eq]; omega
      clear z0
      go_wp2
      go_ret2
      exact ⟨p4, 1, rfl, O4.out.1, O4.out.2, by omega, NW.out⟩
    · have z1 : ((m4 : Int) == 0) = false := by rw [beq_eq_false_iff_ne]; omega
      by_cases z2 : m4 = 12
      · have z3 : ((m4 : Int) == 12) = true := by rw [beq_iff_eq]; omega
        clear z2
        go_wp2
        go_ret2
        exact ⟨p4, 2, rfl, O4.out.1, O4.out.2, by omega, NW.out⟩
      · have z3 : ((m4 : Int) == 12) = false := by rw [beq_eq_false_iff_ne]; omega
        go_wp2
        go_ret2
        exact ⟨p4, 0, rfl, O4.out.1, O4.out.2, by omega, NW.out⟩
  · go_enter Try.func57, Try.ntmps57
    go_wp2_with fail
    refine (median_any _ b c i j k w.heap.size 0 d HD0.out (by omega) (by omega) (by omega) HC.out (by omega) hbne).mono ?_
    rintro e w4 ⟨p4, m4, rfl, o4, g4, a7, a8, k4⟩
    have hp4 : x ≤ p4 ∧ p4 < y := by omega
    have c4 := g4.cell
    have NW := Lib.hid (FIN.out p4 m4 w4 hp4.1 hp4.2 g4 k4)
    have O4 := Lib.hid hp4
    clear o4 hp4 g4 k4
    by_cases z0 : m4 = 0
    · have z1 : ((m4 : Int) == 0) = true := by rw [beq_iff_eq]; omega
      clear z0
      go_wp2
      go_ret2
      exact ⟨p4, 1, rfl, O4.out.1, O4.out.2, by omega, NW.out⟩
    · have z1 : ((m4 : Int) == 0) = false := by rw [beq_eq_false_iff_ne]; omega
      have z3 : ((m4 : Int) == 12) = false := by rw [beq_eq_false_iff_ne]; omega
      go_wp2
      go_ret2
      exact ⟨p4, 0, rfl, O4.out.1, O4.out.2, by omega, NW.out⟩
end Go.Proofs.Ytbdpimnbjonhlaa
