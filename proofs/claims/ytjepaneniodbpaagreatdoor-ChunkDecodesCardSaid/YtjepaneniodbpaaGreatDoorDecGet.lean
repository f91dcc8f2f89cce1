import Derived.Test.YtjepaneniodbpaaGreatDoorWin
import Derived.Test.YtjepaneniodbpaaGreatDoorReader
import Derived.Deep.RegionHeld3

/- xorval's decoder: bits, check, fresh. -/
namespace Go.Proofs.YtjepaneniodbpaaGreatDoor
open Go Go.RowKit Go.Sort

/-- block g is a decoder over the reader gr -/
def DecB (W : World) (g last : Nat) (win : Win) (gr err : Nat) : Prop :=
  ∃ a n : Int, winOf win = winV a n ∧ W.heap[g]? = some (.cells #[.int .u64 (last : Int), .int .i64 a, .int .i64 n, .pointer (some ⟨gr, 0, none⟩), .int .i64 (err : Int)] 124 (0, 0))
theorem DecB.same {W W' : World} {g last gr err : Nat} {win : Win} (h : DecB W g last win gr err) (e : W'.heap[g]? = W.heap[g]?) : DecB W' g last win gr err := by
  obtain ⟨a, n, h1, h2⟩ := h
  exact ⟨a, n, h1, e.trans h2⟩
theorem DecB.lt {W : World} {g last gr err : Nat} {win : Win} (h : DecB W g last win gr err) : g < W.heap.size := by
  obtain ⟨a, n, h1, h2⟩ := h
  exact lt_of_block h2
/-- the decoder g over the reader gr, whose bytes lie in block b: the bits r are left -/
structure DecS (W : World) (g last : Nat) (win : Win) (err gr b : Nat) (bytes : List Nat) (r : List Bool) : Prop where
  dec : DecB W g last win gr err
  rdr : ∃ pos, Rdr W gr b bytes pos ∧ rest bytes pos = r
  n1 : g ≠ gr
  n2 : b ≠ g
theorem DecS.nw {W W' : World} {g last err gr b : Nat} {win : Win} {bytes : List Nat} {r : List Bool} (h : DecS W g last win err gr b bytes r) (hN : Nw W W') : DecS W' g last win err gr b bytes r := by
  obtain ⟨h1, ⟨pos, h2, h3⟩, h4, h5⟩ := h
  exact ⟨h1.same (hN.block g h1.lt), ⟨pos, h2.nw hN, h3⟩, h4, h5⟩
/-- what bits answers: the value, the error, the bits that are left -/
def dbits (err : Nat) (r : List Bool) (n : Nat) : Nat × Nat × List Bool := if err ≠ 0 then (0, err, r) else if r.length < n then (0, 3, r) else (bv (r.take n), 0, r.drop n)

theorem dbits_any (w : World) (g last err gr b : Nat) (win : Win) (bytes : List Nat) (r : List Bool) (n : Nat) (h : DecS w g last win err gr b bytes r) (hn : n ≤ 64) :
    Calls Tryz.prog 70 #[.pointer (some ⟨g, 0, none⟩), .int .i64 (n : Int)] w fun e w' => e = .returned (.int .u64 ((dbits err r n).1 : Int)) ∧ DecS w' g last win (dbits err r n).2.1 gr b bytes (dbits err r n).2.2 ∧ Kp g gr w w' := by
  obtain ⟨⟨a, m, hw, hb⟩, ⟨pos, hR, hr⟩, n1, n2⟩ := h
  have hgl := lt_of_block hb
  have hc3 : w.cell? ⟨g, 3, none⟩ = some (.pointer (some ⟨gr, 0, none⟩)) := by simp [World.cell?, hb]
  have hc4 : w.cell? ⟨g, 4, none⟩ = some (.int .i64 (err : Int)) := by simp [World.cell?, hb]
  by_cases he : err = 0
  · subst he
    have hlen : r.length = 8 * bytes.length - pos := by rw [← hr]; exact rest_length bytes pos
    have hwi := hR.within
    have HB := Lib.hid hb
    by_cases hfit : r.length < n
    · have H := Lib.hid (RBits_eof w gr b bytes pos n hR hn (by omega))
      have HR := Lib.hid hR
      have hd : dbits 0 r n = (0, 3, r) := by unfold dbits; rw [if_neg (by simp), if_pos hfit]
      rw [hd]
      clear hR hb hd
      go_enter Tryz.func70, Tryz.ntmps70
      go_wp2_with fail
      refine H.out.mono ?_
      rintro e w1 ⟨rfl, hD⟩
      have hb1 := (hD.nw.block g hgl).trans HB.out
      have hc41 : w1.cell? ⟨g, 4, none⟩ = some (.int .i64 0) := by simp [World.cell?, hb1]
      have hf41 : w1.frozen? ⟨g, 4, none⟩ = false := by simp [World.frozen?, hb1]
      have HB1 := Lib.hid hb1
      clear hb1
      go_wp2
      go_ret
      have hk : Kp g gr w1 (w1.setCell ⟨g, 4, none⟩ (.int .i64 3)) := (Kp.refl g gr w1).setCell' (p := ⟨g, 4, none⟩) (.inl rfl) _
      have hkg : Kp g g w1 (w1.setCell ⟨g, 4, none⟩ (.int .i64 3)) := (Kp.refl g g w1).setCell' (p := ⟨g, 4, none⟩) (.inl rfl) _
      refine ⟨rfl, ⟨⟨a, m, hw, by simp [World.setCell, Array.getElem?_modify, HB1.out]⟩, ⟨pos, (HR.out.nw hD.nw).kp hkg (Ne.symm n1) (Ne.symm n1) n2 n2, hr⟩, n1, n2⟩, (hD.nw.kp g gr).trans hk (.inl rfl) (.inr (.inl rfl))⟩
    · have H := Lib.hid (RBits_ok w gr b bytes pos n hR hn (by omega))
      have hd : dbits 0 r n = (bv (r.take n), 0, r.drop n) := by unfold dbits; rw [if_neg (by simp), if_neg hfit]
      have hdr : Hid (rest bytes (pos + n) = r.drop n) := Lib.hid (by rw [← hr]; simp [rest])
      rw [hd]
      rw [hr] at H
      clear hR hb hd
      go_enter Tryz.func70, Tryz.ntmps70
      go_wp2_with fail
      refine H.out.mono ?_
      rintro e w1 ⟨rfl, hR1, hK⟩
      have hb1 := (hK.block g hgl n1 n1).trans HB.out
      have hc41 : w1.cell? ⟨g, 4, none⟩ = some (.int .i64 0) := by simp [World.cell?, hb1]
      have hf41 : w1.frozen? ⟨g, 4, none⟩ = false := by simp [World.frozen?, hb1]
      have HB1 := Lib.hid hb1
      have HR1 := Lib.hid hR1
      have HK := Lib.hid hK
      clear hb1 hR1 hK
      go_wp2
      go_ret
      have hk : Kp g gr w1 (w1.setCell ⟨g, 4, none⟩ (.int .i64 0)) := (Kp.refl g gr w1).setCell' (p := ⟨g, 4, none⟩) (.inl rfl) _
      have hkg : Kp g g w1 (w1.setCell ⟨g, 4, none⟩ (.int .i64 0)) := (Kp.refl g g w1).setCell' (p := ⟨g, 4, none⟩) (.inl rfl) _
      refine ⟨rfl, ⟨⟨a, m, hw, by simp [World.setCell, Array.getElem?_modify, HB1.out]⟩, ⟨pos + n, HR1.out.kp hkg (Ne.symm n1) (Ne.symm n1) n2 n2, hdr.out⟩, n1, n2⟩, ?_⟩
      exact Kp.trans (Kp.trans (Kp.refl g gr w) HK.out (.inr (.inl rfl)) (.inr (.inl rfl))) hk (.inl rfl) (.inr (.inl rfl))
  · have hd : dbits err r n = (0, err, r) := by unfold dbits; rw [if_pos he]
    rw [hd]
    have he' : ((err : Int) == 0) = false := by rw [beq_eq_false_iff_ne]; omega
    have HS : Hid (DecS w g last win err gr b bytes r) := Lib.hid ⟨⟨a, m, hw, hb⟩, ⟨pos, hR, hr⟩, n1, n2⟩
    clear hb hR hd
    go_enter Tryz.func70, Tryz.ntmps70
    go_wp2
    go_ret
    exact ⟨rfl, HS.out, Kp.refl _ _ _⟩

theorem check_any (w : World) (g last err gr b : Nat) (win : Win) (bytes : List Nat) (r : List Bool) (ok : Bool) (h : DecS w g last win err gr b bytes r) :
    Calls Tryz.prog 89 #[.pointer (some ⟨g, 0, none⟩), .bool ok] w fun e w' => e = .returned (.tuple #[]) ∧ DecS w' g last win (if err = 0 ∧ ok = false then 8 else err) gr b bytes r ∧ Kp g g w w' := by
  have HS := Lib.hid h
  obtain ⟨⟨a, m, hw, hb⟩, ⟨pos, hR, hr⟩, n1, n2⟩ := h
  have hgl := lt_of_block hb
  have hc4 : w.cell? ⟨g, 4, none⟩ = some (.int .i64 (err : Int)) := by simp [World.cell?, hb]
  have hf4 : w.frozen? ⟨g, 4, none⟩ = false := by simp [World.frozen?, hb]
  have HB := Lib.hid hb
  have HR := Lib.hid hR
  clear hb hR
  by_cases he : err = 0
  · subst he
    cases ok
    · go_enter Tryz.func89, Tryz.ntmps89
      go_wp2
      go_end0
      have hkg : Kp g g w (w.setCell ⟨g, 4, none⟩ (.int .i64 8)) := (Kp.refl g g w).setCell' (p := ⟨g, 4, none⟩) (.inl rfl) _
      refine ⟨rfl, ⟨⟨a, m, hw, by simp [World.setCell, Array.getElem?_modify, HB.out]⟩, ⟨pos, HR.out.kp hkg (Ne.symm n1) (Ne.symm n1) n2 n2, hr⟩, n1, n2⟩, hkg⟩
    · go_enter Tryz.func89, Tryz.ntmps89
      go_wp2
      go_end0
      exact ⟨rfl, by simpa using HS.out, Kp.refl _ _ _⟩
  · have he' : ((err : Int) == 0) = false := by rw [beq_eq_false_iff_ne]; omega
    rw [if_neg (fun h => he h.1)]
    go_enter Tryz.func89, Tryz.ntmps89
    go_wp2
    go_end0
    exact ⟨rfl, HS.out, Kp.refl _ _ _⟩

theorem dbits_lt (err : Nat) (r : List Bool) (n : Nat) : (dbits err r n).1 < 2 ^ n := by
  unfold dbits
  split
  · exact Nat.pow_pos (by omega)
  · split
    · exact Nat.pow_pos (by omega)
    · rename_i h
      exact (bits_take (by omega)).2
theorem Rdr.blt' {w : World} {g b : Nat} {bytes : List Nat} {pos : Nat} (h : Rdr w g b bytes pos) : bytes = [] ∨ b < w.heap.size := by
  obtain ⟨⟨A, c, hb, hr⟩, h2, h3, h4, h5⟩ := h
  rcases hr with hr | ⟨o, _, hlt, _⟩
  · exact .inl (by simpa using hr)
  · exact .inr hlt
theorem Rdr.off {w w' : World} {g b k k' : Nat} {bytes : List Nat} {pos : Nat} (h : Rdr w g b bytes pos) (hk : Kp k k' w w') (e1 : g ≠ k) (e2 : g ≠ k') (e3 : bytes = [] ∨ (b ≠ k ∧ b ≠ k')) : Rdr w' g b bytes pos := by
  rcases e3 with rfl | ⟨e3, e4⟩
  · have hlt := h.lt
    obtain ⟨⟨A, c, hb, hr⟩, h2, h3, h4, h5⟩ := h
    exact ⟨⟨A, c, (hk.block g hlt e1 e2).trans hb, Rd.nil _ _ _⟩, h2, h3, h4, h5⟩
  · exact h.kp hk e1 e2 e3 e4
/-- a step that writes blocks of its own -/
theorem DecS.off {W W' : World} {g last err gr b k k' : Nat} {win : Win} {bytes : List Nat} {r : List Bool} (h : DecS W g last win err gr b bytes r) (hk : Kp k k' W W') (e1 : g ≠ k) (e2 : g ≠ k') (e3 : gr ≠ k) (e4 : gr ≠ k') (e5 : bytes = [] ∨ (b ≠ k ∧ b ≠ k')) : DecS W' g last win err gr b bytes r := by
  obtain ⟨h1, ⟨pos, h2, h3⟩, h4, h5⟩ := h
  exact ⟨h1.same (hk.block g h1.lt e1 e2), ⟨pos, h2.off hk e3 e4 e5, h3⟩, h4, h5⟩
theorem DecS.blt {W : World} {g last err gr b : Nat} {win : Win} {bytes : List Nat} {r : List Bool} (h : DecS W g last win err gr b bytes r) : (bytes = [] ∨ b < W.heap.size) ∧ gr < W.heap.size ∧ g < W.heap.size := by
  have hg := h.dec.lt
  obtain ⟨h1, ⟨pos, h2, h3⟩, h4, h5⟩ := h
  exact ⟨h2.blt', h2.lt, hg⟩
/-- a new window, as it is read -/
theorem fresh_any (w : World) (g last err gr b : Nat) (win : Win) (bytes : List Nat) (r : List Bool) (h : DecS w g last win err gr b bytes r) (v1 e1 v2 e2 : Nat) (r1 r2 : List Bool) (h1 : dbits err r 6 = (v1, e1, r1)) (h2 : dbits e1 r1 6 = (v2, e2, r2)) :
    Calls Tryz.prog 88 #[.pointer (some ⟨g, 0, none⟩)] w fun e w' => e = .returned (winV (v1 : Int) ((v2 + 1 : Nat) : Int)) ∧ DecS w' g last win (if e2 = 0 ∧ 63 < v1 + v2 then 8 else e2) gr b bytes r2 ∧ Kp g gr w w' := by
  have hv1 := dbits_lt err r 6
  have hv2 := dbits_lt e1 r1 6
  rw [h1] at hv1
  rw [h2] at hv2
  simp only [Nat.reducePow] at hv1 hv2
  generalize hE : (if e2 = 0 ∧ 63 < v1 + v2 then 8 else e2) = E
  have HE := Lib.hid hE
  clear hE
  obtain ⟨hbl, hgr, hgl⟩ := h.blt
  have n1 := h.n1
  have H1 := Lib.hid fun W (hN : Nw w W) => dbits_any W g last err gr b win bytes r 6 (h.nw hN) (by omega)
  have H2 := Lib.hid fun W (hS : DecS W g last win e1 gr b bytes r1) => dbits_any W g last e1 gr b win bytes r1 6 hS (by omega)
  have H3 := Lib.hid fun W ok (hS : DecS W g last win e2 gr b bytes r2) => check_any W g last e2 gr b win bytes r2 ok hS
  rw [h1] at H1
  rw [h2] at H2
  simp only at H1 H2
  clear h h1 h2
  go_enter Tryz.func88, Tryz.ntmps88
  go_wp2_with fail
  refine (H1.out _ ((Nw.refl w).alloc' _)).mono ?_
  rintro e w1 ⟨rfl, hS1, hK1⟩
  have hc0 : w1.heap[w.heap.size]? = some (.cells #[.int .i64 0, .int .i64 0] 120) := (hK1.block _ (by simp) (by omega) (by omega)).trans (heap_alloc_new w _)
  have hk1 : Kp g gr w w1 := (((Nw.refl w).alloc' _).kp g gr).trans hK1 (.inl rfl) (.inr (.inl rfl))
  have hs1 := hk1.size
  have hs1' : w.heap.size < w1.heap.size := lt_of_block hc0
  have HS1 := Lib.hid hS1
  have HK1 := Lib.hid hk1
  have HC0 := Lib.hid hc0
  clear hS1 hK1 hc0 hk1
  go_wp2_with fail
  refine (H2.out _ (HS1.out.nw ((Nw.refl w1).alloc' _))).mono ?_
  rintro e w2 ⟨rfl, hS2, hK2⟩
  have hc2 : w2.heap[w1.heap.size]? = some (.cells #[.int .i64 (v1 : Int), .int .i64 0] 120) := (hK2.block _ (by simp) (by omega) (by omega)).trans (heap_alloc_new w1 _)
  have hc0 : w2.heap[w.heap.size]? = some (.cells #[.int .i64 0, .int .i64 0] 120) := (hK2.block _ (by simp; omega) (by omega) (by omega)).trans ((Below.heap_alloc w1 _ _ (by omega)).trans HC0.out)
  have hk2 : Kp g gr w w2 := (HK1.out.alloc' _).trans hK2 (.inl rfl) (.inr (.inl rfl))
  have hd1 : w2.cell? ⟨w1.heap.size, 0, none⟩ = some (.int .i64 (v1 : Int)) := by simp [World.cell?, hc2]
  have hd2 : w2.cell? ⟨w1.heap.size, 1, none⟩ = some (.int .i64 0) := by simp [World.cell?, hc2]
  have hd3 : w2.frozen? ⟨w1.heap.size, 1, none⟩ = false := by simp [World.frozen?, hc2]
  have HC2 := Lib.hid hc2
  have HC0' := Lib.hid hc0
  have HK2 := Lib.hid hk2
  have hkw : Kp w1.heap.size w1.heap.size w2 (w2.setCell ⟨w1.heap.size, 1, none⟩ (.int .i64 ((v2 : Int) + 1))) := (Kp.refl _ _ _).setCell' (p := ⟨w1.heap.size, 1, none⟩) (.inl rfl) _
  have HS2 := Lib.hid (hS2.off hkw (by omega) (by omega) (by omega) (by omega) (by rcases hbl with h | h; exact .inl h; right; omega))
  have HKW := Lib.hid hkw
  clear hS2 hK2 hc2 hc0 hk2 hkw
  go_wp2_with fail
  refine (H3.out _ _ HS2.out).mono ?_
  rintro e w4 ⟨rfl, hS4, hK4⟩
  have hb4 : w4.heap[w1.heap.size]? = some (.cells #[.int .i64 (v1 : Int), .int .i64 ((v2 : Int) + 1)] 120) := (hK4.block _ (by have := HKW.out.size; have := lt_of_block HC2.out; omega) (by omega) (by omega)).trans (by simp [World.setCell, Array.getElem?_modify, HC2.out])
  have hb0 : w4.heap[w.heap.size]? = some (.cells #[.int .i64 0, .int .i64 0] 120) := (hK4.block _ (by have := HKW.out.size; have := lt_of_block HC2.out; omega) (by omega) (by omega)).trans ((HKW.out.block _ (lt_of_block HC0'.out) (by omega) (by omega)).trans HC0'.out)
  have he1 : w4.cell? ⟨w1.heap.size, 0, none⟩ = some (.int .i64 (v1 : Int)) := by simp [World.cell?, hb4]
  have he2 : w4.cell? ⟨w1.heap.size, 1, none⟩ = some (.int .i64 ((v2 : Int) + 1)) := by simp [World.cell?, hb4]
  have hf1 : w4.cell? ⟨w.heap.size, 0, none⟩ = some (.int .i64 0) := by simp [World.cell?, hb0]
  have hf2 : w4.cell? ⟨w.heap.size, 1, none⟩ = some (.int .i64 0) := by simp [World.cell?, hb0]
  have hf3 : w4.frozen? ⟨w.heap.size, 0, none⟩ = false := by simp [World.frozen?, hb0]
  have hf4 : w4.frozen? ⟨w.heap.size, 1, none⟩ = false := by simp [World.frozen?, hb0]
  have HB0 := Lib.hid hb0
  have HS4 := Lib.hid hS4
  have HK4 := Lib.hid hK4
  clear hb4 hb0 hS4 hK4
  go_wp2
  have hfin : Hid (((w4.setCell ⟨w.heap.size, 0, none⟩ (.int .i64 (v1 : Int))).setCell ⟨w.heap.size, 1, none⟩ (.int .i64 ((v2 : Int) + 1))).heap[w.heap.size]? = some (.cells #[.int .i64 (v1 : Int), .int .i64 ((v2 : Int) + 1)] 120 (0, 0))) := Lib.hid (by simp [World.setCell, Array.getElem?_modify, HB0.out])
  refine bodyPost_ret (results_cell_row rfl _ _ w.heap.size 120 _ _ _ rfl hfin.out Tryz.underlying120 rfl (by kernel_rfl)) rfl ?_
  have hee : (if e2 = 0 ∧ decide ((v1 : Int) + ((v2 : Int) + 1) ≤ 64) = false then 8 else e2) = E := by
    rw [← HE.out]
    congr 1
    rw [decide_eq_false_iff_not]
    apply propext
    constructor <;> (rintro ⟨x, y⟩; exact ⟨x, by omega⟩)
  have hS4 := HS4.out
  rw [hee] at hS4
  have hkf : Kp w.heap.size w.heap.size w4 ((w4.setCell ⟨w.heap.size, 0, none⟩ (.int .i64 (v1 : Int))).setCell ⟨w.heap.size, 1, none⟩ (.int .i64 ((v2 : Int) + 1))) := ((Kp.refl _ _ _).setCell' (p := ⟨w.heap.size, 0, none⟩) (.inl rfl) _).setCell' (p := ⟨w.heap.size, 1, none⟩) (.inl rfl) _
  refine ⟨rfl, hS4.off hkf (by omega) (by omega) (by omega) (by omega) (by rcases hbl with h | h; exact .inl h; right; omega), ?_⟩
  have k1 : Kp g gr w (w2.setCell ⟨w1.heap.size, 1, none⟩ (.int .i64 ((v2 : Int) + 1))) := HK2.out.trans HKW.out (.inr (.inr hs1)) (.inr (.inr hs1))
  exact (k1.trans HK4.out (.inl rfl) (.inl rfl)).trans hkf (.inr (.inr (Nat.le_refl _))) (.inr (.inr (Nat.le_refl _)))
end Go.Proofs.YtjepaneniodbpaaGreatDoor

/- xorval's decoder: get. -/
namespace Go.Proofs.YtjepaneniodbpaaGreatDoor
open Go Go.RowKit Go.Sort

/-- what get answers, by the plain law's word X -/
def DGot (w : World) (g gr b : Nat) (bytes : List Nat) (X : Except Nat (Nat × Win × List Bool)) (e : Ending) (w' : World) : Prop :=
  (match X with
   | .ok (v, win, r) => e = .returned (.int .u64 (v : Int)) ∧ DecS w' g v win 0 gr b bytes r
   | .error k => (∃ v : Nat, e = .returned (.int .u64 (v : Int))) ∧ ∃ last win r, DecS w' g last win k gr b bytes r) ∧ Kp g gr w w'

theorem cell_skip {w : World} {p a : Addr} {u v : Value} (h : a.block ≠ p.block) (hc : w.cell? a = some v) : (w.setCell p u).cell? a = some v :=
  (World.cell?_of_block (Below.heap_setCell w p u a.block h)).trans hc
theorem cell_past {w : World} {o : Obj} {a : Addr} {v : Value} (h : a.block < w.heap.size) (hc : w.cell? a = some v) : (w.alloc o).cell? a = some v :=
  (World.cell?_of_block (Below.heap_alloc w o _ h)).trans hc
theorem check_err (w : World) (g last err gr b : Nat) (win : Win) (bytes : List Nat) (r : List Bool) (ok : Bool) (h : DecS w g last win err gr b bytes r) (he : err ≠ 0) :
    Calls Tryz.prog 89 #[.pointer (some ⟨g, 0, none⟩), .bool ok] w fun e w' => e = .returned (.tuple #[]) ∧ DecS w' g last win err gr b bytes r ∧ Kp g g w w' ∧ w'.cell? ⟨g, 4, none⟩ = some (.int .i64 (err : Int)) := by
  have h1 := check_any w g last err gr b win bytes r ok h
  rw [if_neg (fun h => he h.1)] at h1
  refine h1.mono ?_
  rintro e w' ⟨h1, h2, h3⟩
  obtain ⟨a, n, _, hb⟩ := h2.dec
  exact ⟨h1, h2, h3, by simp [World.cell?, hb]⟩
theorem check_true (w : World) (g last gr b : Nat) (win : Win) (bytes : List Nat) (r : List Bool) (h : DecS w g last win 0 gr b bytes r) :
    Calls Tryz.prog 89 #[.pointer (some ⟨g, 0, none⟩), .bool true] w fun e w' => e = .returned (.tuple #[]) ∧ DecS w' g last win 0 gr b bytes r ∧ Kp g g w w' ∧ w'.cell? ⟨g, 4, none⟩ = some (.int .i64 0) := by
  have h1 := check_any w g last 0 gr b win bytes r true h
  rw [if_neg (fun h => by cases h.2)] at h1
  refine h1.mono ?_
  rintro e w' ⟨h1, h2, h3⟩
  obtain ⟨a, n, _, hb⟩ := h2.dec
  exact ⟨h1, h2, h3, by simp [World.cell?, hb]⟩
theorem check_false (w : World) (g last gr b : Nat) (win : Win) (bytes : List Nat) (r : List Bool) (h : DecS w g last win 0 gr b bytes r) :
    Calls Tryz.prog 89 #[.pointer (some ⟨g, 0, none⟩), .bool false] w fun e w' => e = .returned (.tuple #[]) ∧ DecS w' g last win 8 gr b bytes r ∧ Kp g g w w' ∧ w'.cell? ⟨g, 4, none⟩ = some (.int .i64 8) := by
  have h1 := check_any w g last 0 gr b win bytes r false h
  rw [if_pos ⟨rfl, rfl⟩] at h1
  refine h1.mono ?_
  rintro e w' ⟨h1, h2, h3⟩
  obtain ⟨a, n, _, hb⟩ := h2.dec
  exact ⟨h1, h2, h3, by simp [World.cell?, hb]⟩
theorem dbits_one (x : Bool) (r : List Bool) : dbits 0 (x :: r) 1 = (b2n x, 0, r) := by
  unfold dbits
  rw [if_neg (by simp), if_neg (by simp)]
  cases x <;> rfl
theorem dget_zero (w : World) (g last gr b : Nat) (win : Win) (bytes : List Nat) (r : List Bool) (h : DecS w g last win 0 gr b bytes r) (hr : ∀ r', r ≠ true :: r') :
    Calls Tryz.prog 71 #[.pointer (some ⟨g, 0, none⟩)] w (DGot w g gr b bytes (xget1 last win r)) := by
  have H : Hid (Calls Tryz.prog 70 #[.pointer (some ⟨g, 0, none⟩), .int .i64 1] w fun e w' => e = .returned (.int .u64 0) ∧ DGot w g gr b bytes (xget1 last win r) (.returned (.int .u64 (last : Int))) w' ∧ w'.cell? ⟨g, 0, none⟩ = some (.int .u64 (last : Int))) := by
    refine Lib.hid ((dbits_any w g last 0 gr b win bytes r 1 h (by omega)).mono ?_)
    rintro e w' ⟨rfl, hS, hK⟩
    have hc : w'.cell? ⟨g, 0, none⟩ = some (.int .u64 (last : Int)) := by
      obtain ⟨a, n, _, hb⟩ := hS.dec
      simp [World.cell?, hb]
    match r, hr, hS with
    | [], _, hS => exact ⟨rfl, ⟨⟨⟨last, rfl⟩, last, win, [], hS⟩, hK⟩, hc⟩
    | false :: r', _, hS =>
      rw [dbits_one] at hS
      exact ⟨by rw [dbits_one]; rfl, ⟨⟨rfl, hS⟩, hK⟩, hc⟩
    | true :: r', hr, _ => exact (hr r' rfl).elim
  clear h hr
  generalize xget1 last win r = X at *
  go_enter Tryz.func71, Tryz.ntmps71
  go_wp2_with fail
  refine H.out.mono ?_
  rintro e w1 ⟨rfl, hS, hc⟩
  go_wp2
  go_ret
  exact hS

theorem DecS.setLast {W : World} {g last err gr b : Nat} {win : Win} {bytes : List Nat} {r : List Bool} (h : DecS W g last win err gr b bytes r) (Y : Nat) : DecS (W.setCell ⟨g, 0, none⟩ (.int .u64 (Y : Int))) g Y win err gr b bytes r ∧ Kp g g W (W.setCell ⟨g, 0, none⟩ (.int .u64 (Y : Int))) := by
  have hk : Kp g g W (W.setCell ⟨g, 0, none⟩ (.int .u64 (Y : Int))) := (Kp.refl _ _ _).setCell' (p := ⟨g, 0, none⟩) (.inl rfl) _
  obtain ⟨⟨a, n, h1, hb⟩, ⟨pos, h2, h3⟩, h4, h5⟩ := h
  exact ⟨⟨⟨a, n, h1, by simp [World.setCell, Array.getElem?_modify, hb]⟩, ⟨pos, h2.kp hk (Ne.symm h4) (Ne.symm h4) h5 h5, h3⟩, h4, h5⟩, hk⟩
theorem DecS.last {W : World} {g last err gr b : Nat} {win : Win} {bytes : List Nat} {r : List Bool} (h : DecS W g last win err gr b bytes r) : W.cell? ⟨g, 0, none⟩ = some (.int .u64 (last : Int)) ∧ W.frozen? ⟨g, 0, none⟩ = false := by
  obtain ⟨a, n, h1, hb⟩ := h.dec
  exact ⟨by simp [World.cell?, hb], by simp [World.frozen?, hb]⟩
theorem DecS.setWin {W : World} {g last err gr b : Nat} {win : Win} {bytes : List Nat} {r : List Bool} (h : DecS W g last win err gr b bytes r) (a n c : Nat) (hn : n + a + c = 64) :
    DecS ((W.setCell ⟨g, 1, none⟩ (.int .i64 (a : Int))).setCell ⟨g, 2, none⟩ (.int .i64 (n : Int))) g last (some (a, c)) err gr b bytes r ∧ Kp g g W ((W.setCell ⟨g, 1, none⟩ (.int .i64 (a : Int))).setCell ⟨g, 2, none⟩ (.int .i64 (n : Int))) := by
  have hk : Kp g g W ((W.setCell ⟨g, 1, none⟩ (.int .i64 (a : Int))).setCell ⟨g, 2, none⟩ (.int .i64 (n : Int))) := ((Kp.refl _ _ _).setCell' (p := ⟨g, 1, none⟩) (.inl rfl) _).setCell' (p := ⟨g, 2, none⟩) (.inl rfl) _
  obtain ⟨⟨a0, n0, h1, hb⟩, ⟨pos, h2, h3⟩, h4, h5⟩ := h
  refine ⟨⟨⟨a, n, ?_, by simp [World.setCell, Array.getElem?_modify, hb]⟩, ⟨pos, h2.kp hk (Ne.symm h4) (Ne.symm h4) h5 h5, h3⟩, h4, h5⟩, hk⟩
  show winV a ((64 - a - c : Nat) : Int) = _
  rw [show 64 - a - c = n from by omega]
theorem DecS.winc {W : World} {g last err gr b : Nat} {win : Win} {bytes : List Nat} {r : List Bool} (h : DecS W g last win err gr b bytes r) : ∃ a n : Int, W.cell? ⟨g, 1, none⟩ = some (.int .i64 a) ∧ W.cell? ⟨g, 2, none⟩ = some (.int .i64 n) ∧ W.frozen? ⟨g, 1, none⟩ = false ∧ W.frozen? ⟨g, 2, none⟩ = false := by
  obtain ⟨a, n, h1, hb⟩ := h.dec
  exact ⟨a, n, by simp [World.cell?, hb], by simp [World.cell?, hb], by simp [World.frozen?, hb], by simp [World.frozen?, hb]⟩
theorem DecS.errc {W : World} {g last err gr b : Nat} {win : Win} {bytes : List Nat} {r : List Bool} (h : DecS W g last win err gr b bytes r) : W.cell? ⟨g, 4, none⟩ = some (.int .i64 (err : Int)) := by
  obtain ⟨a, n, h1, hb⟩ := h.dec
  simp [World.cell?, hb]
theorem dbits_ok {r : List Bool} {n : Nat} (h : n ≤ r.length) : dbits 0 r n = (bv (r.take n), 0, r.drop n) := by
  unfold dbits
  rw [if_neg (by simp), if_neg (by omega)]
theorem dbits_eof {r : List Bool} {n : Nat} (h : r.length < n) : dbits 0 r n = (0, 3, r) := by
  unfold dbits
  rw [if_neg (by simp), if_pos h]
/-- the frame behind the second bit: k is the block of the window -/
def act3 (g k v2 : Nat) (a0 n0 : Int) : Act := { tmps := #[.pointer (some ⟨g, 0, none⟩), undef, .int .u64 0, .pointer (some ⟨k, 0, none⟩), .bool ((v2 : Int) == 1), undef, .pointer (some ⟨g, 0, none⟩), .int .u64 1, .bool false, undef, undef, undef, undef, undef, .pointer (some ⟨g, 0, none⟩), .pointer (some ⟨g, 0, none⟩), .pointer (some ⟨g, 0, none⟩), .pointer (some ⟨g, 1, none⟩), .agg #[.int .i64 a0, .int .i64 n0], .pointer (some ⟨g, 0, none⟩), .int .u64 (v2 : Int), .bool ((v2 : Int) == 1), undef, undef, undef, undef, undef, undef, undef, undef, undef, undef, undef, undef, undef, undef, undef, undef, undef, undef, undef, undef, undef, undef, undef, undef, undef, undef, undef, undef, undef, undef, undef, undef, undef, undef, undef, undef, undef, undef, undef, undef, undef, undef, undef, undef, undef, undef, undef, undef, undef, undef, undef, undef, undef, undef, undef, undef, undef, undef, undef, undef, undef, undef, undef, undef, undef, undef], defers := [] }

set_option maxRecDepth 100000 in
set_option maxHeartbeats 8000000 in
theorem dget_true (w : World) (g last gr b : Nat) (win : Win) (bytes : List Nat) (r : List Bool) (h : DecS w g last win 0 gr b bytes (true :: r)) (hG : Gl w) (hw : WinOk win) (hl : last < 18446744073709551616) (hg2 : 2 ≤ g) (hgr2 : 2 ≤ gr) :
    Calls Tryz.prog 71 #[.pointer (some ⟨g, 0, none⟩)] w (DGot w g gr b bytes (xget1 last win (true :: r))) := by
  have hd1 : Hid (∃ a n : Int, winOf win = winV a n) := Lib.hid (by obtain ⟨a, n, h1, _⟩ := h.dec; exact ⟨a, n, h1⟩)
  obtain ⟨a0, n0, hwv⟩ := hd1.out
  have HWV := Lib.hid hwv
  have HC : Hid (∀ (W : World) (e2 : Nat) (R : List Bool), DecS W g last win e2 gr b bytes R → W.cell? ⟨g, 1, none⟩ = some (.int .i64 a0) ∧ W.cell? ⟨g, 2, none⟩ = some (.int .i64 n0)) := by
    refine Lib.hid ?_
    intro W e2 R hS
    obtain ⟨a, n, h1, hb⟩ := hS.dec
    rw [hwv] at h1
    injection h1 with e; injection e with e; injection e with e1 e2; injection e2 with e2 _; injection e1 with _ e1; injection e2 with _ e2
    subst e1 e2
    exact ⟨by simp [World.cell?, hb], by simp [World.cell?, hb]⟩
  have HB1 := Lib.hid (dbits_any w g last 0 gr b win bytes (true :: r) 1 h (by omega))
  simp only [dbits_one] at HB1
  obtain ⟨v2, e2, r2, hv⟩ : ∃ v2 e2 r2, dbits 0 r 1 = (v2, e2, r2) := ⟨_, _, _, rfl⟩
  have HV := Lib.hid hv
  have HB := Lib.hid fun W (hS : DecS W g last win 0 gr b bytes r) => dbits_any W g last 0 gr b win bytes r 1 hS (by omega)
  rw [hv] at HB
  simp only at HB
  have HG := Lib.hid hG
  obtain ⟨hbl, hgr, hgl⟩ := h.blt
  have n1 := h.n1
  clear h hG hv hwv hd1
  go_enter Tryz.func71, Tryz.ntmps71
  go_wp2_with fail
  refine HB1.out.mono ?_
  rintro e w1 ⟨rfl, hS1, hK1⟩
  have e1 : ((b2n true : Nat) : Int) = 1 := rfl
  rw [e1]
  have hs1 := hK1.size
  obtain ⟨hc1, hc2⟩ := HC.out _ _ _ hS1
  have HS1 := Lib.hid hS1
  have HK1 := Lib.hid hK1
  clear hS1 hK1 HB1 e1
  have hgw1 : g < w1.heap.size := by omega
  have hne1 : g ≠ w1.heap.size := by omega
  have HB2 : Hid (∀ W, Nw w1 W → Calls Tryz.prog 70 #[.pointer (some ⟨g, 0, none⟩), .int .i64 1] W fun e w' => e = .returned (.int .u64 (v2 : Int)) ∧ w'.cell? ⟨g, 1, none⟩ = some (.int .i64 a0) ∧ w'.cell? ⟨g, 2, none⟩ = some (.int .i64 n0) ∧
      (w1.heap.size < W.heap.size → w'.cell? ⟨w1.heap.size, 0, none⟩ = W.cell? ⟨w1.heap.size, 0, none⟩ ∧ w'.cell? ⟨w1.heap.size, 1, none⟩ = W.cell? ⟨w1.heap.size, 1, none⟩ ∧ w'.frozen? ⟨w1.heap.size, 0, none⟩ = W.frozen? ⟨w1.heap.size, 0, none⟩ ∧ w'.frozen? ⟨w1.heap.size, 1, none⟩ = W.frozen? ⟨w1.heap.size, 1, none⟩) ∧ g < w'.heap.size ∧ DecS w' g last win e2 gr b bytes r2 ∧ Kp g gr w1 w' ∧ (w1.heap.size < W.heap.size → w'.heap[w1.heap.size]? = W.heap[w1.heap.size]?)) := by
    refine Lib.hid fun W hN => (HB.out W (HS1.out.nw hN)).mono ?_
    rintro e w' ⟨rfl, hS, hK⟩
    obtain ⟨hx1, hx2⟩ := HC.out _ _ _ hS
    refine ⟨rfl, hx1, hx2, fun hlt => ?_, hS.dec.lt, hS, (hN.kp g gr).trans hK (.inl rfl) (.inr (.inl rfl)), fun hlt => hK.block w1.heap.size hlt (by omega) (by omega)⟩
    have hz := hK.block w1.heap.size hlt (by omega) (by omega)
    exact ⟨World.cell?_of_block hz, World.cell?_of_block hz, by unfold World.frozen?; rw [hz], by unfold World.frozen?; rw [hz]⟩
  clear HB
  go_wp2_with fail
  refine Code.wp_mono (Q := fun e a W => e = .normal ∧ ∃ k, a = act3 g k v2 a0 n0 ∧ w1.heap.size ≤ k ∧ W.heap[k]? = some (.cells #[.int .i64 a0, .int .i64 n0] 120 (0, 0)) ∧ DecS W g last win e2 gr b bytes r2 ∧ Kp g gr w1 W) ?_ ?_
  · clear hc1 hc2 HB2 hgw1 hne1
    rintro e a W ⟨rfl, k, rfl, hk1, hbk, hS, hK⟩
    have hkw : Kp g gr w W := HK1.out.trans hK (.inl rfl) (.inr (.inl rfl))
    have hg0 : k ≠ g := by omega
    have hg1 : k ≠ gr := by omega
    have HS := Lib.hid hS
    have HK := Lib.hid hkw
    have hsW := hkw.size
    have hd0 : W.cell? ⟨k, 0, none⟩ = some (.int .i64 a0) := by simp [World.cell?, hbk]
    have hd1 : W.cell? ⟨k, 1, none⟩ = some (.int .i64 n0) := by simp [World.cell?, hbk]
    have he : W.cell? ⟨g, 4, none⟩ = some (.int .i64 (e2 : Int)) := by
      obtain ⟨a, n, h1, hb⟩ := hS.dec
      simp [World.cell?, hb]
    clear hS hK hkw HK1 HS1
    unfold act3
    match r, HV with
    | [], HV =>
      obtain ⟨rfl, rfl, rfl⟩ : v2 = 0 ∧ e2 = 3 ∧ r2 = [] := by
        have := HV.out
        simp [dbits] at this
        exact ⟨this.1.symm, this.2.1.symm, this.2.2⟩
      have HCk := Lib.hid fun ok => check_err W g last 3 gr b win bytes [] ok HS.out (by omega)
      go_wp2_with (first | (go_at_call 89; refine (HCk.out _).mono ?_; rintro e w5 ⟨rfl, hS5, hK5, he5⟩))
      all_goals
        go_ret
        exact ⟨⟨⟨0, rfl⟩, _, _, _, hS5⟩, HK.out.trans hK5 (.inl rfl) (.inl rfl)⟩
    | false :: r, HV =>
      obtain ⟨rfl, rfl, rfl⟩ : v2 = 0 ∧ e2 = 0 ∧ r2 = r := by
        have := HV.out
        rw [dbits_one] at this
        injection this with h1 h2
        injection h2 with h2 h3
        exact ⟨h1.symm, h2.symm, h3.symm⟩
      cases win with
      | none =>
        have e := HWV.out
        injection e with e; injection e with e; injection e with e1 e2; injection e2 with e2 _; injection e1 with _ e1; injection e2 with _ e2
        subst e1 e2
        have HCk := Lib.hid (check_false W g last gr b none bytes r2 HS.out)
        clear HC HWV
        go_wp2_with (first | (go_at_call 89; refine HCk.out.mono ?_; rintro e w5 ⟨rfl, hS5, hK5, he5⟩))
        go_ret
        exact ⟨⟨⟨0, rfl⟩, _, _, _, hS5⟩, HK.out.trans hK5 (.inl rfl) (.inl rfl)⟩
      | some ab =>
        obtain ⟨a, c⟩ := ab
        have e := HWV.out
        injection e with e; injection e with e; injection e with e1 e2; injection e2 with e2 _; injection e1 with _ e1; injection e2 with _ e2
        subst e1 e2
        have hac : a + c ≤ 63 := hw
        have HCk := Lib.hid (check_true W g last gr b (some (a, c)) bytes r2 HS.out)
        obtain ⟨n, hn⟩ : ∃ n, n = 64 - a - c := ⟨_, rfl⟩
        rw [← hn] at hbk hd1 HC HWV
        rw [← hn]
        have hn1 : n + a + c = 64 := by omega
        have hn0 : (((n : Nat) : Int) == 0) = false := by rw [beq_eq_false_iff_ne]; omega
        clear hn
        have HBK := Lib.hid hbk
        go_wp2_with (first | (go_at_call 89; refine HCk.out.mono ?_; rintro e w5 ⟨rfl, hS5, hK5, he5⟩))
        have hb5 := (hK5.block k (lt_of_block HBK.out) hg0 hg0).trans HBK.out
        have hs5 := hK5.size
        clear hbk hd0 hd1 he
        have hk5l := lt_of_block hb5
        have hx1 : w5.cell? ⟨k, 0, none⟩ = some (.int .i64 (a : Int)) := by simp [World.cell?, hb5]
        have hx2 : w5.cell? ⟨k, 1, none⟩ = some (.int .i64 (n : Int)) := by simp [World.cell?, hb5]
        obtain ⟨v3, e3, r3, hv3⟩ : ∃ v3 e3 r3, dbits 0 r2 n = (v3, e3, r3) := ⟨_, _, _, rfl⟩
        have hv3l := dbits_lt 0 r2 n
        rw [hv3] at hv3l
        have HBb : Hid (∀ W', Nw w5 W' → Calls Tryz.prog 70 #[.pointer (some ⟨g, 0, none⟩), .int .i64 (n : Int)] W' fun e w' => e = .returned (.int .u64 (v3 : Int)) ∧ w'.cell? ⟨k, 0, none⟩ = some (.int .i64 (a : Int)) ∧ w'.cell? ⟨k, 1, none⟩ = some (.int .i64 (n : Int)) ∧ DecS w' g last (some (a, c)) e3 gr b bytes r3 ∧ Kp g gr w5 w') := by
          refine Lib.hid fun W' hN => ?_
          have h := dbits_any W' g last 0 gr b (some (a, c)) bytes r2 n (hS5.nw hN) (by omega)
          rw [hv3] at h
          refine h.mono ?_
          rintro e w' ⟨rfl, h2, h3⟩
          have hkp : Kp g gr w5 w' := (hN.kp g gr).trans h3 (.inl rfl) (.inr (.inl rfl))
          have hb := (hkp.block k hk5l hg0 hg1).trans hb5
          exact ⟨rfl, by simp [World.cell?, hb], by simp [World.cell?, hb], h2, hkp⟩
        have HT : Hid (∀ W' : World, W'.cell? ⟨k, 0, none⟩ = some (.int .i64 (a : Int)) → W'.cell? ⟨k, 1, none⟩ = some (.int .i64 (n : Int)) → Calls Tryz.prog 90 #[winV a (n : Int)] W' fun e w' => e = .returned (.int .i64 (c : Int)) ∧ w'.cell? ⟨k, 0, none⟩ = some (.int .i64 (a : Int)) ∧ w'.cell? ⟨k, 1, none⟩ = some (.int .i64 (n : Int)) ∧ Nw W' w') := by
          refine Lib.hid fun W' h1 h2 => ?_
          have h := trail_any W' a n (by omega)
          rw [show 64 - a - n = c from by omega] at h
          refine h.mono ?_
          rintro e w' ⟨rfl, h3⟩
          have hkl : k < W'.heap.size := by
            unfold World.cell? at h1
            cases hh : W'.heap[k]? with
            | none => rw [hh] at h1; cases h1
            | some o => exact lt_of_block hh
          exact ⟨rfl, cell_old h3.nw hkl h1, cell_old h3.nw hkl h2, h3.nw⟩
        obtain ⟨X, hX⟩ : ∃ X, X = v3 * 2 ^ c := ⟨_, rfl⟩
        have hXl : X < 18446744073709551616 := by
          have h1 : v3 * 2 ^ c < 2 ^ n * 2 ^ c := (Nat.mul_lt_mul_right (Nat.pow_pos (by omega))).2 hv3l
          rw [← Nat.pow_add] at h1
          have h2 : 2 ^ (n + c) ≤ 2 ^ 64 := Nat.pow_le_pow_right (by omega) (by omega)
          rw [pow64] at h2
          omega
        have hshl : IntKind.u64.wrap ((v3 : Int) * 2 ^ c) = (X : Int) := by
          rw [show (v3 : Int) * 2 ^ c = (X : Int) from by rw [hX]; simp, IntWalk.u64_in _ (by omega)]
        have HX := Lib.hid hX
        have HV3 := Lib.hid hv3
        have HB5 := Lib.hid hb5
        clear hX hv3 hv3l hb5 hS5
        go_region_held3 (fun w' => w'.cell? ⟨k, 0, none⟩ = some (.int .i64 (a : Int)) ∧ w'.cell? ⟨k, 1, none⟩ = some (.int .i64 (n : Int)))
          (first | exact ⟨hz1, hz2⟩ | exact ⟨hy1, hy2⟩ | exact ⟨hx1, hx2⟩)
          (first
            | (go_at_call 70; refine (HBb.out _ (by first | exact Nw.refl _ | exact Nw.drewO _)).mono ?_; rintro e w6 ⟨rfl, hy1, hy2, hS6, hK6⟩)
            | (go_at_call 90; refine (HT.out _ hy1 hy2).mono ?_; rintro e w7 ⟨rfl, hz1, hz2, hNt⟩))
        have hS7 := hS6.nw hNt
        have hK7 := hK6.nw' hNt
        clear hS6 hK6 hNt hy1 hy2 hx1 hx2 hz1 hz2 HBb HT
        obtain ⟨Y, hY⟩ : ∃ Y, Y = last ^^^ X := ⟨_, rfl⟩
        have hxor : bits .xor .u64 (last : Int) (X : Int) = (Y : Int) := by rw [hY]; exact u64_xor_nat last X hl hXl
        have hKK : Kp g gr w w7 := (HK.out.trans hK5 (.inl rfl) (.inl rfl)).trans hK7 (.inl rfl) (.inr (.inl rfl))
        have HKK := Lib.hid hKK
        have HY := Lib.hid hY
        have HS7 := Lib.hid hS7
        clear hS7 hK7 hKK hY
        by_cases hlen : r2.length < n
        · obtain ⟨rfl, rfl, rfl⟩ : v3 = 0 ∧ e3 = 3 ∧ r2 = r3 := by
            have := HV3.out
            unfold dbits at this
            rw [if_neg (by simp), if_pos hlen] at this
            injection this with h1 h2
            injection h2 with h2 h3
            exact ⟨h1.symm, h2.symm, h3⟩
          have HCk3 := Lib.hid fun ok => check_err w7 g last 3 gr b (some (a, c)) bytes r2 ok HS7.out (by omega)
          go_wp2_with (first | (go_at_call 89; refine (HCk3.out _).mono ?_; rintro e w8 ⟨rfl, hS8, hK8, he8⟩; obtain ⟨hl8, hf8⟩ := hS8.last; have HS8 := Lib.hid hS8; clear hS8))
          go_ret
          obtain ⟨hS9, hK9⟩ := HS8.out.setLast Y
          have hxg : xget1 last (some (a, c)) (true :: false :: r2) = .error 3 := by
            show xbody last (some (a, c)) false a c r2 = _; unfold xbody
            rw [show 64 - a - c = n from by omega, if_pos hlen]
          rw [hxg]
          exact ⟨⟨⟨Y, rfl⟩, _, _, _, hS9⟩, (HKK.out.trans hK8 (.inl rfl) (.inl rfl)).trans hK9 (.inl rfl) (.inl rfl)⟩
        · obtain ⟨hv3, rfl, hr3⟩ : v3 = bv (r2.take n) ∧ e3 = 0 ∧ r3 = r2.drop n := by
            have := HV3.out
            unfold dbits at this
            rw [if_neg (by simp), if_neg hlen] at this
            injection this with h1 h2
            injection h2 with h2 h3
            exact ⟨h1.symm, h2.symm, h3.symm⟩
          have HV4 := Lib.hid hv3
          have HR3 := Lib.hid hr3
          clear hv3 hr3
          by_cases hX0' : X = 0
          · have hX0 : ((X : Int) != 0) = false := by simp [hX0']
            have HX0 := Lib.hid hX0'
            clear hX0'
            have HCk3 := Lib.hid (check_false w7 g last gr b (some (a, c)) bytes r3 HS7.out)
            go_wp2_with (first | (go_at_call 89; refine HCk3.out.mono ?_; rintro e w8 ⟨rfl, hS8, hK8, he8⟩; obtain ⟨hl8, hf8⟩ := hS8.last; have HS8 := Lib.hid hS8; clear hS8))
            go_ret
            obtain ⟨hS9, hK9⟩ := HS8.out.setLast Y
            have hxg : xget1 last (some (a, c)) (true :: false :: r2) = .error 8 := by
              show xbody last (some (a, c)) false a c r2 = _; unfold xbody
              rw [show 64 - a - c = n from by omega, if_neg hlen, ← HV4.out, ← HX.out, if_pos HX0.out]
            rw [hxg]
            exact ⟨⟨⟨Y, rfl⟩, _, _, _, hS9⟩, (HKK.out.trans hK8 (.inl rfl) (.inl rfl)).trans hK9 (.inl rfl) (.inl rfl)⟩
          · have hX0 : ((X : Int) != 0) = true := by simp; omega
            have HX0 := Lib.hid hX0'
            clear hX0'
            have HCk3 := Lib.hid (check_true w7 g last gr b (some (a, c)) bytes r3 HS7.out)
            go_wp2_with (first | (go_at_call 89; refine HCk3.out.mono ?_; rintro e w8 ⟨rfl, hS8, hK8, he8⟩; obtain ⟨hl8, hf8⟩ := hS8.last; have HS8 := Lib.hid hS8; clear hS8))
            go_ret
            obtain ⟨hS9, hK9⟩ := HS8.out.setLast Y
            have hxg : xget1 last (some (a, c)) (true :: false :: r2) = .ok (Y, (some (a, c)), r3) := by
              show xbody last (some (a, c)) false a c r2 = _; unfold xbody
              rw [show 64 - a - c = n from by omega, if_neg hlen, ← HV4.out, ← HX.out, if_neg HX0.out, if_neg (fun h => by cases h.1), ← HY.out, HR3.out]
              rfl
            rw [hxg]
            exact ⟨⟨rfl, hS9⟩, (HKK.out.trans hK8 (.inl rfl) (.inl rfl)).trans hK9 (.inl rfl) (.inl rfl)⟩
    | true :: r, HV =>
      obtain ⟨rfl, rfl, hr2⟩ : v2 = 1 ∧ e2 = 0 ∧ r = r2 := by
        have := HV.out
        rw [dbits_one] at this
        injection this with h1 h2
        injection h2 with h2 h3
        exact ⟨h1.symm, h2.symm, h3⟩
      subst hr2
      obtain ⟨a, ea, ra, hda⟩ : ∃ v e q, dbits 0 r 6 = (v, e, q) := ⟨_, _, _, rfl⟩
      obtain ⟨vb, eb, r2, hdb⟩ : ∃ v e q, dbits ea ra 6 = (v, e, q) := ⟨_, _, _, rfl⟩
      have HF := Lib.hid (fresh_any W g last 0 gr b win bytes r HS.out a ea vb eb ra r2 hda hdb)
      have hal := dbits_lt 0 r 6
      have hbl2 := dbits_lt ea ra 6
      rw [hda] at hal
      rw [hdb] at hbl2
      simp only [Nat.reducePow] at hal hbl2
      obtain ⟨n, hn⟩ : ∃ n, n = vb + 1 := ⟨_, rfl⟩
      rw [← hn] at HF
      generalize hE : (if eb = 0 ∧ 63 < a + vb then 8 else eb) = E1 at HF
      have HE := Lib.hid hE
      have HDA := Lib.hid hda
      have HDB := Lib.hid hdb
      have HBK := Lib.hid hbk
      have HN := Lib.hid hn
      clear hE hda hdb hbk he hn
      have hf0 : W.frozen? ⟨k, 0, none⟩ = false := by simp [World.frozen?, HBK.out]
      go_wp2_with fail
      refine HF.out.mono ?_
      rintro e w4 ⟨rfl, hS4, hK4⟩
      have hb4 := (hK4.block k (lt_of_block HBK.out) hg0 hg1).trans HBK.out
      have hz0 : w4.cell? ⟨k, 0, none⟩ = some (.int .i64 a0) := by simp [World.cell?, hb4]
      have hz1 : w4.cell? ⟨k, 1, none⟩ = some (.int .i64 n0) := by simp [World.cell?, hb4]
      have hz2 : w4.frozen? ⟨k, 0, none⟩ = false := by simp [World.frozen?, hb4]
      have hz3 : w4.frozen? ⟨k, 1, none⟩ = false := by simp [World.frozen?, hb4]
      have hb5 : ((w4.setCell ⟨k, 0, none⟩ (.int .i64 (a : Int))).setCell ⟨k, 1, none⟩ (.int .i64 (n : Int))).heap[k]? = some (.cells #[.int .i64 (a : Int), .int .i64 (n : Int)] 120 (0, 0)) := by simp [World.setCell, Array.getElem?_modify, hb4]
      have hkf : Kp k k w4 ((w4.setCell ⟨k, 0, none⟩ (.int .i64 (a : Int))).setCell ⟨k, 1, none⟩ (.int .i64 (n : Int))) := ((Kp.refl _ _ _).setCell' (p := ⟨k, 0, none⟩) (.inl rfl) _).setCell' (p := ⟨k, 1, none⟩) (.inl rfl) _
      have hS5 := hS4.off hkf (Ne.symm hg0) (Ne.symm hg0) (Ne.symm hg1) (Ne.symm hg1) (by rcases hbl with h | h; exact .inl h; right; omega)
      have hK5 : Kp g gr w ((w4.setCell ⟨k, 0, none⟩ (.int .i64 (a : Int))).setCell ⟨k, 1, none⟩ (.int .i64 (n : Int))) := (HK.out.trans hK4 (.inl rfl) (.inr (.inl rfl))).trans hkf (.inr (.inr (by omega))) (.inr (.inr (by omega)))
      have he5 := hS5.errc
      have HS5 := Lib.hid hS5
      have HK5 := Lib.hid hK5
      have HB5' := Lib.hid hb5
      clear hb4 hkf hS4 hK4 hS5 hK5 hb5 hd0 hd1 hf0
      by_cases hlen : r.length < 12
      · have hE3 : E1 = 3 := by
          have h0 := HE.out
          have h1 := HDA.out
          have h2 := HDB.out
          have hb3 : eb = 3 := by
            by_cases h6 : r.length < 6
            · rw [dbits_eof h6] at h1
              injection h1 with h1 h3
              injection h3 with h3 h4
              subst h3
              unfold dbits at h2
              rw [if_pos (by omega)] at h2
              injection h2 with h2 h5
              injection h5 with h5 h6
              exact h5.symm
            · rw [dbits_ok (by omega)] at h1
              injection h1 with h1 h3
              injection h3 with h3 h4
              subst h3 h4
              rw [dbits_eof (by rw [List.length_drop]; omega)] at h2
              injection h2 with h2 h5
              injection h5 with h5 h6
              exact h5.symm
          rw [← h0, hb3, if_neg (fun h => by cases h.1)]
        subst hE3
        go_wp2
        go_ret
        have hxg : xget1 last win (true :: true :: r) = .error 3 := by simp only [xget1]; rw [if_pos hlen]
        rw [hxg]
        exact ⟨⟨⟨0, rfl⟩, _, _, _, HS5.out⟩, HK5.out⟩
      · obtain ⟨ha, hvb, heb, hr2⟩ : a = bv (r.take 6) ∧ vb = bv ((r.drop 6).take 6) ∧ eb = 0 ∧ r2 = r.drop 12 := by
          have h1 := HDA.out
          have h2 := HDB.out
          rw [dbits_ok (by omega)] at h1
          injection h1 with h1 h3
          injection h3 with h3 h4
          subst h3 h4
          rw [dbits_ok (by rw [List.length_drop]; omega)] at h2
          injection h2 with h2 h5
          injection h5 with h5 h6
          exact ⟨h1.symm, h2.symm, h5.symm, by rw [← h6, List.drop_drop]⟩
        have HA := Lib.hid ha
        have HVB := Lib.hid hvb
        have HR2 := Lib.hid hr2
        clear ha hvb hr2
        by_cases h63 : 63 < a + vb
        · have hE8 : E1 = 8 := by rw [← HE.out, if_pos ⟨heb, h63⟩]
          subst hE8
          go_wp2
          go_ret
          have hxg : xget1 last win (true :: true :: r) = .error 8 := by simp only [xget1]; rw [if_neg hlen, ← HA.out, ← HVB.out, if_pos h63]
          rw [hxg]
          exact ⟨⟨⟨0, rfl⟩, _, _, _, HS5.out⟩, HK5.out⟩
        · have hE0 : E1 = 0 := by rw [← HE.out, if_neg (fun h => h63 h.2), heb]
          subst hE0
          obtain ⟨c, hc⟩ : ∃ c, c = 63 - a - vb := ⟨_, rfl⟩
          have hxg0 : xget1 last win (true :: true :: r) = xbody last win true a c r2 := by
            simp only [xget1]; rw [if_neg hlen, ← HA.out, ← HVB.out, if_neg h63, ← hc, HR2.out]
          have HXG := Lib.hid hxg0
          have hn1 : n + a + c = 64 := by have := HN.out; omega
          clear hxg0 hc HA HVB HR2 HDA HDB HE HN HF
          go_wp2_with fail
          generalize hw5 : (w4.setCell ⟨k, 0, none⟩ (.int .i64 (a : Int))).setCell ⟨k, 1, none⟩ (.int .i64 (n : Int)) = w5 at *
          have hS5 := HS5.out
          have hb5 := HB5'.out
          clear hw5 hz0 hz1 hz2 hz3
          have hk5l := lt_of_block hb5
          have hx1 : w5.cell? ⟨k, 0, none⟩ = some (.int .i64 (a : Int)) := by simp [World.cell?, hb5]
          have hx2 : w5.cell? ⟨k, 1, none⟩ = some (.int .i64 (n : Int)) := by simp [World.cell?, hb5]
          obtain ⟨v3, e3, r3, hv3⟩ : ∃ v3 e3 r3, dbits 0 r2 n = (v3, e3, r3) := ⟨_, _, _, rfl⟩
          have hv3l := dbits_lt 0 r2 n
          rw [hv3] at hv3l
          have HBb : Hid (∀ W', Nw w5 W' → Calls Tryz.prog 70 #[.pointer (some ⟨g, 0, none⟩), .int .i64 (n : Int)] W' fun e w' => e = .returned (.int .u64 (v3 : Int)) ∧ w'.cell? ⟨k, 0, none⟩ = some (.int .i64 (a : Int)) ∧ w'.cell? ⟨k, 1, none⟩ = some (.int .i64 (n : Int)) ∧ DecS w' g last win e3 gr b bytes r3 ∧ Kp g gr w5 w') := by
            refine Lib.hid fun W' hN => ?_
            have h := dbits_any W' g last 0 gr b win bytes r2 n (hS5.nw hN) (by omega)
            rw [hv3] at h
            refine h.mono ?_
            rintro e w' ⟨rfl, h2, h3⟩
            have hkp : Kp g gr w5 w' := (hN.kp g gr).trans h3 (.inl rfl) (.inr (.inl rfl))
            have hb := (hkp.block k hk5l hg0 hg1).trans hb5
            exact ⟨rfl, by simp [World.cell?, hb], by simp [World.cell?, hb], h2, hkp⟩
          have HT : Hid (∀ W' : World, W'.cell? ⟨k, 0, none⟩ = some (.int .i64 (a : Int)) → W'.cell? ⟨k, 1, none⟩ = some (.int .i64 (n : Int)) → Calls Tryz.prog 90 #[winV a (n : Int)] W' fun e w' => e = .returned (.int .i64 (c : Int)) ∧ w'.cell? ⟨k, 0, none⟩ = some (.int .i64 (a : Int)) ∧ w'.cell? ⟨k, 1, none⟩ = some (.int .i64 (n : Int)) ∧ Nw W' w') := by
            refine Lib.hid fun W' h1 h2 => ?_
            have h := trail_any W' a n (by omega)
            rw [show 64 - a - n = c from by omega] at h
            refine h.mono ?_
            rintro e w' ⟨rfl, h3⟩
            have hkl : k < W'.heap.size := by
              unfold World.cell? at h1
              cases hh : W'.heap[k]? with
              | none => rw [hh] at h1; cases h1
              | some o => exact lt_of_block hh
            exact ⟨rfl, cell_old h3.nw hkl h1, cell_old h3.nw hkl h2, h3.nw⟩
          obtain ⟨X, hX⟩ : ∃ X, X = v3 * 2 ^ c := ⟨_, rfl⟩
          have hXl : X < 18446744073709551616 := by
            have h1 : v3 * 2 ^ c < 2 ^ n * 2 ^ c := (Nat.mul_lt_mul_right (Nat.pow_pos (by omega))).2 hv3l
            rw [← Nat.pow_add] at h1
            have h2 : 2 ^ (n + c) ≤ 2 ^ 64 := Nat.pow_le_pow_right (by omega) (by omega)
            rw [pow64] at h2
            omega
          have hshl : IntKind.u64.wrap ((v3 : Int) * 2 ^ c) = (X : Int) := by
            rw [show (v3 : Int) * 2 ^ c = (X : Int) from by rw [hX]; simp, IntWalk.u64_in _ (by omega)]
          have HX := Lib.hid hX
          have HV3 := Lib.hid hv3
          have HB5 := Lib.hid hb5
          clear hX hv3 hv3l hb5 hS5
          go_region_held3 (fun w' => w'.cell? ⟨k, 0, none⟩ = some (.int .i64 (a : Int)) ∧ w'.cell? ⟨k, 1, none⟩ = some (.int .i64 (n : Int)))
            (first | exact ⟨hz1, hz2⟩ | exact ⟨hy1, hy2⟩ | exact ⟨hx1, hx2⟩)
            (first
              | (go_at_call 70; refine (HBb.out _ (by first | exact Nw.refl _ | exact Nw.drewO _)).mono ?_; rintro e w6 ⟨rfl, hy1, hy2, hS6, hK6⟩)
              | (go_at_call 90; refine (HT.out _ hy1 hy2).mono ?_; rintro e w7 ⟨rfl, hz1, hz2, hNt⟩))
          have hS7 := hS6.nw hNt
          have hK7 := hK6.nw' hNt
          clear hS6 hK6 hNt hy1 hy2 hx1 hx2 hz1 hz2 HBb HT
          have HB7 : Hid (w7.heap[k]? = some (.cells #[.int .i64 (a : Int), .int .i64 (n : Int)] 120 (0, 0))) := Lib.hid ((hK7.block k (lt_of_block HB5.out) hg0 hg1).trans HB5.out)
          obtain ⟨Y, hY⟩ : ∃ Y, Y = last ^^^ X := ⟨_, rfl⟩
          have hxor : bits .xor .u64 (last : Int) (X : Int) = (Y : Int) := by rw [hY]; exact u64_xor_nat last X hl hXl
          have hKK : Kp g gr w w7 := HK5.out.trans hK7 (.inl rfl) (.inr (.inl rfl))
          have HKK := Lib.hid hKK
          have HY := Lib.hid hY
          have HS7 := Lib.hid hS7
          clear hS7 hK7 hKK hY
          by_cases hlen : r2.length < n
          · obtain ⟨rfl, rfl, rfl⟩ : v3 = 0 ∧ e3 = 3 ∧ r2 = r3 := by
              have := HV3.out
              unfold dbits at this
              rw [if_neg (by simp), if_pos hlen] at this
              injection this with h1 h2
              injection h2 with h2 h3
              exact ⟨h1.symm, h2.symm, h3⟩
            have HCk3 := Lib.hid fun ok => check_err w7 g last 3 gr b win bytes r2 ok HS7.out (by omega)
            go_wp2_with (first | (go_at_call 89; refine (HCk3.out _).mono ?_; rintro e w8 ⟨rfl, hS8, hK8, he8⟩; obtain ⟨hl8, hf8⟩ := hS8.last; have HS8 := Lib.hid hS8; clear hS8))
            go_ret
            obtain ⟨hS9, hK9⟩ := HS8.out.setLast Y
            have hxg : xbody last win true a c r2 = .error 3 := by
              unfold xbody
              rw [show 64 - a - c = n from by omega, if_pos hlen]
            rw [HXG.out, hxg]
            exact ⟨⟨⟨Y, rfl⟩, _, _, _, hS9⟩, (HKK.out.trans hK8 (.inl rfl) (.inl rfl)).trans hK9 (.inl rfl) (.inl rfl)⟩
          · obtain ⟨hv3, rfl, hr3⟩ : v3 = bv (r2.take n) ∧ e3 = 0 ∧ r3 = r2.drop n := by
              have := HV3.out
              unfold dbits at this
              rw [if_neg (by simp), if_neg hlen] at this
              injection this with h1 h2
              injection h2 with h2 h3
              exact ⟨h1.symm, h2.symm, h3.symm⟩
            have HV4 := Lib.hid hv3
            have HR3 := Lib.hid hr3
            clear hv3 hr3
            by_cases hX0' : X = 0
            · have hX0 : ((X : Int) != 0) = false := by simp [hX0']
              have HX0 := Lib.hid hX0'
              clear hX0'
              have HCk3 := Lib.hid (check_false w7 g last gr b win bytes r3 HS7.out)
              go_wp2_with (first | (go_at_call 89; refine HCk3.out.mono ?_; rintro e w8 ⟨rfl, hS8, hK8, he8⟩; obtain ⟨hl8, hf8⟩ := hS8.last; have HS8 := Lib.hid hS8; clear hS8))
              go_ret
              obtain ⟨hS9, hK9⟩ := HS8.out.setLast Y
              have hxg : xbody last win true a c r2 = .error 8 := by
                unfold xbody
                rw [show 64 - a - c = n from by omega, if_neg hlen, ← HV4.out, ← HX.out, if_pos HX0.out]
              rw [HXG.out, hxg]
              exact ⟨⟨⟨Y, rfl⟩, _, _, _, hS9⟩, (HKK.out.trans hK8 (.inl rfl) (.inl rfl)).trans hK9 (.inl rfl) (.inl rfl)⟩
            · have hX0 : ((X : Int) != 0) = true := by simp; omega
              have HX0 := Lib.hid hX0'
              clear hX0'
              have HCk3 := Lib.hid (check_true w7 g last gr b win bytes r3 HS7.out)
              obtain ⟨p, hp⟩ : ∃ p, p = lz X := ⟨_, rfl⟩
              obtain ⟨q, hq⟩ : ∃ q, q = tz X := ⟨_, rfl⟩
              have hpq := lz_tz HX0.out hXl
              obtain ⟨m, hm⟩ : ∃ m, m = 64 - p - q := ⟨_, rfl⟩
              have hG7 : Gl w7 := HG.out.kp HKK.out hg2 hgr2
              have HWo : Hid (∀ W', Nw w7 W' → Calls Tryz.prog 91 #[.int .u64 (X : Int)] W' fun e w' => e = .returned (winV (p : Int) (m : Int)) ∧ Gr W' w') := Lib.hid fun W' hN => by
                have h := windowOf_any W' X (hG7.nw hN) HX0.out hXl
                rwa [← hp, ← hq, ← hm] at h
              have HG7 := Lib.hid hG7
              have HP := Lib.hid hp
              have HQq := Lib.hid hq
              have hm1 : m + p + q = 64 := by omega
              clear hG7 hp hq hm
              have hXn : 2 ≤ w7.heap.size := HG7.out.lt
              go_wp2_with (first | (go_at_call 89; refine HCk3.out.mono ?_; rintro e w8 ⟨rfl, hS8, hK8, he8⟩))
              have HS8 := Lib.hid hS8
              have hb8 : w8.heap[k]? = some (.cells #[.int .i64 (a : Int), .int .i64 (n : Int)] 120 (0, 0)) := (hK8.block k (lt_of_block HB7.out) hg0 hg0).trans HB7.out
              have hk8l := lt_of_block hb8
              have hd0 : ∀ p : Gp, (grow (w8.drewN p.n) p.os).cell? ⟨k, 0, none⟩ = some (.int .i64 (a : Int)) := cell_gr hk8l (by simp [World.cell?, hb8])
              have hd1 : ∀ p : Gp, (grow (w8.drewN p.n) p.os).cell? ⟨k, 1, none⟩ = some (.int .i64 (n : Int)) := cell_gr hk8l (by simp [World.cell?, hb8])
              have hsz8 := hK8.size
              have HK8 := Lib.hid hK8
              have HB8 := Lib.hid hb8
              have hgl8 := hS8.dec.lt
              have hwc : ∃ x y : Int, winOf win = winV x y ∧ w8.cell? ⟨g, 1, none⟩ = some (.int .i64 x) ∧ w8.cell? ⟨g, 2, none⟩ = some (.int .i64 y) := by
                obtain ⟨x, y, h1, hb⟩ := hS8.dec
                exact ⟨x, y, h1, by simp [World.cell?, hb], by simp [World.cell?, hb]⟩
              have hG8 : Gl w8 := HG7.out.kp hK8 hg2 hg2
              have HFi : Hid (∀ W', Nw w8 W' → Calls Tryz.prog 92 #[.pointer (some ⟨g, 0, none⟩), .int .u64 (X : Int)] W' fun e w' => e = .returned (.bool (decide (fits win X))) ∧ Gr W' w') := Lib.hid fun W' hN => by
                obtain ⟨x, y, h1, h2, h3⟩ := hwc
                exact fits_any W' g X win (hG8.nw hN) hw HX0.out hXl (Nat.lt_of_lt_of_le hgl8 hN.size) ⟨x, y, h1, cell_old hN hgl8 h2, cell_old hN hgl8 h3⟩
              have HW8 : Hid (∀ W', Nw w8 W' → Calls Tryz.prog 91 #[.int .u64 (X : Int)] W' fun e w' => e = .returned (winV (p : Int) (m : Int)) ∧ Gr W' w') := Lib.hid fun W' hN => by
                have h := windowOf_any W' X (hG8.nw hN) HX0.out hXl
                rw [← HP.out, ← HQq.out, show 64 - p - q = m from by omega] at h
                exact h
              clear hS8 hb8 hK8 hwc hG8 HWo
              by_cases hpa : p = a
              · by_cases hqc : q = c
                · have hmn : m = n := by omega
                  subst hpa hmn
                  have HQC := Lib.hid hqc
                  clear hqc
                  by_cases hfit : fits win X
                  · rw [decide_eq_true hfit] at HFi
                    have HFT := Lib.hid hfit
                    clear hfit
                    refine wp_region_gr_tail 13 (by kernel_rfl) (by kernel_rfl) ?_
                    simp only [List.take_succ_cons, List.take_zero, List.drop_succ_cons, List.drop_zero]
                    repeat (with_reducible refine wpQuiet_step ?_; intro K hK; go_simp; first | (refine hK _ ?_; clear hK K) | (apply Exists.intro; refine ⟨fun _ => ?_, hK _ ?_⟩; (first | (go_at_call 91; refine Calls.gr (HW8.out _ (Gr.nw ⟨_, rfl⟩))) | (go_at_call 92; refine Calls.gr (HFi.out _ (Gr.nw ⟨_, rfl⟩)))); clear hK K))
                    with_reducible refine wpQuiet_nil ?_
                    rintro _ ⟨pp, rfl⟩
                    generalize hw9 : grow (w8.drewN pp.n) pp.os = w9
                    have hn9 : Nw w8 w9 := by rw [← hw9]; exact Gr.nw ⟨pp, rfl⟩
                    clear hd0 hd1 hw9
                    have HCk4 := Lib.hid (check_false w9 g last gr b win bytes r3 (HS8.out.nw hn9))
                    have HN9 := Lib.hid hn9
                    go_wp2_with fail
                    refine HCk4.out.mono ?_
                    rintro e w10 ⟨rfl, hS10, hK10, he10⟩
                    obtain ⟨hl10, hf10⟩ := hS10.last
                    obtain ⟨x1, x2, hq1, hq2, hq3, hq4⟩ := hS10.winc
                    have hb10 := (hK10.block k (Nat.lt_of_lt_of_le hk8l HN9.out.size) hg0 hg0).trans ((HN9.out.block k hk8l).trans HB8.out)
                    have hk0 : w10.cell? ⟨k, 0, none⟩ = some (.int .i64 (p : Int)) := by simp [World.cell?, hb10]
                    have hk1 : w10.cell? ⟨k, 1, none⟩ = some (.int .i64 (m : Int)) := by simp [World.cell?, hb10]
                    have HS10 := Lib.hid hS10
                    have HK10 := Lib.hid hK10
                    clear hS10 hK10 hb10 hn9
                    go_wp2
                    go_ret
                    obtain ⟨hS11, hK11⟩ := HS10.out.setWin p m c hn1
                    obtain ⟨hS12, hK12⟩ := hS11.setLast Y
                    have hxg : xbody last win true p c r2 = .error 8 := by
                      unfold xbody
                      rw [show 64 - p - c = m from by omega, if_neg hlen, ← HV4.out, ← HX.out, if_neg HX0.out, ← HP.out, ← HQq.out, if_pos ⟨rfl, .inr (.inr HFT.out)⟩]
                    rw [HXG.out, hxg]
                    have hKf : Kp g gr w w10 := ((HKK.out.trans HK8.out (.inl rfl) (.inl rfl)).nw' HN9.out).trans HK10.out (.inl rfl) (.inl rfl)
                    exact ⟨⟨⟨Y, rfl⟩, _, _, _, hS12⟩, (hKf.trans hK11 (.inl rfl) (.inl rfl)).trans hK12 (.inl rfl) (.inl rfl)⟩
                  · rw [decide_eq_false hfit] at HFi
                    have HFT := Lib.hid hfit
                    clear hfit
                    refine wp_region_gr_tail 13 (by kernel_rfl) (by kernel_rfl) ?_
                    simp only [List.take_succ_cons, List.take_zero, List.drop_succ_cons, List.drop_zero]
                    repeat (with_reducible refine wpQuiet_step ?_; intro K hK; go_simp; first | (refine hK _ ?_; clear hK K) | (apply Exists.intro; refine ⟨fun _ => ?_, hK _ ?_⟩; (first | (go_at_call 91; refine Calls.gr (HW8.out _ (Gr.nw ⟨_, rfl⟩))) | (go_at_call 92; refine Calls.gr (HFi.out _ (Gr.nw ⟨_, rfl⟩)))); clear hK K))
                    with_reducible refine wpQuiet_nil ?_
                    rintro _ ⟨pp, rfl⟩
                    generalize hw9 : grow (w8.drewN pp.n) pp.os = w9
                    have hn9 : Nw w8 w9 := by rw [← hw9]; exact Gr.nw ⟨pp, rfl⟩
                    clear hd0 hd1 hw9
                    have HCk4 := Lib.hid (check_true w9 g last gr b win bytes r3 (HS8.out.nw hn9))
                    have HN9 := Lib.hid hn9
                    go_wp2_with fail
                    refine HCk4.out.mono ?_
                    rintro e w10 ⟨rfl, hS10, hK10, he10⟩
                    obtain ⟨hl10, hf10⟩ := hS10.last
                    obtain ⟨x1, x2, hq1, hq2, hq3, hq4⟩ := hS10.winc
                    have hb10 := (hK10.block k (Nat.lt_of_lt_of_le hk8l HN9.out.size) hg0 hg0).trans ((HN9.out.block k hk8l).trans HB8.out)
                    have hk0 : w10.cell? ⟨k, 0, none⟩ = some (.int .i64 (p : Int)) := by simp [World.cell?, hb10]
                    have hk1 : w10.cell? ⟨k, 1, none⟩ = some (.int .i64 (m : Int)) := by simp [World.cell?, hb10]
                    have HS10 := Lib.hid hS10
                    have HK10 := Lib.hid hK10
                    clear hS10 hK10 hb10 hn9
                    go_wp2
                    go_ret
                    obtain ⟨hS11, hK11⟩ := HS10.out.setWin p m c hn1
                    obtain ⟨hS12, hK12⟩ := hS11.setLast Y
                    have hxg : xbody last win true p c r2 = .ok (Y, some (p, c), r3) := by
                      unfold xbody
                      rw [show 64 - p - c = m from by omega, if_neg hlen, ← HV4.out, ← HX.out, if_neg HX0.out, ← HP.out, ← HQq.out, if_neg (fun h => by rcases h.2 with h | h | h; exact h rfl; exact h HQC.out; exact HFT.out h), if_pos rfl, ← HY.out, HR3.out]
                    rw [HXG.out, hxg]
                    have hKf : Kp g gr w w10 := ((HKK.out.trans HK8.out (.inl rfl) (.inl rfl)).nw' HN9.out).trans HK10.out (.inl rfl) (.inl rfl)
                    exact ⟨⟨rfl, hS12⟩, (hKf.trans hK11 (.inl rfl) (.inl rfl)).trans hK12 (.inl rfl) (.inl rfl)⟩
                · have hmn : ((n : Int) == (m : Int)) = false := by rw [beq_eq_false_iff_ne]; omega
                  subst hpa
                  have HQC := Lib.hid hqc
                  clear hqc HFi
                  refine wp_region_gr_tail 13 (by kernel_rfl) (by kernel_rfl) ?_
                  simp only [List.take_succ_cons, List.take_zero, List.drop_succ_cons, List.drop_zero]
                  repeat (with_reducible refine wpQuiet_step ?_; intro K hK; go_simp; first | (refine hK _ ?_; clear hK K) | (apply Exists.intro; refine ⟨fun _ => ?_, hK _ ?_⟩; (first | (go_at_call 91; refine Calls.gr (HW8.out _ (Gr.nw ⟨_, rfl⟩)))); clear hK K))
                  with_reducible refine wpQuiet_nil ?_
                  rintro _ ⟨pp, rfl⟩
                  generalize hw9 : grow (w8.drewN pp.n) pp.os = w9
                  have hn9 : Nw w8 w9 := by rw [← hw9]; exact Gr.nw ⟨pp, rfl⟩
                  clear hd0 hd1 hw9
                  have HCk4 := Lib.hid (check_false w9 g last gr b win bytes r3 (HS8.out.nw hn9))
                  have HN9 := Lib.hid hn9
                  go_wp2_with fail
                  refine HCk4.out.mono ?_
                  rintro e w10 ⟨rfl, hS10, hK10, he10⟩
                  obtain ⟨hl10, hf10⟩ := hS10.last
                  obtain ⟨x1, x2, hq1, hq2, hq3, hq4⟩ := hS10.winc
                  have hb10 := (hK10.block k (Nat.lt_of_lt_of_le hk8l HN9.out.size) hg0 hg0).trans ((HN9.out.block k hk8l).trans HB8.out)
                  have hk0 : w10.cell? ⟨k, 0, none⟩ = some (.int .i64 (p : Int)) := by simp [World.cell?, hb10]
                  have hk1 : w10.cell? ⟨k, 1, none⟩ = some (.int .i64 (n : Int)) := by simp [World.cell?, hb10]
                  have HS10 := Lib.hid hS10
                  have HK10 := Lib.hid hK10
                  clear hS10 hK10 hb10 hn9
                  go_wp2
                  go_ret
                  obtain ⟨hS11, hK11⟩ := HS10.out.setWin p n c hn1
                  obtain ⟨hS12, hK12⟩ := hS11.setLast Y
                  have hxg : xbody last win true p c r2 = .error 8 := by
                    unfold xbody
                    rw [show 64 - p - c = n from by omega, if_neg hlen, ← HV4.out, ← HX.out, if_neg HX0.out, ← HP.out, ← HQq.out, if_pos ⟨rfl, .inr (.inl HQC.out)⟩]
                  rw [HXG.out, hxg]
                  have hKf : Kp g gr w w10 := ((HKK.out.trans HK8.out (.inl rfl) (.inl rfl)).nw' HN9.out).trans HK10.out (.inl rfl) (.inl rfl)
                  exact ⟨⟨⟨Y, rfl⟩, _, _, _, hS12⟩, (hKf.trans hK11 (.inl rfl) (.inl rfl)).trans hK12 (.inl rfl) (.inl rfl)⟩
              · have hpn : ((a : Int) == (p : Int)) = false := by rw [beq_eq_false_iff_ne]; omega
                have HPA := Lib.hid hpa
                clear hpa HFi
                refine wp_region_gr_tail 13 (by kernel_rfl) (by kernel_rfl) ?_
                simp only [List.take_succ_cons, List.take_zero, List.drop_succ_cons, List.drop_zero]
                repeat (with_reducible refine wpQuiet_step ?_; intro K hK; go_simp; first | (refine hK _ ?_; clear hK K) | (apply Exists.intro; refine ⟨fun _ => ?_, hK _ ?_⟩; (first | (go_at_call 91; refine Calls.gr (HW8.out _ (Gr.nw ⟨_, rfl⟩)))); clear hK K))
                with_reducible refine wpQuiet_nil ?_
                rintro _ ⟨pp, rfl⟩
                generalize hw9 : grow (w8.drewN pp.n) pp.os = w9
                have hn9 : Nw w8 w9 := by rw [← hw9]; exact Gr.nw ⟨pp, rfl⟩
                clear hd0 hd1 hw9
                have HCk4 := Lib.hid (check_false w9 g last gr b win bytes r3 (HS8.out.nw hn9))
                have HN9 := Lib.hid hn9
                go_wp2_with fail
                refine HCk4.out.mono ?_
                rintro e w10 ⟨rfl, hS10, hK10, he10⟩
                obtain ⟨hl10, hf10⟩ := hS10.last
                obtain ⟨x1, x2, hq1, hq2, hq3, hq4⟩ := hS10.winc
                have hb10 := (hK10.block k (Nat.lt_of_lt_of_le hk8l HN9.out.size) hg0 hg0).trans ((HN9.out.block k hk8l).trans HB8.out)
                have hk0 : w10.cell? ⟨k, 0, none⟩ = some (.int .i64 (a : Int)) := by simp [World.cell?, hb10]
                have hk1 : w10.cell? ⟨k, 1, none⟩ = some (.int .i64 (n : Int)) := by simp [World.cell?, hb10]
                have HS10 := Lib.hid hS10
                have HK10 := Lib.hid hK10
                clear hS10 hK10 hb10 hn9
                go_wp2
                go_ret
                obtain ⟨hS11, hK11⟩ := HS10.out.setWin a n c hn1
                obtain ⟨hS12, hK12⟩ := hS11.setLast Y
                have hxg : xbody last win true a c r2 = .error 8 := by
                  unfold xbody
                  rw [show 64 - a - c = n from by omega, if_neg hlen, ← HV4.out, ← HX.out, if_neg HX0.out, ← HP.out, ← HQq.out, if_pos ⟨rfl, .inl HPA.out⟩]
                rw [HXG.out, hxg]
                have hKf : Kp g gr w w10 := ((HKK.out.trans HK8.out (.inl rfl) (.inl rfl)).nw' HN9.out).trans HK10.out (.inl rfl) (.inl rfl)
                exact ⟨⟨⟨Y, rfl⟩, _, _, _, hS12⟩, (hKf.trans hK11 (.inl rfl) (.inl rfl)).trans hK12 (.inl rfl) (.inl rfl)⟩
  · go_region_held3 (fun w' => w'.cell? ⟨g, 1, none⟩ = some (.int .i64 a0) ∧ w'.cell? ⟨g, 2, none⟩ = some (.int .i64 n0))
      (first | exact ⟨hx1, hx2⟩ | exact ⟨hc1, hc2⟩ | exact ⟨cell_past hgw2 hx1, cell_past hgw2 hx2⟩ | exact ⟨cell_past hgw1 hc1, cell_past hgw1 hc2⟩ | exact ⟨cell_skip hne1 (cell_skip hne1 hx1), cell_skip hne1 (cell_skip hne1 hx2)⟩ | (constructor <;> simp [*]))
      (first
        | (go_at_call 70; refine (HB2.out _ (by first | exact Nw.refl _ | exact Nw.drewO _ | exact Nw.alloc' (Nw.drewO _) _ | exact Nw.drewP (Nw.alloc' (Nw.refl _) _))).mono ?_; rintro e w2 ⟨rfl, hx1, hx2, hz, hgw2, hS2, hK2, hblk⟩))
    · refine ⟨rfl, w2.heap.size, rfl, hK2.size, heap_alloc_new w2 _, hS2.nw ((Nw.refl w2).alloc' _), hK2.alloc' _⟩
    · have hbk := hblk (by simp)
      rw [show ((w1.alloc (.cells #[.int .i64 0, .int .i64 0] 120)).drew.heap[w1.heap.size]?) = some (.cells #[.int .i64 0, .int .i64 0] 120) from heap_alloc_new w1 _] at hbk
      have hkf : Kp w1.heap.size w1.heap.size w2 ((w2.setCell ⟨w1.heap.size, 0, none⟩ (.int .i64 a0)).setCell ⟨w1.heap.size, 1, none⟩ (.int .i64 n0)) := ((Kp.refl _ _ _).setCell' (p := ⟨w1.heap.size, 0, none⟩) (.inl rfl) _).setCell' (p := ⟨w1.heap.size, 1, none⟩) (.inl rfl) _
      refine ⟨rfl, w1.heap.size, rfl, Nat.le_refl _, by simp [World.setCell, Array.getElem?_modify, hbk], hS2.off hkf (by omega) (by omega) (by omega) (by omega) (by rcases hbl with h | h; exact .inl h; right; omega), hK2.trans hkf (.inr (.inr (Nat.le_refl _))) (.inr (.inr (Nat.le_refl _)))⟩
end Go.Proofs.YtjepaneniodbpaaGreatDoor
