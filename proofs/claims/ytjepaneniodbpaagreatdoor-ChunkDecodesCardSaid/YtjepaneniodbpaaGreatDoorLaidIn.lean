/- From the row's condition on the two listed variables to what the walks ask (Gl); a slice of samples that came in; the door's heap. -/
import Derived.Test.YtjepaneniodbpaaGreatDoorLawIn
import Derived.Test.YtjepaneniodbpaaGreatDoorGl
import Derived.Test.YtjepaneniodbpaaGreatDoorSmp
import Derived.LaidMore
import Derived.LaidOnce
import Derived.Lib.LaidTab
import Derived.Deep.Strs
import Derived.Deep.SlicePairs
namespace Go.Proofs.YtjepaneniodbpaaGreatDoor
open Go Go.RowKit Go.ChangeShapes Go.WideShapes Go.ChangeAt Go.Deep

def laid2 : List (String × DataW Unit) := [("math/bits.deBruijn64tab", Rows.laid_math_bits_deBruijn64tab), ("tsblock/times.forms", Rows.laid_tsblock_times_forms)]
theorem own : ownKnob Tryz.prog.godebug = none := by kernel_rfl
theorem gDeb : Tryz.prog.globalNamed "math/bits.deBruijn64tab" = some 1 := by kernel_rfl
theorem gForms : Tryz.prog.globalNamed "tsblock/times.forms" = some 0 := by kernel_rfl
theorem tDeb : (Tryz.prog.globals[1]?).map (·.type) = some 169 := by kernel_rfl
theorem tForms : (Tryz.prog.globals[0]?).map (·.type) = some 95 := by kernel_rfl

theorem at_of_cut {cs : List Value} {a n b : Nat} {v : Value} (h : (((cs.drop a).take n).drop b).take 1 = [v]) : cs[a + b]? = some v := by
  have h0 := congrArg (fun l : List Value => l[0]?) h
  simp only [List.getElem?_cons_zero, List.getElem?_take, List.getElem?_drop, Nat.add_zero] at h0
  simp only [show (0 : Nat) < 1 by omega, if_true] at h0
  split at h0
  · exact h0
  · cases h0

theorem gl_of_laid {W : World} (h : laidMetH Tryz.prog laid2 W) : Gl W := by
  rw [MakeChecks.laidMetH_plain _ _ _ (by kernel_rfl)] at h
  have hd : Rows.laid_math_bits_deBruijn64tab = (Lib.tabData .u8 (deB.map fun x : Nat => (x : Int)) : DataW Unit) := rfl
  have hT : Lib.TabIs Tryz.prog W "math/bits.deBruijn64tab" .u8 (deB.map fun x : Nat => (x : Int)) := by
    unfold laid2 at h
    rw [hd] at h
    exact Lib.tabIs_of_head gDeb tDeb Tryz.underlying169 Tryz.underlying5 (by kernel_rfl) (by kernel_rfl) h
  obtain ⟨ps, ⟨g0, t0, cs0, f0, p0, q0, hg0, ht0, hv0, hd0, ⟨g1, t1, cs1, f1, p1, q1, hg1, ht1, hv1, hd1, _, _⟩, _⟩, _, _⟩ := h
  obtain rfl := Option.some.inj (gForms.symm.trans hg1)
  obtain rfl := Option.some.inj (tForms.symm.trans ht1)
  have c84 : Tryz.prog.cellsOf 95 = 15 := by kernel_rfl
  have c83 : Tryz.prog.cellsOf 94 = 3 := by kernel_rfl
  have cU : Tryz.prog.cellsOf 25 = 1 := by kernel_rfl
  have cI' : Tryz.prog.cellsOf 3 = 1 := by kernel_rfl
  obtain ⟨xs, m1, rfl, hx1, hlen, hn5, hel⟩ := DataW.trod_array Tryz.underlying95 hd1
  simp only [Prod.mk.injEq] at hx1
  have each : ∀ i, i < 5 → ∀ d0 d1 d2 : Int, (xs[i]?).map (·.1) = some (.agg [.lit (.int .u64 d0), .lit (.int .i64 d1), .lit (.int .i64 d2)]) →
      cs1.toList[i * 3]? = some (.int .u64 d0) ∧ cs1.toList[i * 3 + 1]? = some (.int .i64 d1) ∧ cs1.toList[i * 3 + 2]? = some (.int .i64 d2) := by
    intro i hi d0 d1 d2 hxi
    have h0 := hel i hi
    rw [c83] at h0
    rw [← h0] at hxi
    obtain ⟨x, hx, hxd⟩ := Option.map_eq_some_iff.1 hxi
    obtain ⟨y0, y1, y2, m, rfl, _, e0, e1, e2⟩ := trod_struct3 Tryz.underlying94 hx
    simp only [DataW.agg.injEq, List.cons.injEq, and_true] at hxd
    obtain ⟨hy0, hy1, hy2⟩ := hxd
    rw [cU] at e0
    rw [cI'] at e1 e2
    obtain ⟨k0, a0, b0, _⟩ := DataW.trod_int Tryz.underlying25 e0
    obtain ⟨k1, a1, b1, _⟩ := DataW.trod_int Tryz.underlying3 e1
    obtain ⟨k2, a2, b2, _⟩ := DataW.trod_int Tryz.underlying3 e2
    rw [b0] at hy0
    rw [b1] at hy1
    rw [b2] at hy2
    simp only [DataW.lit.injEq, Lit.int.injEq, true_and] at hy0 hy1 hy2
    subst hy0 hy1 hy2
    exact ⟨at_of_cut (b := 0) a0, at_of_cut (b := 1) a1, at_of_cut (b := 2) a2⟩
  have hxm : xs.map (·.1) = [.agg [.lit (.int .u64 0), .lit (.int .i64 1), .lit (.int .i64 0)], .agg [.lit (.int .u64 2), .lit (.int .i64 2), .lit (.int .i64 7)], .agg [.lit (.int .u64 6), .lit (.int .i64 3), .lit (.int .i64 12)], .agg [.lit (.int .u64 14), .lit (.int .i64 4), .lit (.int .i64 32)], .agg [.lit (.int .u64 15), .lit (.int .i64 4), .lit (.int .i64 64)]] := by
    have := hx1.1
    unfold Rows.laid_tsblock_times_forms at this
    simp only [DataW.agg.injEq] at this
    exact this.symm
  have hat : ∀ i : Nat, (xs[i]?).map (·.1) = (xs.map (·.1))[i]? := fun i => (List.getElem?_map ..).symm
  obtain ⟨a0, a1, a2⟩ := each 0 (by omega) 0 1 0 (by rw [hat, hxm]; rfl)
  obtain ⟨a3, a4, a5⟩ := each 1 (by omega) 2 2 7 (by rw [hat, hxm]; rfl)
  obtain ⟨a6, a7, a8⟩ := each 2 (by omega) 6 3 12 (by rw [hat, hxm]; rfl)
  obtain ⟨a9, a10, a11⟩ := each 3 (by omega) 14 4 32 (by rw [hat, hxm]; rfl)
  obtain ⟨a12, a13, a14⟩ := each 4 (by omega) 15 4 64 (by rw [hat, hxm]; rfl)
  have hcells : cs1.toList = formCells := by
    rw [c84] at hlen
    refine List.ext_getElem (by rw [hlen]; rfl) fun j hj hj' => ?_
    have h1 := List.getElem?_eq_getElem hj
    have h2 := List.getElem?_eq_getElem hj'
    have : cs1.toList[j]? = formCells[j]? := by
      have : j = 0 ∨ j = 1 ∨ j = 2 ∨ j = 3 ∨ j = 4 ∨ j = 5 ∨ j = 6 ∨ j = 7 ∨ j = 8 ∨ j = 9 ∨ j = 10 ∨ j = 11 ∨ j = 12 ∨ j = 13 ∨ j = 14 := by omega
      rcases this with rfl | rfl | rfl | rfl | rfl | rfl | rfl | rfl | rfl | rfl | rfl | rfl | rfl | rfl | rfl
      all_goals first | exact a0 | exact a1 | exact a2 | exact a3 | exact a4 | exact a5 | exact a6 | exact a7 | exact a8 | exact a9 | exact a10 | exact a11 | exact a12 | exact a13 | exact a14
    rw [h1, h2] at this
    exact Option.some.inj this
  have hF : ∀ (k : Nat) v, formCells[k]? = some v → W.cell? ⟨0, k, none⟩ = some v := by
    intro k v hv
    have := World.var?_cell gForms hv1 k
    rw [this, ← hcells] at *
    simpa using hv
  have hD : ∀ (k : Nat) v, (cN .u8 deB)[k]? = some v → W.cell? ⟨1, k, none⟩ = some v := by
    intro k v hv
    obtain ⟨hk, hv⟩ := List.getElem?_eq_some_iff.1 hv
    have hk' : k < (deB.map fun x : Nat => (x : Int)).length := by simpa [cN] using hk
    rw [hT.cell gDeb k hk', ← hv]
    simp [cN, List.getD]
    rw [List.getElem?_eq_getElem (by simpa using hk')]
    rfl
  have hl0 := hF 0 _ rfl
  have hl1 := hD 0 _ rfl
  have lt : ∀ {g : Nat} {v : Value}, W.cell? ⟨g, 0, none⟩ = some v → g < W.heap.size := by
    intro g v hv
    simp only [World.cell?] at hv
    cases hb : W.heap[g]? with
    | none => rw [hb] at hv; simp at hv
    | some o => exact (Array.getElem?_eq_some_iff.1 hb).1
  exact ⟨hF, hD, by have := lt hl0; have := lt hl1; omega⟩

/-- a slice of samples that came in, read at an address -/
structure InSmp (w : World) (b : Nat) (A : Option Addr) (n c : Nat) (zs : List (Int × Nat)) : Prop where
  rd : Rd w b A (cS zs)
  len : n = zs.length
  wf : InS zs
  nil : A = none → c = 0
  cap : n ≤ c
  lt : zs ≠ [] → b < w.heap.size
  max : c ≤ 9223372036854775807

theorem lt_of_cell {w : World} {b o : Nat} {v : Value} (h : w.cell? ⟨b, o, none⟩ = some v) : b < w.heap.size := by
  simp only [World.cell?] at h
  cases hb : w.heap[b]? with
  | none => rw [hb] at h; simp at h
  | some o => exact (Array.getElem?_eq_some_iff.1 hb).1
theorem cS_of (zs : List (Int × Nat)) (j : Nat) (u : Value) (h : (cS zs)[j]? = some u) : ∃ (hj : j / 2 < zs.length), u = if j % 2 = 0 then .int .i64 zs[j / 2].1 else .int .u64 (zs[j / 2].2 : Int) := by
  have hl : j < (cS zs).length := (List.getElem?_eq_some_iff.1 h).1
  rw [cS_length] at hl
  have hj : j / 2 < zs.length := by omega
  obtain ⟨h1, h2⟩ := cS_at zs (j / 2) hj
  refine ⟨hj, ?_⟩
  split
  · rename_i e; rw [show j / 2 * 2 = j by omega, h] at h1; exact Option.some.inj h1
  · rename_i e; rw [show j / 2 * 2 + 1 = j by omega, h] at h2; exact Option.some.inj h2
theorem InSmp.of_trod {H : Type} {enc : TypeId × Value → H} {W : World} {base : Nat} {sp : Nat → Bool} {held : Bool} {fuel : Nat} {a : Option Addr} {len cap : Nat} {x : DataW H × List MemPlace}
    (h : DataW.trod enc Tryz.prog W base sp held fuel 22 [.slice a len cap] = some x) : ∃ b zs, InSmp W b a len cap zs := by
  have c39 : Tryz.prog.cellsOf 27 = 2 := by kernel_rfl
  have cT : Tryz.prog.cellsOf 2 = 1 := by kernel_rfl
  have cV : Tryz.prog.cellsOf 25 = 1 := by kernel_rfl
  rcases open_slice_pairs Tryz.underlying22 Tryz.underlying27 c39 rfl rfl cT cV h with ⟨hcs, _⟩ | ⟨q, l, c, m, f, V0, V1, D0, D1, P0, P1, hcs, _, hl, hm, hmm, _, hx⟩
  · injection hcs with hcs _
    injection hcs with h1 h2 h3
    subst h1 h2 h3
    exact ⟨0, [], Rd.nil _ _ _, rfl, (fun z hz => by cases hz), fun _ => rfl, Nat.le_refl _, fun h => absurd rfl h, by omega⟩
  · injection hcs with hcs _
    injection hcs with h1 h2 h3
    subst h1 h2 h3
    have hlm : len ≤ m := by rw [hmm]; split <;> omega
    have each : ∀ i, i < len → ∃ z : Int × Nat, W.cell? (q.add (i * 2)) = some (.int .i64 z.1) ∧ W.cell? (q.add (i * 2 + 1)) = some (.int .u64 (z.2 : Int)) ∧ I6 z.1 ∧ z.2 < 18446744073709551616 := by
      intro i hi
      obtain ⟨g0, g1, t0, t1⟩ := hx i (by omega)
      obtain ⟨k0, a0, _, w0⟩ := DataW.trod_int Tryz.underlying2 t0
      obtain ⟨k1, a1, _, w1⟩ := DataW.trod_int Tryz.underlying25 t1
      injection a0 with a0 _
      injection a1 with a1 _
      rw [a0] at g0
      rw [a1] at g1
      have b0 := bounds_i64 w0
      have b1 := bounds_u64 w1
      have e1 : ((k1.toNat : Nat) : Int) = k1 := Int.toNat_of_nonneg b1.1
      have e2 : k1.toNat < 18446744073709551616 := by omega
      exact ⟨(k0, k1.toNat), g0, g1.trans (by rw [e1]), b0, e2⟩
    by_cases h0 : len = 0
    · subst h0
      exact ⟨q.block, [], Rd.nil _ _ _, rfl, (fun z hz => by cases hz), (fun e => by cases e), hl, fun h => absurd rfl h, by unfold maxLen at hm; exact hm⟩
    · obtain ⟨b, off, spot⟩ := q
      have hspot : spot = none := by
        obtain ⟨z, hz, _⟩ := each 0 (by omega)
        simpa [Addr.add] using World.cell?_spot hz
      subst hspot
      have hch : ∃ F : Nat → Int × Nat, ∀ i, i < len → W.cell? ((⟨b, off, none⟩ : Addr).add (i * 2)) = some (.int .i64 (F i).1) ∧ W.cell? ((⟨b, off, none⟩ : Addr).add (i * 2 + 1)) = some (.int .u64 ((F i).2 : Int)) ∧ I6 (F i).1 ∧ (F i).2 < 18446744073709551616 := by
        refine ⟨fun i => if hi : i < len then (each i hi).choose else (0, 0), fun i hi => ?_⟩
        simp only [hi, dif_pos]
        exact (each i hi).choose_spec
      obtain ⟨F, hF⟩ := hch
      have hlt := lt_of_cell (by have := (hF 0 (by omega)).1; rwa [add_lit'] at this)
      refine ⟨b, (List.range len).map F, ?_, by simp, ?_, (fun e => by cases e), hl, fun _ => hlt, by unfold maxLen at hm; exact hm⟩
      · refine .inr ⟨off, rfl, hlt, fun j u hu => ?_⟩
        obtain ⟨hj, rfl⟩ := cS_of _ _ _ hu
        rw [List.length_map, List.length_range] at hj
        obtain ⟨f1, f2, _⟩ := hF (j / 2) hj
        rw [add_lit'] at f1 f2
        simp only [List.getElem_map, List.getElem_range]
        split
        · rename_i e; rw [show j / 2 * 2 = j by omega] at f1; exact f1
        · rename_i e; rw [show j / 2 * 2 + 1 = j by omega] at f2; exact f2
      · intro z hz
        obtain ⟨i, hi, rfl⟩ := List.mem_map.1 hz
        exact (hF i (List.mem_range.1 hi)).2.2
/-- the door's own heap meets the condition -/
theorem door_met (os : Os) (args : Array Value) : laidMetH Tryz.prog laid2 ((World.doorLaid Tryz.prog 400 os).forCall (fun _ _ => 0) ⟨#[], args, []⟩).memory :=
  laidMetH_of_parts3 (fuel := 8) (laidMet_of_run' 8 (by kernel_rfl) (by kernel_rfl)) (by kernel_rfl) (by kernel_rfl)
end Go.Proofs.YtjepaneniodbpaaGreatDoor
