/- tsblockref16.Same on sections that hold the same bytes. -/
import Derived.Test.YtobfpajapgakdaaGreatDoorM14
namespace Go.Proofs.YtobfpajapgakdaaGreatDoor
open Go Go.RowKit Go.Lib Go.Sort Go.Shelf

/-- a value of four byte slices that read as L 0 .. L 3 -/
def FourV (W : World) (L : Nat → List Nat) (v : Value) : Prop :=
  ∃ f : Nat → Value, v = .agg #[f 0, f 1, f 2, f 3] ∧ ∀ k < 4, ∃ b A c, f k = .slice A (L k).length c ∧ Rd W b A (cN .u8 (L k))
theorem FourV.nw {W W' : World} {L : Nat → List Nat} {v : Value} (h : FourV W L v) (hN : Nw W W') : FourV W' L v := by
  obtain ⟨f, hv, hf⟩ := h
  exact ⟨f, hv, fun k hk => let ⟨b, A, c, h1, h2⟩ := hf k hk; ⟨b, A, c, h1, h2.nw hN⟩⟩
theorem four_conv {W : World} {L : Nat → List Nat} {f : Nat → Value} (hf : ∀ k < 4, ∃ b A c, f k = .slice A (L k).length c ∧ Rd W b A (cN .u8 (L k))) {k : Nat} (hk : k < 4) :
    (convert 25 9 (f k)).run Tryz.prog W = .ok (.string (strOfNums ((L k).map fun x : Nat => (x : Int)))) W := by
  obtain ⟨b, A, c, h1, h2⟩ := hf k hk
  rw [h1]
  exact (bytesIn_of h2).convert (by simp) c _ 5 _ Tryz.underlying25 Tryz.underlying5 Tryz.underlying9
def secL (b : List BVal) : Nat → List Nat
  | 0 => sec0 b
  | 1 => sec1 b
  | 2 => datS b
  | _ => sec3 b
theorem SecV.four {W : World} {b : List BVal} {v : Value} (h : SecV W b v) : FourV W (secL b) v := by
  obtain ⟨b0, A0, c0, b1, A1, c1, b2, A2, c2, b3, A3, c3, rfl, h0, h1, h2, h3⟩ := h
  refine ⟨fun | 0 => .slice A0 (sec0 b).length c0 | 1 => .slice A1 (sec1 b).length c1 | 2 => .slice A2 (datS b).length c2 | _ => .slice A3 (sec3 b).length c3, rfl, fun k hk => ?_⟩
  rcases (show k = 0 ∨ k = 1 ∨ k = 2 ∨ k = 3 by omega) with rfl | rfl | rfl | rfl
  · exact ⟨b0, A0, c0, rfl, h0⟩
  · exact ⟨b1, A1, c1, rfl, h1⟩
  · exact ⟨b2, A2, c2, rfl, h2⟩
  · exact ⟨b3, A3, c3, rfl, h3⟩
theorem four_nil (W : World) : FourV W (fun _ => []) nil4 := ⟨fun _ => .slice none 0 0, rfl, fun _ _ => ⟨0, none, 0, rfl, Rd.nil _ _ _⟩⟩

set_option maxRecDepth 100000 in
theorem Same4_any (w : World) (L : Nat → List Nat) (u v : Value) (hu : FourV w L u) (hv : FourV w L v) :
    Calls Tryz.prog 16 #[u, v] w fun e w' => e = .returned (.bool true) ∧ Nw w w' := by
  obtain ⟨f, rfl, hf⟩ := hu
  obtain ⟨g, rfl, hg⟩ := hv
  have HFV : Hid (∀ W, Nw w W → ∀ k < 4, (convert 25 9 (f k)).run Tryz.prog W = .ok (.string (strOfNums ((L k).map fun x : Nat => (x : Int)))) W) :=
    Lib.hid fun W hN k hk => four_conv (fun k hk => let ⟨b, A, c, h1, h2⟩ := hf k hk; ⟨b, A, c, h1, h2.nw hN⟩) hk
  have HGV : Hid (∀ W, Nw w W → ∀ k < 4, (convert 25 9 (g k)).run Tryz.prog W = .ok (.string (strOfNums ((L k).map fun x : Nat => (x : Int)))) W) :=
    Lib.hid fun W hN k hk => four_conv (fun k hk => let ⟨b, A, c, h1, h2⟩ := hg k hk; ⟨b, A, c, h1, h2.nw hN⟩) hk
  obtain ⟨S, hS⟩ : ∃ S : Nat → ByteArray, ∀ k, strOfNums ((L k).map fun x : Nat => (x : Int)) = S k := ⟨_, fun _ => rfl⟩
  simp only [hS] at HFV HGV
  clear hf hg hS
  generalize h0 : f 0 = f0 at *
  generalize h1 : f 1 = f1 at *
  generalize h2 : f 2 = f2 at *
  generalize h3 : f 3 = f3 at *
  generalize k0 : g 0 = g0 at *
  generalize k1 : g 1 = g1 at *
  generalize k2 : g 2 = g2 at *
  generalize k3 : g 3 = g3 at *
  have hn1 : Nw w ((w.alloc (.cells #[f0, f1, f2, f3] 33)).alloc (.cells #[g0, g1, g2, g3] 33)) := ((Nw.refl w).alloc' _).alloc' _
  have hb1 := heap_alloc_new (w.alloc (.cells #[f0, f1, f2, f3] 33)) (.cells #[g0, g1, g2, g3] 33)
  have hb0 : ((w.alloc (.cells #[f0, f1, f2, f3] 33)).alloc (.cells #[g0, g1, g2, g3] 33)).heap[w.heap.size]? = some (.cells #[f0, f1, f2, f3] 33 (0, 0)) := (heap_alloc_old _ _ (by simp)).trans (heap_alloc_new w _)
  rw [World.size_alloc] at hb1
  have HN1 := Lib.hid hn1
  have HB0 := Lib.hid hb0
  have HB1 := Lib.hid hb1
  clear hn1 hb0 hb1
  go_enter Tryz.func16, Tryz.ntmps16
  go_wp2_with fail
  generalize (w.alloc (.cells #[f0, f1, f2, f3] 33)).alloc (.cells #[g0, g1, g2, g3] 33) = w1 at *
  go_loopw [5] (fun i wr => ∃ k : Nat, k ≤ 4 ∧ i = .int .i64 (k : Int) ∧ Hid (Nw w1 wr)) (fun i _ => 4 - (intOf i).toNat)
  case atStart => exact ⟨0, by omega, rfl, Lib.hid (Nw.refl w1)⟩
  case round =>
    obtain ⟨k, hk, rfl, HN⟩ := hrel
    have HKB := Lib.hid (show ∀ W, Nw w1 W → W.heap[w.heap.size]? = some (.cells #[f0, f1, f2, f3] 33 (0, 0)) ∧ W.heap[w.heap.size + 1]? = some (.cells #[g0, g1, g2, g3] 33 (0, 0)) from fun W h => ⟨(h.block _ (lt_of_block HB0.out)).trans HB0.out, (h.block _ (lt_of_block HB1.out)).trans HB1.out⟩)
    obtain ⟨z0, z1⟩ := HKB.out wr HN.out
    have HFW := Lib.hid fun W (h : Nw wr W) => HFV.out W ((HN1.out.trans HN.out).trans h)
    have HGW := Lib.hid fun W (h : Nw wr W) => HGV.out W ((HN1.out.trans HN.out).trans h)
    rcases (show k = 0 ∨ k = 1 ∨ k = 2 ∨ k = 3 ∨ k = 4 by omega) with rfl | rfl | rfl | rfl | rfl
    · have p0 : wr.cell? ⟨w.heap.size, 0, none⟩ = some f0 := cell_at (k := 0) z0
      have p1 : wr.cell? ⟨w.heap.size + 1, 0, none⟩ = some g0 := cell_at (k := 0) z1
      have q0 := HFW.out wr (Nw.refl wr) 0 (by omega)
      have q1 := HGW.out wr (Nw.refl wr) 0 (by omega)
      have r0 := HFW.out wr.drew (Nw.drewN wr 1) 0 (by omega)
      have r1 := HGW.out wr.drew (Nw.drewN wr 1) 0 (by omega)
      rw [h0] at q0 r0
      rw [k0] at q1 r1
      clear z0 z1
      go_wp2_with fail
      go_region
      all_goals go_wp2_with fail
      go_roundw
      case rel => exact ⟨1, by omega, rfl, Lib.hid (HN.out.trans (Nw.drewN wr 1))⟩
      case measure => simp [intOf]
    · have p0 : wr.cell? ⟨w.heap.size, 1, none⟩ = some f1 := cell_at (k := 1) z0
      have p1 : wr.cell? ⟨w.heap.size + 1, 1, none⟩ = some g1 := cell_at (k := 1) z1
      have q0 := HFW.out wr (Nw.refl wr) 1 (by omega)
      have q1 := HGW.out wr (Nw.refl wr) 1 (by omega)
      have r0 := HFW.out wr.drew (Nw.drewN wr 1) 1 (by omega)
      have r1 := HGW.out wr.drew (Nw.drewN wr 1) 1 (by omega)
      rw [h1] at q0 r0
      rw [k1] at q1 r1
      clear z0 z1
      go_wp2_with fail
      go_region
      all_goals go_wp2_with fail
      go_roundw
      case rel => exact ⟨2, by omega, rfl, Lib.hid (HN.out.trans (Nw.drewN wr 1))⟩
      case measure => simp [intOf]
    · have p0 : wr.cell? ⟨w.heap.size, 2, none⟩ = some f2 := cell_at (k := 2) z0
      have p1 : wr.cell? ⟨w.heap.size + 1, 2, none⟩ = some g2 := cell_at (k := 2) z1
      have q0 := HFW.out wr (Nw.refl wr) 2 (by omega)
      have q1 := HGW.out wr (Nw.refl wr) 2 (by omega)
      have r0 := HFW.out wr.drew (Nw.drewN wr 1) 2 (by omega)
      have r1 := HGW.out wr.drew (Nw.drewN wr 1) 2 (by omega)
      rw [h2] at q0 r0
      rw [k2] at q1 r1
      clear z0 z1
      go_wp2_with fail
      go_region
      all_goals go_wp2_with fail
      go_roundw
      case rel => exact ⟨3, by omega, rfl, Lib.hid (HN.out.trans (Nw.drewN wr 1))⟩
      case measure => simp [intOf]
    · have p0 : wr.cell? ⟨w.heap.size, 3, none⟩ = some f3 := cell_at (k := 3) z0
      have p1 : wr.cell? ⟨w.heap.size + 1, 3, none⟩ = some g3 := cell_at (k := 3) z1
      have q0 := HFW.out wr (Nw.refl wr) 3 (by omega)
      have q1 := HGW.out wr (Nw.refl wr) 3 (by omega)
      have r0 := HFW.out wr.drew (Nw.drewN wr 1) 3 (by omega)
      have r1 := HGW.out wr.drew (Nw.drewN wr 1) 3 (by omega)
      rw [h3] at q0 r0
      rw [k3] at q1 r1
      clear z0 z1
      go_wp2_with fail
      go_region
      all_goals go_wp2_with fail
      go_roundw
      case rel => exact ⟨4, by omega, rfl, Lib.hid (HN.out.trans (Nw.drewN wr 1))⟩
      case measure => simp [intOf]
    · go_wp2_with fail
      go_ret
      exact ⟨rfl, HN1.out.trans HN.out⟩
end Go.Proofs.YtobfpajapgakdaaGreatDoor
