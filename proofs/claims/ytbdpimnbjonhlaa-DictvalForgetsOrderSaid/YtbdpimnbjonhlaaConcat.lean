/- slices.Grow and slices.Concat at words: two lists joined. -/
import Derived.Test.YtbdpimnbjonhlaaChecked
import Derived.Test.YtbdpimnbjonhlaaClone
import Derived.Test.YtbdpimnbjonhlaaShelfG
import Derived.Shelf.Spec.SlicesGrow
namespace Go.Proofs.Ytbdpimnbjonhlaa
open Go Go.RowKit

theorem Grow_nil (w : World) (n : Nat) (hm : n ≤ 1000000000000) :
    Calls Try.prog 46 #[.slice none 0 0, .int .i64 (n : Int)] w fun e w' => ∃ b' A' c', e = .returned (.slice A' 0 c') ∧ Ow w' b' 25 1 A' 0 c' [] ∧ w.heap.size ≤ b' ∧ Nw w w' := by
  by_cases h0 : n = 0
  · subst h0
    refine (Any8.slices_Grow_room Try.growU none 0 0 0 w (by omega) (by omega) (by omega) (by omega)).mono ?_
    rintro e w' ⟨rfl, rfl⟩
    exact ⟨w'.heap.size, none, 0, rfl, Ow.nil _ _ _ _, Nat.le_refl _, Nw.refl _⟩
  · obtain ⟨i0, hi, hz0, hz1, hz2⟩ := E_u64.info
    refine (Any8.slices_Grow_grow Try.growU i0 (.int .u64 0) hi hz0 (by omega) none 0 0 n [] w (by omega) (by omega) (by rw [hz2]; omega) (by omega) (by simp) (fun _ => rfl) (by intro a h; cases h)).mono ?_
    rintro e w' ⟨rfl, rfl⟩
    refine ⟨w.heap.size, _, _, rfl, .inr ⟨rfl, by simp, rfl, .inr ⟨w.heap.size, _, _, rfl, Nat.zero_le _, heap_alloc_new _ _, by omega, ?_, ?_, by simp⟩⟩, Nat.le_refl _, (Nw.drewN' (Nw.refl w) 1).alloc' _⟩
    · exact grownCap_le_maxLen w (0 + n) 0 _ (by unfold maxLen; omega)
    · have hge := grownCap_ge w (0 + n) 0 (Try.growU_ren.t 25)
      have e : (Value.int .u64 0).cells.size = 1 := rfl
      simp only [Array.size_append, size_zeroCells, e, List.size_toArray, List.length_nil]
      omega

theorem Concat_any (w : World) (bb b : Nat) (A1 A2 : Option Addr) (n1 n2 c1 c2 : Nat) (xs1 xs2 : List Nat) (h1 : w.cell? ⟨bb, 0, none⟩ = some (.slice A1 n1 c1)) (h2 : w.cell? ⟨bb, 1, none⟩ = some (.slice A2 n2 c2)) (hb : bb < w.heap.size)
    (hn1 : n1 = xs1.length) (hn2 : n2 = xs2.length) (hm : n1 + n2 ≤ 1000000000000) (hr1 : Rd w b A1 (cN .u64 xs1)) (hr2 : Rd w b A2 (cN .u64 xs2)) (hA1 : A1 = none → c1 = 0) (hA2 : A2 = none → c2 = 0) :
    Calls Try.prog 32 #[.slice (some ⟨bb, 0, none⟩) 2 2] w fun e w' => ∃ b' A' c', e = .returned (.slice A' (n1 + n2) c') ∧ Ow w' b' 25 1 A' (n1 + n2) c' (cN .u64 (xs1 ++ xs2)) ∧ w.heap.size ≤ b' ∧ Nw w w' := by
  have HG := Lib.hid (Grow_nil w (n1 + n2) hm)
  have HR1 := Lib.hid hr1
  have HR2 := Lib.hid hr2
  have HN := Lib.hid (And.intro hn1 hn2)
  clear hr1 hr2 hn1 hn2
  go_enter Try.func32, Try.ntmps32
  go_wp2
  refine wp_loop_rounds 3 ?_
  rw [rounds_succ]
  go_wp2
  rw [rounds_succ]
  go_wp2
  rw [rounds_succ]
  go_wp2_with (go_at_call 46; refine HG.out.mono ?_; rintro e w1 ⟨bg, Ag, cg, rfl, hO, hbg, hN⟩)
  have h1' := (World.cell?_of_block (hN.block bb hb)).trans h1
  have h2' := (World.cell?_of_block (hN.block bb hb)).trans h2
  have hl1 : (cN .u64 xs1).length = n1 * 1 := by simp [HN.out.1]
  have hl2 : (cN .u64 xs2).length = n2 * 1 := by simp [HN.out.2]
  have hL := Lib.hid (And.intro hl1 hl2)
  have HO := Lib.hid hO
  have hs1 := hN.size
  clear hl1 hl2 hO h1 h2
  refine wp_loop_rounds 3 ?_
  rw [rounds_succ]
  go_wp2_with (at_builtin; refine wpList_app E_u64 rfl (.tmp 31) (.tmp 32) rfl rfl HO.out rfl (HR1.out.nw hN) hL.out.1 hA1 (oc_N _ _) (by simp only [maxLen]; omega) (by omega) ?_; intro b2 A2' c2' w2 h3 h4 h5 h6; rw [Nat.zero_add, List.nil_append] at h3; have HO2 := Lib.hid h3; clear h3)
  have hN2 : Nw w w2 := Kp.nw hN h5 hbg hbg
  have h2'' := (World.cell?_of_block (hN2.block bb hb)).trans ((World.cell?_of_block (hN.block bb hb)).symm.trans h2')
  have hs2 := h5.size
  rw [rounds_succ]
  go_wp2_with (at_builtin; refine wpList_app E_u64 rfl (.tmp 31) (.tmp 32) rfl rfl HO2.out rfl (HR2.out.nw hN2) hL.out.2 hA2 (oc_N _ _) (by simp only [maxLen]; omega) (by omega) ?_; intro b3 A3 c3 w3 h7 h8 h9 h10)
  rw [rounds_succ]
  go_wp2
  go_ret
  refine ⟨b3, A3, c3, ?_, ?_, by omega, Kp.nw hN2 h9 (by omega) (by omega)⟩
  · simp
  · simpa using h7
end Go.Proofs.Ytbdpimnbjonhlaa
