/- slices.Clone at words and at bytes: the same elements in memory of the call's own. -/
import Derived.Test.YtbdpimnbjonhlaaChecked
import Derived.Test.YtbdpimnbjonhlaaMem
import Derived.Test.YtbdpimnbjonhlaaFind
namespace Go.Proofs.Ytbdpimnbjonhlaa
open Go Go.RowKit

theorem E_u64 : ElemT Try.prog 22 25 (.int .u64 0) 1 8 := ElemT.mk' Try.underlying22 (by kernel_rfl) (by kernel_rfl) (by omega)
theorem E_u8 : ElemT Try.prog 29 5 (.int .u8 0) 1 1 := ElemT.mk' Try.underlying29 (by kernel_rfl) (by kernel_rfl) (by omega)
theorem E_bool : ElemT Try.prog 37 4 (.bool false) 1 1 := ElemT.mk' Try.underlying37 (by kernel_rfl) (by kernel_rfl) (by omega)

theorem oc_N (k : IntKind) (xs : List Nat) : ∀ u ∈ cN k xs, u.oneCell' = true := by
  intro u hu
  obtain ⟨x, _, rfl⟩ := List.mem_map.1 hu
  rfl
theorem oc_B (xs : List Bool) : ∀ u ∈ cB xs, u.oneCell' = true := by
  intro u hu
  obtain ⟨x, _, rfl⟩ := List.mem_map.1 hu
  rfl

theorem CloneU_any (w : World) (b : Nat) (A : Option Addr) (n c : Nat) (xs : List Nat) (hn : n = xs.length) (hm : n * 8 ≤ 140737488355328) (hr : Rd w b A (cN .u64 xs)) (hA : A = none → c = 0) :
    Calls Try.prog 10 #[.slice A n c] w fun e w' => ∃ b' A' c', e = .returned (.slice A' n c') ∧ Ow w' b' 25 1 A' n c' (cN .u64 xs) ∧ w.heap.size ≤ b' ∧ Nw w w' := by
  subst hn
  cases A with
  | none =>
    obtain rfl : xs = [] := by
      rcases hr with h | ⟨o, h, _⟩
      · simpa using h
      · cases h
    obtain rfl := hA rfl
    have hnil := fun W => Lib.run_eql_slice_nil (P := Try.prog) W 22 25 none 0 0 0 0 Try.underlying22
    go_enter Try.func10, Try.ntmps10
    go_wp2
    go_ret
    exact ⟨w.heap.size, none, 0, rfl, Ow.nil _ _ _ _, Nat.le_refl _, Nw.refl w⟩
  | some ad =>
    have hnil := fun W => Lib.run_eql_slice_nil (P := Try.prog) W 22 25 (some ad) xs.length c 0 0 Try.underlying22
    go_enter Try.func10, Try.ntmps10
    go_wp2_with (at_builtin; refine wpList_app E_u64 rfl (.tmp 5) (.tmp 6) rfl rfl (Ow.empty w _ _) rfl (hr.nw (Nw.alloc' (Nw.refl w) _)) (by simp) (by intro h; cases h) (oc_N _ _) (by simp only [maxLen]; omega) (by omega) ?_; intro b' A' c' w' h1 h2 h3 _)
    go_ret
    refine ⟨b', A', c', by simp, by simpa using h1, ?_, Kp.nw (Nw.alloc' (Nw.refl w) _) h3 (by simp) (by simp)⟩
    have := (Nw.alloc' (Nw.refl w) (.cells #[] 25)).size
    rcases h2 with h2 | h2 <;> omega
theorem CloneB_any (w : World) (b : Nat) (A : Option Addr) (n c : Nat) (xs : List Nat) (hn : n = xs.length) (hm : n ≤ 140737488355328) (hr : Rd w b A (cN .u8 xs)) (hA : A = none → c = 0) :
    Calls Try.prog 39 #[.slice A n c] w fun e w' => ∃ b' A' c', e = .returned (.slice A' n c') ∧ Ow w' b' 5 1 A' n c' (cN .u8 xs) ∧ w.heap.size ≤ b' ∧ Nw w w' := by
  subst hn
  cases A with
  | none =>
    obtain rfl : xs = [] := by
      rcases hr with h | ⟨o, h, _⟩
      · simpa using h
      · cases h
    obtain rfl := hA rfl
    have hnil := fun W => Lib.run_eql_slice_nil (P := Try.prog) W 29 5 none 0 0 0 0 Try.underlying29
    go_enter Try.func39, Try.ntmps39
    go_wp2
    go_ret
    exact ⟨w.heap.size, none, 0, rfl, Ow.nil _ _ _ _, Nat.le_refl _, Nw.refl w⟩
  | some ad =>
    have hnil := fun W => Lib.run_eql_slice_nil (P := Try.prog) W 29 5 (some ad) xs.length c 0 0 Try.underlying29
    go_enter Try.func39, Try.ntmps39
    go_wp2_with (at_builtin; refine wpList_app E_u8 rfl (.tmp 5) (.tmp 6) rfl rfl (Ow.empty w _ _) rfl (hr.nw (Nw.alloc' (Nw.refl w) _)) (by simp) (by intro h; cases h) (oc_N _ _) (by simp only [maxLen]; omega) (by omega) ?_; intro b' A' c' w' h1 h2 h3 _)
    go_ret
    refine ⟨b', A', c', by simp, by simpa using h1, ?_, Kp.nw (Nw.alloc' (Nw.refl w) _) h3 (by simp) (by simp)⟩
    have := (Nw.alloc' (Nw.refl w) (.cells #[] 5)).size
    rcases h2 with h2 | h2 <;> omega

end Go.Proofs.Ytbdpimnbjonhlaa
