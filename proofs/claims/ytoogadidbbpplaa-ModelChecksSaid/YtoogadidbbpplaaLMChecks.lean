/- ModelChecks: for every list of series, model.Check answers as the reference, and the examples of the chapter hold. No condition. -/
import Derived.Test.YtoogadidbbpplaaRows
import Derived.Test.YtoogadidbbpplaaAlive
import Derived.ProofKit
import Derived.OpenShut
import Derived.ShutString
import Derived.ChangeOld
import Derived.Below
namespace Go.Proofs.Ytoogadidbbpplaa
open Go Go.RowKit

theorem Fits.labs {l : List Ser} (h : Fits l) : ∀ s ∈ l, s.labs.length ≤ 200 := by
  intro s hs
  have h1 := h.2.2.1
  have : s.labs.length ≤ (labsOf l).length := by
    obtain ⟨a, b, rfl⟩ := List.append_of_mem hs
    unfold labsOf
    rw [List.flatMap_append, List.flatMap_cons, List.length_append, List.length_append]
    omega
  omega

set_option maxHeartbeats 1600000 in
theorem ModelChecks_walk (b0 : Nat) (a0 : Option Addr) (len0 cap0 : Nat) (z0 : List Ser) (w : World) (w0 : InSer w b0 a0 len0 cap0 z0) :
    Calls Try.prog 3 #[.slice a0 len0 cap0] w fun e w' => e = .returned (.bool true) ∧ Below w.heap.size w w' := by
  have HL := Lib.hid (Large_any w b0 a0 len0 cap0 z0 w0)
  have HI := Lib.hid w0
  clear w0
  go_enter Try.func3, Try.ntmps3
  go_wp2_with fail
  refine HL.out.mono ?_
  rintro e w1 ⟨v, rfl, hv, hN1⟩
  rcases hv with rfl | ⟨rfl, hF⟩
  · go_wp2_with (go_at_call 8; refine (alive_any _).mono ?_; rintro e w2 ⟨rfl, hN2⟩)
    go_ret
    exact ⟨rfl, hN1.trans hN2⟩
  · have hn : len0 ≤ 300 := by have := HI.out.len; have := hF.1; omega
    have hL : ∀ s ∈ z0, s.labs.length ≤ 1000000 := fun s h => by have := hF.labs s h; omega
    have hS : smpSum z0 ≤ 100000 := by have := hF.2.1; omega
    have HC := Lib.hid fun W (hN : Nw w W) => Check_any W b0 a0 len0 cap0 z0 (HI.out.nw hN) hS (by omega) hL
    have HR := Lib.hid fun W (hN : Nw w W) => RCheck_any W b0 a0 len0 cap0 z0 (HI.out.nw hN) hS (by omega) hL
    generalize blkE z0 = E at *
    clear hn hL hS hF HL
    go_wp2_with (first
      | (go_at_call 10; refine (HR.out _ hN3).mono ?_; rintro e w4 ⟨rfl, hN⟩; have hN4 := hN3.trans hN)
      | (go_at_call 9; refine (HC.out _ hN2).mono ?_; rintro e w3 ⟨rfl, hN⟩; have hN3 := hN2.trans hN; clear hN)
      | (go_at_call 8; refine (alive_any _).mono ?_; rintro e w2 ⟨rfl, hN⟩; have hN2 := hN1.trans hN; clear hN))
    go_ret
    exact ⟨by simp, hN4⟩

open Go.ChangeShapes Go.WideShapes Go.ChangeAt Go.RowKit in
open Go.ChangeMaps (open_string shut_string) in
set_option linter.unusedVariables false in
set_option maxRecDepth 100000 in
theorem ModelChecks_lifted (os : Os) (started : os.Started) (H : Type) (enc : TypeId × Value → H) :
    ReturnsInHanded {} Try.checked os 3 .any (Rows.modelChecksSpec.pre6 enc Try.prog Try.f3 Rows.modelChecksRow.domain false) (Rows.modelChecksSpec.post enc Try.prog Try.f3 false true false false) := by
  refine returnsInHanded_of_change (C := Try.checked) (by kernel_rfl) started (by kernel_rfl) Try.func3
    (ChangeSpec.witness6 (enc := enc) (C := Try.checked) false ⟨#[], #[.slice none 0 0], []⟩ 8 (by kernel_rfl) (by kernel_rfl) (by kernel_rfl) (by kernel_rfl)) ?_
  intro W base args ds gs before hval0 hW hcnd _
  have hval : ∀ (j : Nat) t v, Try.f3.params[j]? = some t → args[j]? = some v → Value.okWide Try.prog W .any base t v := hval0
  have hW' := hW
  obtain ⟨p, q, hA0, hV, rfl, hfz, hnd⟩ := hW
  have hA : DataW.TrodAll enc Try.prog W 0 (fun _ => true) true Try.f3.params.toList args.toList ds p := hA0
  rw [Try.params3] at hA hval
  obtain ⟨v0, vs0, d0, ds0, p0, q0, hargs, rfl, rfl, h0, r0⟩ := trodAll_cons hA
  obtain ⟨rfl, rfl, rfl⟩ := trodAll_nil r0
  obtain rfl : args = #[v0] := by cases args; simp_all
  obtain ⟨rfl, rfl⟩ := trodVars_none hV
  obtain ⟨a0, len0, cap0, rfl⟩ := okWide_slice Try.underlying22 (hval 0 22 v0 rfl rfl)
  have k0 := h0
  have lt0 : ∀ x ∈ p0, x.block < W.heap.size := by obtain ⟨m, hm⟩ := k0; exact DataW.trod_lt m _ _ _ hm
  obtain ⟨b0, z0, w0⟩ : ∃ b zs, InSer W b a0 len0 cap0 zs := by
    obtain ⟨fuel, hf⟩ := h0
    exact InSer.of_trod (by simpa [Value.cells] using hf)
  clear hA0 hval0
  refine (ModelChecks_walk b0 a0 len0 cap0 z0 W w0).mono fun e W' ⟨he, bel⟩ => ?_
  subst he
  exact ⟨_, rfl, _, _, _, [], _, [], hW', trodAll_mk1 (shut_bool Try.underlying4 _), (trodAll_cons_mk (Below.trod (by kernel_rfl) (by kernel_rfl) (of_decide_eq_true (by kernel_rfl)) k0 bel lt0) trodAll_mk0), rfl, bel.frame _, fun h => by cases h⟩

/-- the statement -/
theorem ModelChecks_holds : Rows.ModelChecksSaid :=
  OpenClaim.holds_of_wide 3 Try.f3 rfl rfl rfl rfl rfl rfl rfl ⟨rfl, rfl, rfl, rfl, rfl⟩ rfl rfl rfl rfl rfl (by kernel_rfl) Try.func3 (by kernel_rfl)
    (of_decide_eq_true (by kernel_rfl)) (by unfold Func.isWrapper; first | (rw [if_pos (by decide +kernel)]; kernel_rfl) | (rw [if_neg (by decide +kernel)]; exact ⟨rfl, rfl⟩))
    (fun os started H enc _ => ModelChecks_lifted os started H enc)
#print axioms ModelChecks_holds
end Go.Proofs.Ytoogadidbbpplaa
