/- ModelMeasures: for every list of series, model.Samples and model.Symbols answer as the reference. No condition. -/
import Derived.Test.YtoogadidbbpplaaRows
import Derived.Test.YtoogadidbbpplaaAlive
import Derived.Test.YtoogadidbbpplaaRSyms
import Derived.Test.YtoogadidbbpplaaShelf
import Derived.ProofKit
import Derived.OpenShut
import Derived.ShutString
import Derived.ChangeOld
import Derived.Below
namespace Go.Proofs.Ytoogadidbbpplaa
open Go Go.RowKit Go.Sort Go.Shelf Go.Lib

/-- slices.Equal at two rows of the same strings -/
theorem eqStr_any (w : World) (g1 g2 : Nat) (A1 A2 : Option Addr) (c1 c2 : Nat) (T : List (List UInt8)) (hm : T.length ≤ 9223372036854775807) (h1 : Rd w g1 A1 (T.map encStr)) (h2 : Rd w g2 A2 (T.map encStr)) :
    Calls Try.prog 17 #[.slice A1 T.length c1, .slice A2 T.length c2] w fun e w' => e = .returned (.bool true) ∧ Nw w w' := by
  by_cases h0 : T = []
  · subst h0
    refine (Try.slices_Equal_string_empty A1 A2 c1 0 c2 w (by omega)).mono ?_
    rintro e w' ⟨rfl, rfl⟩
    exact ⟨rfl, Nw.refl _⟩
  · have hl : 0 < T.length := List.length_pos_iff.2 h0
    rcases h1 with h1 | ⟨o1, rfl, _, hc1⟩
    · exact (h0 (List.map_eq_nil_iff.1 h1)).elim
    rcases h2 with h2 | ⟨o2, rfl, _, hc2⟩
    · exact (h0 (List.map_eq_nil_iff.1 h2)).elim
    obtain ⟨B, hB⟩ : ∃ B : List ByteArray, B = T.map fun l => ⟨l.toArray⟩ := ⟨_, rfl⟩
    have hBl : B.length = T.length := by rw [hB, List.length_map]
    have hx : ∀ j, j < B.length → (T.map encStr)[j]? = some (.string (B.getD j ByteArray.empty)) := fun j hj => by
      have hj' : j < T.length := by omega
      subst hB
      rw [List.getElem?_map, List.getElem?_eq_getElem hj', List.getD_eq_getElem?_getD, List.getElem?_map, List.getElem?_eq_getElem hj']; rfl
    refine (Try.slices_Equal_string g1 o1 T.length c1 g2 o2 T.length c2 B B w (by omega) (by omega) hm hm (fun j hj => hc1 j _ (hx j hj)) (fun j hj => hc2 j _ (hx j hj))).mono ?_
    rintro e w' ⟨rfl, q, rfl⟩
    exact ⟨by simp, Nw.drewN w q⟩

set_option maxHeartbeats 1600000 in
theorem ModelMeasures_walk (b0 : Nat) (a0 : Option Addr) (len0 cap0 : Nat) (z0 : List Ser) (w : World) (w0 : InSer w b0 a0 len0 cap0 z0) :
    Calls Try.prog 6 #[.slice a0 len0 cap0] w fun e w' => e = .returned (.bool true) ∧ Below w.heap.size w w' := by
  have HL := Lib.hid (Large_any w b0 a0 len0 cap0 z0 w0)
  have HI := Lib.hid w0
  clear w0
  go_enter Try.func6, Try.ntmps6
  go_wp2_with fail
  refine HL.out.mono ?_
  rintro e w1 ⟨v, rfl, hv, hN1⟩
  rcases hv with rfl | ⟨rfl, hF⟩
  · go_wp2_with (go_at_call 8; refine (alive_any _).mono ?_; rintro e w2 ⟨rfl, hN2⟩)
    go_ret
    exact ⟨rfl, hN1.trans hN2⟩
  · have hn : len0 ≤ 300 := by have := HI.out.len; have := hF.1; omega
    have hS : smpSum z0 ≤ 100000 := by have := hF.2.1; omega
    have hLs : (labsOf z0).length ≤ 100000 := by have := hF.2.2.1; omega
    have HS := Lib.hid fun W (hN : Nw w W) => Samples_any W b0 a0 len0 cap0 z0 (HI.out.nw hN) (by omega) (by omega)
    have HR := Lib.hid fun W (hN : Nw w W) => RSamples_any W b0 a0 len0 cap0 z0 (HI.out.nw hN) (by omega) (by omega)
    have HY := Lib.hid fun W (hN : Nw w W) => Symbols_any W b0 a0 len0 cap0 z0 (HI.out.nw hN) hLs (by omega)
    have HZ := Lib.hid fun W (hN : Nw w W) => RSymbols_any W b0 a0 len0 cap0 z0 (HI.out.nw hN) hLs (by omega)
    generalize tbl (strsOf (labsOf z0)) = T at *
    generalize smpSum z0 = M at *
    clear hn hS hLs hF HL
    go_wp2_with fail
    refine (alive_any _).mono ?_
    rintro e w2 ⟨rfl, hN⟩
    have hN2 := hN1.trans hN
    clear hN
    go_wp2_with fail
    refine (HS.out _ hN2).mono ?_
    rintro e w3 ⟨rfl, hN⟩
    have hN3 := hN2.trans hN
    clear hN
    go_wp2_with fail
    refine (HR.out _ hN3).mono ?_
    rintro e w4 ⟨rfl, hw4⟩
    subst hw4
    go_wp2_with fail
    refine (HY.out _ hN3).mono ?_
    rintro e w5 ⟨g1, A1, c1, rfl, hO1, hN⟩
    have hN5 := hN3.trans hN
    have HO1 := Lib.hid hO1
    clear hN hO1
    go_wp2_with fail
    refine (HZ.out _ hN5).mono ?_
    rintro e w6 ⟨g2, A2, c2, rfl, hO2, hN⟩
    have hN6 := hN5.trans hN
    have hcap := hO2.cap
    have HE := Lib.hid (eqStr_any w6 g1 g2 A1 A2 c1 c2 T (by omega) (HO1.out.rd.nw hN) hO2.rd)
    clear hN hO2 hcap
    go_wp2_with fail
    refine HE.out.mono ?_
    rintro e w7 ⟨rfl, hN⟩
    have hN7 := hN6.trans hN
    clear hN
    go_wp2_with fail
    go_ret
    exact ⟨rfl, hN7⟩

open Go.ChangeShapes Go.WideShapes Go.ChangeAt Go.RowKit in
open Go.ChangeMaps (open_string shut_string) in
set_option linter.unusedVariables false in
set_option maxRecDepth 100000 in
theorem ModelMeasures_lifted (os : Os) (started : os.Started) (H : Type) (enc : TypeId × Value → H) :
    ReturnsInHanded {} Try.checked os 6 .any (Rows.modelMeasuresSpec.pre6 enc Try.prog Try.f6 Rows.modelMeasuresRow.domain false) (Rows.modelMeasuresSpec.post enc Try.prog Try.f6 false true false false) := by
  refine returnsInHanded_of_change (C := Try.checked) (by kernel_rfl) started (by kernel_rfl) Try.func6
    (ChangeSpec.witness6 (enc := enc) (C := Try.checked) false ⟨#[], #[.slice none 0 0], []⟩ 8 (by kernel_rfl) (by kernel_rfl) (by kernel_rfl) (by kernel_rfl)) ?_
  intro W base args ds gs before hval0 hW hcnd _
  have hval : ∀ (j : Nat) t v, Try.f6.params[j]? = some t → args[j]? = some v → Value.okWide Try.prog W .any base t v := hval0
  have hW' := hW
  obtain ⟨p, q, hA0, hV, rfl, hfz, hnd⟩ := hW
  have hA : DataW.TrodAll enc Try.prog W 0 (fun _ => true) true Try.f6.params.toList args.toList ds p := hA0
  rw [Try.params6] at hA hval
  obtain ⟨v0, vs0, d0, ds0, p0, q0, hargs, rfl, rfl, h0, r0⟩ := trodAll_cons hA
  obtain ⟨rfl, rfl, rfl⟩ := trodAll_nil r0
  obtain rfl : args = #[v0] := by cases args; simp_all
  obtain ⟨rfl, rfl⟩ := trodVars_none hV
  obtain ⟨a0, len0, cap0, rfl⟩ := okWide_slice Try.underlying22 (hval 0 22 v0 rfl rfl)
  have k0 := h0
  have lt0 : ∀ x ∈ p0, x.block < W.heap.size := by obtain ⟨m, hm⟩ := k0; exact DataW.trod_lt m _ _ _ hm
  obtain ⟨b0, z0, w0⟩ : ∃ b zs, InSer W b a0 len0 cap0 zs := by
    obtain ⟨fuel, hf⟩ := h0
    exact InSer.of_trod (by simpa [Value.cells] using hf)
  clear hA0 hval0
  refine (ModelMeasures_walk b0 a0 len0 cap0 z0 W w0).mono fun e W' ⟨he, bel⟩ => ?_
  subst he
  exact ⟨_, rfl, _, _, _, [], _, [], hW', trodAll_mk1 (shut_bool Try.underlying4 _), (trodAll_cons_mk (Below.trod (by kernel_rfl) (by kernel_rfl) (of_decide_eq_true (by kernel_rfl)) k0 bel lt0) trodAll_mk0), rfl, bel.frame _, fun h => by cases h⟩

/-- the statement -/
theorem ModelMeasures_holds : Rows.ModelMeasuresSaid :=
  OpenClaim.holds_of_wide 6 Try.f6 rfl rfl rfl rfl rfl rfl rfl ⟨rfl, rfl, rfl, rfl, rfl⟩ rfl rfl rfl rfl rfl (by kernel_rfl) Try.func6 (by kernel_rfl)
    (of_decide_eq_true (by kernel_rfl)) (by unfold Func.isWrapper; first | (rw [if_pos (by decide +kernel)]; kernel_rfl) | (rw [if_neg (by decide +kernel)]; exact ⟨rfl, rfl⟩))
    (fun os started H enc _ => ModelMeasures_lifted os started H enc)
#print axioms ModelMeasures_holds
end Go.Proofs.Ytoogadidbbpplaa
