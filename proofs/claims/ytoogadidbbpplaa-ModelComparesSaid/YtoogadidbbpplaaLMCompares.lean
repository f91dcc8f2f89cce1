/- ModelCompares: for every two lists of series, model.Equal answers as the reference, and a list is equal to itself. No condition. -/
import Derived.Test.YtoogadidbbpplaaRows
import Derived.Test.YtoogadidbbpplaaAlive
import Derived.ProofKit
import Derived.OpenShut
import Derived.ShutString
import Derived.ChangeOld
import Derived.Below
namespace Go.Proofs.Ytoogadidbbpplaa
open Go Go.RowKit

theorem Fits.small {l : List Ser} (h : Fits l) : ∀ s ∈ l, Small s := by
  intro s hs
  have h1 := h.2.2.1
  have h2 := le_sum hs
  have h3 := h.2.1
  have : s.labs.length ≤ (labsOf l).length := by
    obtain ⟨a, b, rfl⟩ := List.append_of_mem hs
    unfold labsOf
    rw [List.flatMap_append, List.flatMap_cons, List.length_append, List.length_append]
    omega
  exact ⟨by omega, by omega⟩

set_option maxHeartbeats 1600000 in
theorem ModelCompares_walk (b0 : Nat) (a0 : Option Addr) (len0 cap0 : Nat) (z0 : List Ser) (b1 : Nat) (a1 : Option Addr) (len1 cap1 : Nat) (z1 : List Ser) (w : World) (w0 : InSer w b0 a0 len0 cap0 z0) (w1 : InSer w b1 a1 len1 cap1 z1) :
    Calls Try.prog 4 #[.slice a0 len0 cap0, .slice a1 len1 cap1] w fun e w' => e = .returned (.bool true) ∧ Below w.heap.size w w' := by
  have HI0 := Lib.hid w0
  have HI1 := Lib.hid w1
  have HL0 := Lib.hid (Large_any w b0 a0 len0 cap0 z0 w0)
  have HL1 := Lib.hid fun W (hN : Nw w W) => Large_any W b1 a1 len1 cap1 z1 (HI1.out.nw hN)
  clear w0 w1
  go_enter Try.func4, Try.ntmps4
  go_wp2_with fail
  refine HL0.out.mono ?_
  rintro e wa ⟨v, rfl, hv, hNa⟩
  rcases hv with rfl | ⟨rfl, hF0⟩
  · go_wp2_with (go_at_call 8; refine (alive_any _).mono ?_; rintro e w2 ⟨rfl, hN2⟩)
    go_ret
    exact ⟨rfl, hNa.trans hN2⟩
  · have HF0 := Lib.hid hF0
    clear hF0 HL0
    go_wp2_with fail
    refine (HL1.out _ hNa).mono ?_
    rintro e wb ⟨v, rfl, hv, hNb⟩
    have hNB := hNa.trans hNb
    rcases hv with rfl | ⟨rfl, hF1⟩
    · go_wp2_with (go_at_call 8; refine (alive_any _).mono ?_; rintro e w2 ⟨rfl, hN2⟩)
      go_ret
      exact ⟨rfl, hNB.trans hN2⟩
    · have hn0 : len0 ≤ 1000000 := by have := HI0.out.len; have := HF0.out.1; omega
      have hn1 : len1 ≤ 1000000 := by have := HI1.out.len; have := hF1.1; omega
      have HS0 := Lib.hid fun W (hN : Nw w W) => (show ∀ s ∈ z0, SerOk W s ∧ Small s from fun s h => ⟨(HI0.out.ok s h).nw hN, HF0.out.small s h⟩)
      have HS1 := Lib.hid fun W (hN : Nw w W) => (show ∀ s ∈ z1, SerOk W s ∧ Small s from fun s h => ⟨(HI1.out.ok s h).nw hN, hF1.small s h⟩)
      have HE := Lib.hid fun W (hN : Nw w W) => EqM_any W b0 b1 a0 a1 len0 cap0 len1 cap1 z0 z1 HI0.out.len HI1.out.len hn0 hn1 (HI0.out.rd.nw hN) (HI1.out.rd.nw hN) (HS0.out W hN) (HS1.out W hN)
      have HR := Lib.hid fun W (hN : Nw w W) => REqual_any W b0 b1 a0 a1 len0 cap0 len1 cap1 z0 z1 HI0.out.len HI1.out.len hn0 hn1 (HI0.out.rd.nw hN) (HI1.out.rd.nw hN) (HS0.out W hN) (HS1.out W hN)
      have HQ := Lib.hid fun W (hN : Nw w W) => EqM_any W b0 b0 a0 a0 len0 cap0 len0 cap0 z0 z0 HI0.out.len HI0.out.len hn0 hn0 (HI0.out.rd.nw hN) (HI0.out.rd.nw hN) (HS0.out W hN) (HS0.out W hN)
      clear hn0 hn1 hF1 HL1
      obtain ⟨P, hP⟩ : ∃ P, (z0.map valS = z1.map valS) = P := ⟨_, rfl⟩
      rw [hP] at HE HR
      clear hP
      go_wp2_with fail
      refine (alive_any _).mono ?_
      rintro e w2 ⟨rfl, hN2⟩
      have H2 := Lib.hid (hNB.trans hN2)
      clear hN2
      go_wp2_with fail
      refine (HE.out _ H2.out).mono ?_
      rintro e w3 ⟨he, hN3⟩
      have H3 := Lib.hid (H2.out.trans hN3)
      by_cases hp : P
      · obtain rfl := he.tt hp
        have HP := Lib.hid hp
        clear he hN3 HE hp
        go_wp2_with fail
        refine (HR.out _ H3.out).mono ?_
        rintro e w4 ⟨he, hN4⟩
        obtain rfl := he.tt HP.out
        have H4 := Lib.hid (H3.out.trans hN4)
        clear he hN4 HR
        go_wp2_with fail
        refine (HQ.out _ H4.out).mono ?_
        rintro e w5 ⟨he, hN5⟩
        obtain rfl := he.tt (by first | trivial | rfl)
        have H5 := Lib.hid (H4.out.trans hN5)
        clear he hN5
        go_wp2_with fail
        go_ret
        exact ⟨rfl, H5.out⟩
      · obtain rfl := he.ff hp
        have HP := Lib.hid hp
        clear he hN3 HE hp
        go_wp2_with fail
        refine (HR.out _ H3.out).mono ?_
        rintro e w4 ⟨he, hN4⟩
        obtain rfl := he.ff HP.out
        have H4 := Lib.hid (H3.out.trans hN4)
        clear he hN4 HR
        go_wp2_with fail
        refine (HQ.out _ H4.out).mono ?_
        rintro e w5 ⟨he, hN5⟩
        obtain rfl := he.tt (by first | trivial | rfl)
        have H5 := Lib.hid (H4.out.trans hN5)
        clear he hN5
        go_wp2_with fail
        go_ret
        exact ⟨rfl, H5.out⟩

open Go.ChangeShapes Go.WideShapes Go.ChangeAt Go.RowKit in
open Go.ChangeMaps (open_string shut_string) in
set_option linter.unusedVariables false in
set_option maxRecDepth 100000 in
theorem ModelCompares_lifted (os : Os) (started : os.Started) (H : Type) (enc : TypeId × Value → H) :
    ReturnsInHanded {} Try.checked os 4 .any (Rows.modelComparesSpec.pre6 enc Try.prog Try.f4 Rows.modelComparesRow.domain false) (Rows.modelComparesSpec.post enc Try.prog Try.f4 false true false false) := by
  refine returnsInHanded_of_change (C := Try.checked) (by kernel_rfl) started (by kernel_rfl) Try.func4
    (ChangeSpec.witness6 (enc := enc) (C := Try.checked) false ⟨#[], #[.slice none 0 0, .slice none 0 0], []⟩ 8 (by kernel_rfl) (by kernel_rfl) (by kernel_rfl) (by kernel_rfl)) ?_
  intro W base args ds gs before hval0 hW hcnd _
  have hval : ∀ (j : Nat) t v, Try.f4.params[j]? = some t → args[j]? = some v → Value.okWide Try.prog W .any base t v := hval0
  have hW' := hW
  obtain ⟨p, q, hA0, hV, rfl, hfz, hnd⟩ := hW
  have hA : DataW.TrodAll enc Try.prog W 0 (fun _ => true) true Try.f4.params.toList args.toList ds p := hA0
  rw [Try.params4] at hA hval
  obtain ⟨v0, vs0, d0, ds0, p0, q0, hargs, rfl, rfl, h0, r0⟩ := trodAll_cons hA
  obtain ⟨v1, vs1, d1, ds1, p1, q1, rfl, rfl, rfl, h1, r1⟩ := trodAll_cons r0
  obtain ⟨rfl, rfl, rfl⟩ := trodAll_nil r1
  obtain rfl : args = #[v0, v1] := by cases args; simp_all
  obtain ⟨rfl, rfl⟩ := trodVars_none hV
  obtain ⟨a0, len0, cap0, rfl⟩ := okWide_slice Try.underlying22 (hval 0 22 v0 rfl rfl)
  have k0 := h0
  have lt0 : ∀ x ∈ p0, x.block < W.heap.size := by obtain ⟨m, hm⟩ := k0; exact DataW.trod_lt m _ _ _ hm
  obtain ⟨b0, z0, w0⟩ : ∃ b zs, InSer W b a0 len0 cap0 zs := by
    obtain ⟨fuel, hf⟩ := h0
    exact InSer.of_trod (by simpa [Value.cells] using hf)
  obtain ⟨a1, len1, cap1, rfl⟩ := okWide_slice Try.underlying22 (hval 1 22 v1 rfl rfl)
  have k1 := h1
  have lt1 : ∀ x ∈ p1, x.block < W.heap.size := by obtain ⟨m, hm⟩ := k1; exact DataW.trod_lt m _ _ _ hm
  obtain ⟨b1, z1, w1⟩ : ∃ b zs, InSer W b a1 len1 cap1 zs := by
    obtain ⟨fuel, hf⟩ := h1
    exact InSer.of_trod (by simpa [Value.cells] using hf)
  clear hA0 hval0
  refine (ModelCompares_walk b0 a0 len0 cap0 z0 b1 a1 len1 cap1 z1 W w0 w1).mono fun e W' ⟨he, bel⟩ => ?_
  subst he
  exact ⟨_, rfl, _, _, _, [], _, [], hW', trodAll_mk1 (shut_bool Try.underlying4 _), (trodAll_cons_mk (Below.trod (by kernel_rfl) (by kernel_rfl) (of_decide_eq_true (by kernel_rfl)) k0 bel lt0) (trodAll_cons_mk (Below.trod (by kernel_rfl) (by kernel_rfl) (of_decide_eq_true (by kernel_rfl)) k1 bel lt1) trodAll_mk0)), rfl, bel.frame _, fun h => by cases h⟩

/-- the statement -/
theorem ModelCompares_holds : Rows.ModelComparesSaid :=
  OpenClaim.holds_of_wide 4 Try.f4 rfl rfl rfl rfl rfl rfl rfl ⟨rfl, rfl, rfl, rfl, rfl⟩ rfl rfl rfl rfl rfl (by kernel_rfl) Try.func4 (by kernel_rfl)
    (of_decide_eq_true (by kernel_rfl)) (by unfold Func.isWrapper; first | (rw [if_pos (by decide +kernel)]; kernel_rfl) | (rw [if_neg (by decide +kernel)]; exact ⟨rfl, rfl⟩))
    (fun os started H enc _ => ModelCompares_lifted os started H enc)
#print axioms ModelCompares_holds
end Go.Proofs.Ytoogadidbbpplaa
