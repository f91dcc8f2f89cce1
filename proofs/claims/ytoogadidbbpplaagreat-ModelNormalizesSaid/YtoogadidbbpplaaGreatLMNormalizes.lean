/- ModelNormalizes: for every list of series, model.Normalize answers as the reference, and Check accepts what it returns. No condition. -/
import Derived.Test.YtoogadidbbpplaaGreatRows
import Derived.Test.YtoogadidbbpplaaGreatAlive
import Derived.Test.YtoogadidbbpplaaGreatNormLaw
import Derived.ProofKit
import Derived.OpenShut
import Derived.ShutString
import Derived.ChangeOld
import Derived.Below
namespace Go.Proofs.YtoogadidbbpplaaGreat
open Go Go.RowKit Go.Sort Go.Shelf

theorem Fits.lens {l : List Ser} (h : Fits l) : ∀ s ∈ l, s.labs.length ≤ 100000 ∧ s.smps.length ≤ 100000 := by
  intro s hs
  have h1 := h.2.2.1
  have h2 := le_sum hs
  have h3 := h.2.1
  have : s.labs.length ≤ (labsOf l).length := by
    obtain ⟨a, b, rfl⟩ := List.append_of_mem hs
    unfold labsOf
    rw [List.flatMap_append, List.flatMap_cons, List.length_append, List.length_append]
    omega
  exact ⟨by omega, by omega⟩
/-- the lists of a result are no longer than those of the argument -/
theorem Blk1.lens {z l : List Ser} (h : Blk1 (z.map valS) (l.map valS)) (hz : ∀ s ∈ z, s.labs.length ≤ 100000 ∧ s.smps.length ≤ 100000) : ∀ s ∈ l, s.labs.length ≤ 100000 ∧ s.smps.length ≤ 100000 := by
  intro s hs
  have hm : valS s ∈ l.map valS := List.mem_map.2 ⟨s, hs, rfl⟩
  constructor
  · obtain ⟨x, hx, hp⟩ := h.labs _ hm
    obtain ⟨t, ht, rfl⟩ := List.mem_map.1 hx
    have := (hz t ht).1
    have e := hp.length_eq
    simp only at e
    omega
  · obtain ⟨x, hx, hp⟩ := h.smps _ hm
    obtain ⟨t, ht, rfl⟩ := List.mem_map.1 hx
    have := (hz t ht).2
    have e := hp.length_eq
    simp only at e
    omega
theorem Blk1.sum_ {z l : List Ser} (h : Blk1 (z.map valS) (l.map valS)) : smpSum l = smpSum z := by
  have := h.sum
  rw [List.map_map, List.map_map] at this
  exact this
theorem Blk1.blkE_ {V : List Val} {l : List Ser} (h : Blk1 V (l.map valS)) : blkE l = 0 := by
  rw [blkE_zero (fun s hs => by rw [serE_val]; exact h.ser _ (List.mem_map.2 ⟨s, hs, rfl⟩)), asE_val]
  exact h.asc
theorem small_of {s : Ser} (h : s.labs.length ≤ 100000 ∧ s.smps.length ≤ 100000) : Small s := ⟨by omega, by omega⟩

set_option maxRecDepth 100000 in
set_option maxHeartbeats 3200000 in
theorem ModelNormalizes_walk (b0 : Nat) (a0 : Option Addr) (len0 cap0 : Nat) (z0 : List Ser) (w : World) (w0 : InSer w b0 a0 len0 cap0 z0) :
    Calls Tryz.prog 3 #[.slice a0 len0 cap0] w fun e w' => e = .returned (.bool true) ∧ Below w.heap.size w w' := by
  have HL := Lib.hid (Large_any w b0 a0 len0 cap0 z0 w0)
  have HI := Lib.hid w0
  clear w0
  go_enter Tryz.func3, Tryz.ntmps3
  go_wp2_with fail
  refine HL.out.mono ?_
  rintro e w1 ⟨v, rfl, hv, hN1⟩
  rcases hv with rfl | ⟨rfl, hF⟩
  · go_wp2_with (go_at_call 6; refine (alive_any _).mono ?_; rintro e w2 ⟨rfl, hN2⟩)
    go_ret
    exact ⟨rfl, hN1.trans hN2⟩
  · have hn : len0 ≤ 300 := by have := HI.out.len; have := hF.1; omega
    have hS : smpSum z0 ≤ 100000 := by have := hF.2.1; omega
    have HS := Lib.hid hS
    have HM := Lib.hid fun W (hN : Nw w W) => NormM_any W b0 a0 len0 cap0 z0 (HI.out.nw hN) hS (by omega) hF.lens
    have HW := Lib.hid fun W (hN : Nw w W) => RNormM_any W b0 a0 len0 cap0 z0 (HI.out.nw hN) hS (by omega) hF.lens
    have HLN := Lib.hid hF.lens
    clear hS hF HL
    go_wp2_with fail
    refine (HM.out _ hN1).mono ?_
    rintro e w2 ⟨hN, E, r, hT, hcase⟩
    have hN2 := hN1.trans hN
    have HT := Lib.hid hT.u
    clear hT hN hN1
    rcases hcase with ⟨hE, rfl⟩ | ⟨rfl, g, l1, rfl, hr, hl1, hg, hO, hok⟩
    · have HE := Lib.hid hE
      have hE1 : ((E : Int) != 0) = true := by rw [bne_iff_ne]; omega
      clear hE
      go_wp2_with fail
      refine (HW.out _ hN2).mono ?_
      rintro e w3 ⟨hN, E2, r2, hS2, hcase⟩
      have hN3 := hN2.trans hN
      obtain rfl : E = E2 := (HT.out.one hS2.u).1
      clear hN
      rcases hcase with ⟨_, rfl⟩ | ⟨h0, _⟩
      · have hI1 : ((E : Int) == (E : Int)) = true := by rw [beq_iff_eq]
        go_wp2_with fail
        refine (alive_any _).mono ?_
        rintro e w4 ⟨rfl, hN⟩
        have hN4 := hN3.trans hN
        clear hN
        have HQ := Lib.hid (REqual_any w4 b0 b0 none none 0 0 0 0 [] [] rfl rfl (by omega) (by omega) (Rd.nil _ _ _) (Rd.nil _ _ _) (fun s h => absurd h List.not_mem_nil) (fun s h => absurd h List.not_mem_nil))
        go_wp2_with fail
        refine HQ.out.mono ?_
        rintro e w5 ⟨he, hN⟩
        obtain rfl := he.tt (by first | trivial | rfl)
        have hN5 := hN4.trans hN
        clear hN he
        go_wp2
        go_ret
        exact ⟨by simp, hN5⟩
      · exact (HE.out h0).elim
    · have HB := Lib.hid (show Blk1 (z0.map valS) (l1.map valS) from by rw [hr]; exact HT.out.blk)
      have HLl := Lib.hid (HB.out.lens HLN.out)
      have HO := Lib.hid hO
      have HOk := Lib.hid hok
      have HR := Lib.hid hr
      have HL1 := Lib.hid hl1
      clear hO hok hr hl1
      go_wp2_with fail
      refine (HW.out _ hN2).mono ?_
      rintro e w3 ⟨hN, E2, r2, hS2, hcase⟩
      have hN3 := hN2.trans hN
      have hU := HT.out.one hS2.u
      obtain rfl : E2 = 0 := hU.1.symm
      have hr2 := hU.2 rfl
      rcases hcase with ⟨h0, _⟩ | ⟨_, g2, A2, c2, l2, rfl, hr3, hl2, hO2, hok2⟩
      · exact (h0 rfl).elim
      · have HV := Lib.hid (show l1.map valS = l2.map valS from by rw [HR.out, hr2, hr3])
        have HL2 := Lib.hid hl2
        have HO2 := Lib.hid hO2
        have HOk2 := Lib.hid hok2
        have HB2 := Lib.hid (show Blk1 (z0.map valS) (l2.map valS) from by rw [← HV.out]; exact HB.out)
        have HLl2 := Lib.hid (HB2.out.lens HLN.out)
        have hNb : Nw w2 w3 := hN
        clear hr3 hl2 hO2 hok2 hU hr2 hS2 hN
        go_wp2_with fail
        refine (alive_any _).mono ?_
        rintro e w4 ⟨rfl, hN⟩
        have hN4 := hN3.trans hN
        have hNc := hNb.trans hN
        have HQ := Lib.hid (REqual_any w4 g g2 (some ⟨g, 0, none⟩) A2 len0 len0 len0 c2 l1 l2 HL1.out.symm HL2.out.symm (by omega) (by omega) (HO.out.nw hNc).rd (HO2.out.nw hN).rd (fun s h => ⟨(HOk.out s h).nw hNc, small_of (HLl.out s h)⟩) (fun s h => ⟨(HOk2.out s h).1.nw hN, small_of (HLl2.out s h)⟩))
        clear hN hNb
        go_wp2_with fail
        refine HQ.out.mono ?_
        rintro e w5 ⟨he, hN⟩
        obtain rfl := he.tt HV.out
        have hN5 := hN4.trans hN
        have hNd := hNc.trans hN
        have hCk := Check_any w5 g (some ⟨g, 0, none⟩) len0 len0 l1 ⟨(HO.out.nw hNd).rd, HL1.out.symm, (fun h => by cases h), Nat.le_refl _, by omega, fun s h => (HOk.out s h).nw hNd⟩ (by rw [HB.out.sum_]; exact HS.out) (by omega) (fun s h => by have := (HLl.out s h).1; omega)
        rw [HB.out.blkE_] at hCk
        have HCk := Lib.hid hCk
        clear hN he hCk hNc hNd HQ
        go_wp2_with fail
        refine HCk.out.mono ?_
        rintro e w6 ⟨rfl, hN⟩
        have hN6 := hN5.trans hN
        go_wp2_with fail
        go_ret
        exact ⟨by simp, hN6⟩

open Go.ChangeShapes Go.WideShapes Go.ChangeAt Go.RowKit in
open Go.ChangeMaps (open_string shut_string) in
set_option linter.unusedVariables false in
set_option maxRecDepth 100000 in
theorem ModelNormalizes_lifted (os : Os) (started : os.Started) (H : Type) (enc : TypeId × Value → H) :
    ReturnsInHanded {} Tryz.checked os 3 .any (Rows.modelNormalizesSpec.pre6 enc Tryz.prog Tryz.f3 Rows.modelNormalizesRow.domain false) (Rows.modelNormalizesSpec.post enc Tryz.prog Tryz.f3 false true false false) := by
  refine returnsInHanded_of_change (C := Tryz.checked) (by kernel_rfl) started (by kernel_rfl) Tryz.func3
    (ChangeSpec.witness6 (enc := enc) (C := Tryz.checked) false ⟨#[], #[.slice none 0 0], []⟩ 8 (by kernel_rfl) (by kernel_rfl) (by kernel_rfl) (by kernel_rfl)) ?_
  intro W base args ds gs before hval0 hW hcnd _
  have hval : ∀ (j : Nat) t v, Tryz.f3.params[j]? = some t → args[j]? = some v → Value.okWide Tryz.prog W .any base t v := hval0
  have hW' := hW
  obtain ⟨p, q, hA0, hV, rfl, hfz, hnd⟩ := hW
  have hA : DataW.TrodAll enc Tryz.prog W 0 (fun _ => true) true Tryz.f3.params.toList args.toList ds p := hA0
  rw [Tryz.params3] at hA hval
  obtain ⟨v0, vs0, d0, ds0, p0, q0, hargs, rfl, rfl, h0, r0⟩ := trodAll_cons hA
  obtain ⟨rfl, rfl, rfl⟩ := trodAll_nil r0
  obtain rfl : args = #[v0] := by cases args; simp_all
  obtain ⟨rfl, rfl⟩ := trodVars_none hV
  obtain ⟨a0, len0, cap0, rfl⟩ := okWide_slice Tryz.underlying22 (hval 0 22 v0 rfl rfl)
  have k0 := h0
  have lt0 : ∀ x ∈ p0, x.block < W.heap.size := by obtain ⟨m, hm⟩ := k0; exact DataW.trod_lt m _ _ _ hm
  obtain ⟨b0, z0, w0⟩ : ∃ b zs, InSer W b a0 len0 cap0 zs := by
    obtain ⟨fuel, hf⟩ := h0
    exact InSer.of_trod (by simpa [Value.cells] using hf)
  clear hA0 hval0
  refine (ModelNormalizes_walk b0 a0 len0 cap0 z0 W w0).mono fun e W' ⟨he, bel⟩ => ?_
  subst he
  exact ⟨_, rfl, _, _, _, [], _, [], hW', trodAll_mk1 (shut_bool Tryz.underlying4 _), (trodAll_cons_mk (Below.trod (by kernel_rfl) (by kernel_rfl) (of_decide_eq_true (by kernel_rfl)) k0 bel lt0) trodAll_mk0), rfl, bel.frame _, fun h => by cases h⟩

/-- the statement -/
theorem ModelNormalizes_holds : Rows.ModelNormalizesSaid :=
  OpenClaim.holds_of_wide 3 Tryz.f3 rfl rfl rfl rfl rfl rfl rfl ⟨rfl, rfl, rfl, rfl, rfl⟩ rfl rfl rfl rfl rfl (by kernel_rfl) Tryz.func3 (by kernel_rfl)
    (of_decide_eq_true (by kernel_rfl)) (by unfold Func.isWrapper; first | (rw [if_pos (by decide +kernel)]; kernel_rfl) | (rw [if_neg (by decide +kernel)]; exact ⟨rfl, rfl⟩))
    (fun os started H enc _ => ModelNormalizes_lifted os started H enc)
#print axioms ModelNormalizes_holds
end Go.Proofs.YtoogadidbbpplaaGreat
