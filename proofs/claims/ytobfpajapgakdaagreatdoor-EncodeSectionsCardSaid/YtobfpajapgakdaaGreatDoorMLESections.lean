/- EncodeSections: for every list of series, Sections returns the sections, or the error, of the reference. No condition. -/
import Derived.Test.YtobfpajapgakdaaGreatDoorM14
import Derived.Test.YtobfpajapgakdaaGreatDoorMSameE
import Derived.Test.YtobfpajapgakdaaGreatDoorTie
import Derived.Test.YtobfpajapgakdaaGreatDoorCards
import Derived.SevenTiedAt
import Derived.Stop.Joined
namespace Go.Proofs.YtobfpajapgakdaaGreatDoor
open Go Go.RowKit Go.Lib Go.Sort Go.Shelf

set_option maxRecDepth 100000 in
set_option maxHeartbeats 1600000 in
theorem EncodeSections_walk (b0 : Nat) (a0 : Option Addr) (len0 cap0 : Nat) (z0 : List Ser) (w : World) (hG : Gl w) (w0 : InSer w b0 a0 len0 cap0 z0) :
    Calls Tryz.prog 4 #[.slice a0 len0 cap0] w fun e w' => e = .returned (.bool true) ∧ Below w.heap.size w w' := by
  have hl0 := w0.len
  subst hl0
  have HG := Lib.hid hG
  have HL := Lib.hid (Large_any w b0 a0 z0.length cap0 z0 w0)
  have HI := Lib.hid w0
  have HAl := Lib.hid fun (W : World) (hN : Nw w W) => aliveE_any W (hG.nw hN)
  clear hG w0
  go_enter Tryz.func4, Tryz.ntmps4
  go_wp2_with fail
  refine HL.out.mono ?_
  rintro e w1 ⟨v, rfl, hv, hN1⟩
  have HN1 := Lib.hid hN1
  clear hN1
  rcases hv with rfl | ⟨rfl, hF⟩
  · go_wp2_with fail
    refine (HAl.out _ HN1.out).mono ?_
    rintro e w2 ⟨rfl, hN2⟩
    go_wp2
    go_ret
    exact ⟨rfl, HN1.out.trans hN2⟩
  have hfl := hF.1
  have hfs := hF.2.1
  have hln0 := HI.out.len
  have HC := Lib.hid fun (W : World) (hN : Nw w W) => RCheck_any W b0 a0 z0.length cap0 z0 (HI.out.nw hN) (by omega) (by omega) (fun s hs => Nat.le_trans (fits_smp hF s hs).1 (by omega))
  by_cases h0 : blkE z0 = 0
  · have HE := Lib.hid fun (W : World) (hN : Nw w W) => SectionsE_ok W b0 a0 z0.length cap0 z0 (HI.out.nw hN) hF h0 (HG.out.nw hN)
    have HR := Lib.hid fun (W : World) (hN : Nw w W) => (RSections_ok W b0 a0 z0.length cap0 z0 (HI.out.nw hN) hF h0).mono fun e w' (h : ∃ v, e = Ending.returned v ∧ SecV w' (z0.map valB) v ∧ Nw W w') => let ⟨v, h1, h2, h3⟩ := h; (⟨v, h1, h2.four, h3⟩ : ∃ v, e = Ending.returned v ∧ FourV w' (secL (z0.map valB)) v ∧ Nw W w')
    rw [h0] at HC
    generalize hL : secL (z0.map valB) = L at *
    have HL2 := Lib.hid hL
    clear h0 hF hL
    go_wp2_with fail
    refine (HE.out _ HN1.out).mono ?_
    rintro e w2 ⟨v, rfl, hv, hN2⟩
    have hv0 := hv.four
    rw [HL2.out] at hv0
    obtain ⟨bq0, S0, c0, b1, S1, c1, b2, S2, c2, b3, S3, c3, rfl, _⟩ := hv
    have HN2 := Lib.hid (HN1.out.trans hN2)
    have HV := Lib.hid hv0
    clear hN2 hv0
    generalize (sec0 (z0.map valB)).length = n0 at *
    generalize (sec1 (z0.map valB)).length = n1 at *
    generalize (datS (z0.map valB)).length = n2 at *
    generalize (sec3 (z0.map valB)).length = n3 at *
    have hN3 : Nw w2 (w2.alloc (.cells #[.slice S0 n0 c0, .slice S1 n1 c1, .slice S2 n2 c2, .slice S3 n3 c3] 34)) := (Nw.refl w2).alloc' _
    have hb3 := heap_alloc_new w2 (.cells #[.slice S0 n0 c0, .slice S1 n1 c1, .slice S2 n2 c2, .slice S3 n3 c3] 34)
    have HN3 := Lib.hid (HN2.out.trans hN3)
    have HB3 := Lib.hid hb3
    have HV3 := Lib.hid (HV.out.nw hN3)
    clear hN3 hb3 HV
    have HC3 := HC.out _ HN3.out
    go_wp2_with fail
    generalize w2.alloc (.cells #[.slice S0 n0 c0, .slice S1 n1 c1, .slice S2 n2 c2, .slice S3 n3 c3] 34) = w3 at *
    generalize w2.heap.size = g at *
    refine HC3.mono ?_
    rintro e w4 ⟨rfl, hN4⟩
    have HB4 := Lib.hid ((hN4.block _ (lt_of_block HB3.out)).trans HB3.out)
    have HV4 := Lib.hid (HV3.out.nw hN4)
    have HN4 := Lib.hid (HN3.out.trans hN4)
    clear hN4 HC3 HC HB3 HV3 HN3
    have H0 : Hid (∀ W, Nw w4 W → W.cell? ⟨g, 0, none⟩ = some (.slice S0 n0 c0) ∧ W.cell? ⟨g, 1, none⟩ = some (.slice S1 n1 c1) ∧ W.cell? ⟨g, 2, none⟩ = some (.slice S2 n2 c2) ∧ W.cell? ⟨g, 3, none⟩ = some (.slice S3 n3 c3)) := Lib.hid fun W h => by
      have hb := (h.block _ (lt_of_block HB4.out)).trans HB4.out
      exact ⟨cell_at (k := 0) hb, cell_at (k := 1) hb, cell_at (k := 2) hb, cell_at (k := 3) hb⟩
    have A1 : Hid (∀ W, ((W.cell? ⟨g, 0, none⟩ = some (.slice S0 n0 c0) ∧ W.cell? ⟨g, 1, none⟩ = some (.slice S1 n1 c1) ∧ W.cell? ⟨g, 2, none⟩ = some (.slice S2 n2 c2) ∧ W.cell? ⟨g, 3, none⟩ = some (.slice S3 n3 c3)) ∧ Nw w4 W) → Calls Tryz.prog 10 #[] W fun e w' => e = .returned (.bool true) ∧ ((w'.cell? ⟨g, 0, none⟩ = some (.slice S0 n0 c0) ∧ w'.cell? ⟨g, 1, none⟩ = some (.slice S1 n1 c1) ∧ w'.cell? ⟨g, 2, none⟩ = some (.slice S2 n2 c2) ∧ w'.cell? ⟨g, 3, none⟩ = some (.slice S3 n3 c3)) ∧ Nw w4 w')) := Lib.hid fun W hS =>
      (HAl.out W (HN4.out.trans hS.2)).mono fun e w' h => ⟨h.1, H0.out _ (hS.2.trans h.2), hS.2.trans h.2⟩
    have A2 : Hid (∀ W, ((W.cell? ⟨g, 0, none⟩ = some (.slice S0 n0 c0) ∧ W.cell? ⟨g, 1, none⟩ = some (.slice S1 n1 c1) ∧ W.cell? ⟨g, 2, none⟩ = some (.slice S2 n2 c2) ∧ W.cell? ⟨g, 3, none⟩ = some (.slice S3 n3 c3)) ∧ Nw w4 W) → Calls Tryz.prog 17 #[.slice a0 z0.length cap0] W fun e w' => ∃ v, e = .returned v ∧ FourV w' L v ∧ ((w'.cell? ⟨g, 0, none⟩ = some (.slice S0 n0 c0) ∧ w'.cell? ⟨g, 1, none⟩ = some (.slice S1 n1 c1) ∧ w'.cell? ⟨g, 2, none⟩ = some (.slice S2 n2 c2) ∧ w'.cell? ⟨g, 3, none⟩ = some (.slice S3 n3 c3)) ∧ Nw w4 w')) := Lib.hid fun W hS =>
      (HR.out W (HN4.out.trans hS.2)).mono fun e w' ⟨v, h1, h2, h3⟩ => ⟨v, h1, h2, H0.out _ (hS.2.trans h3), hS.2.trans h3⟩
    have A3 : Hid (∀ W, ((W.cell? ⟨g, 0, none⟩ = some (.slice S0 n0 c0) ∧ W.cell? ⟨g, 1, none⟩ = some (.slice S1 n1 c1) ∧ W.cell? ⟨g, 2, none⟩ = some (.slice S2 n2 c2) ∧ W.cell? ⟨g, 3, none⟩ = some (.slice S3 n3 c3)) ∧ Nw w4 W) → ∀ v, FourV W L v → Calls Tryz.prog 16 #[.agg #[.slice S0 n0 c0, .slice S1 n1 c1, .slice S2 n2 c2, .slice S3 n3 c3], v] W fun e w' => e = .returned (.bool true) ∧ ((w'.cell? ⟨g, 0, none⟩ = some (.slice S0 n0 c0) ∧ w'.cell? ⟨g, 1, none⟩ = some (.slice S1 n1 c1) ∧ w'.cell? ⟨g, 2, none⟩ = some (.slice S2 n2 c2) ∧ w'.cell? ⟨g, 3, none⟩ = some (.slice S3 n3 c3)) ∧ Nw w4 w')) := Lib.hid fun W hS v hv =>
      (Same4_any W L _ v (HV4.out.nw hS.2) hv).mono fun e w' h => ⟨h.1, H0.out _ (hS.2.trans h.2), hS.2.trans h.2⟩
    have E0 : Hid ((w4.cell? ⟨g, 0, none⟩ = some (.slice S0 n0 c0) ∧ w4.cell? ⟨g, 1, none⟩ = some (.slice S1 n1 c1) ∧ w4.cell? ⟨g, 2, none⟩ = some (.slice S2 n2 c2) ∧ w4.cell? ⟨g, 3, none⟩ = some (.slice S3 n3 c3)) ∧ Nw w4 w4) := Lib.hid ⟨H0.out _ (Nw.refl _), Nw.refl _⟩
    clear HV4 HB4 HE HR HAl HL2
    go_wp2_with fail
    go_region_held3 (fun w' => (w'.cell? ⟨g, 0, none⟩ = some (.slice S0 n0 c0) ∧ w'.cell? ⟨g, 1, none⟩ = some (.slice S1 n1 c1) ∧ w'.cell? ⟨g, 2, none⟩ = some (.slice S2 n2 c2) ∧ w'.cell? ⟨g, 3, none⟩ = some (.slice S3 n3 c3)) ∧ Nw w4 w')
      (first | exact ⟨H0.out _ (Nw.drew1 _), Nw.drew1 _⟩ | exact E0.out | exact hS)
      (first
        | (go_at_call 10; refine (A1.out _ (by assumption)).mono ?_; rintro e w5 ⟨rfl, hS⟩)
        | (go_at_call 17; refine (A2.out _ (by assumption)).mono ?_; rintro e w6 ⟨v, rfl, hF, hS⟩)
        | (go_at_call 16; refine (A3.out _ (by assumption) _ (by assumption)).mono ?_; rintro e w7 ⟨rfl, hS⟩))
    all_goals
      go_wp2
      go_ret
      exact ⟨rfl, HN4.out.trans hS.2⟩
  · have HE := Lib.hid fun (W : World) (hN : Nw w W) => SectionsE_err W b0 a0 z0.length cap0 z0 (HI.out.nw hN) hF h0
    obtain ⟨E, hE⟩ : ∃ E, blkE z0 = E := ⟨_, rfl⟩
    rw [hE] at HC HE h0
    have hE1 : ((E : Int) != 0) = true := by rw [bne_iff_ne]; omega
    have hEE : ((E : Int) == (E : Int)) = true := by simp
    clear hE hF
    go_wp2_with fail
    refine (HE.out _ HN1.out).mono ?_
    rintro e w2 ⟨rfl, hN2⟩
    have hN3 : Nw w2 (w2.alloc (.cells #[.slice none 0 0, .slice none 0 0, .slice none 0 0, .slice none 0 0] 34)) := (Nw.refl w2).alloc' _
    have hb3 := heap_alloc_new w2 (.cells #[.slice none 0 0, .slice none 0 0, .slice none 0 0, .slice none 0 0] 34)
    have HN3 := Lib.hid ((HN1.out.trans hN2).trans hN3)
    have HB3 := Lib.hid hb3
    clear hN2 hN3 hb3
    have HC3 := HC.out _ HN3.out
    go_wp2_with fail
    generalize w2.alloc (.cells #[.slice none 0 0, .slice none 0 0, .slice none 0 0, .slice none 0 0] 34) = w3 at *
    generalize w2.heap.size = g at *
    refine HC3.mono ?_
    rintro e w4 ⟨rfl, hN4⟩
    have HB4 := Lib.hid ((hN4.block _ (lt_of_block HB3.out)).trans HB3.out)
    have HN4 := Lib.hid (HN3.out.trans hN4)
    clear hN4 HC3 HC HB3 HN3
    go_wp2_with fail
    refine (HAl.out _ HN4.out).mono ?_
    rintro e w5 ⟨rfl, hN5⟩
    have hb := (hN5.block _ (lt_of_block HB4.out)).trans HB4.out
    have p0 : w5.cell? ⟨g, 0, none⟩ = some (.slice none 0 0) := cell_at (k := 0) hb
    have p1 : w5.cell? ⟨g, 1, none⟩ = some (.slice none 0 0) := cell_at (k := 1) hb
    have p2 : w5.cell? ⟨g, 2, none⟩ = some (.slice none 0 0) := cell_at (k := 2) hb
    have p3 : w5.cell? ⟨g, 3, none⟩ = some (.slice none 0 0) := cell_at (k := 3) hb
    have HN5 := Lib.hid (HN4.out.trans hN5)
    have HS := Lib.hid (Same4_any w5 (fun _ => []) _ _ (four_nil w5) (four_nil w5))
    clear hN5 hb
    go_wp2_with fail
    refine HS.out.mono ?_
    rintro e w6 ⟨rfl, hN6⟩
    go_wp2_with fail
    go_ret
    exact ⟨rfl, HN5.out.trans hN6⟩

open Go.ChangeShapes Go.WideShapes Go.ChangeAt Go.RowKit in
set_option linter.unusedVariables false in
set_option maxRecDepth 100000 in
theorem EncodeSections_lifted (os : Os) (started : os.Started) (H : Type) (enc : TypeId × Value → H) :
    ReturnsInHanded {} Tryz.checked os 4 .any (fun w args => (Rows.encodeSectionsSpec.pre enc Tryz.prog Tryz.f4 [] false w args ∧ laidMetH Tryz.prog laid3 w) ∧ sizedMet enc Tryz.prog Tryz.f4 (OpenSpec.ofChange Rows.encodeSectionsSpec) false w args)
      (Rows.encodeSectionsSpec.post enc Tryz.prog Tryz.f4 false true false false) := by
  refine returnsInHanded_of_change_and (C := Tryz.checked) (X := fun w _ => laidMetH Tryz.prog laid3 w) (fun _ _ _ hh h => h.of_heap hh) own started (by kernel_rfl) Tryz.func4
    (ChangeSpec.witness_shaped (enc := enc) (C := Tryz.checked) (os := os) (X := fun w _ => laidMetH Tryz.prog laid3 w) false (World.doorLaid Tryz.prog 400 os) #[.slice none 0 0] 8 rfl (World.shaped_of_RefB (by kernel_rfl) (by kernel_rfl)) (by kernel_rfl) (by kernel_rfl) (by kernel_rfl) (door_met os _)) ?_
  intro W base args ds gs before hval0 hW _ _ hL _
  have hval : ∀ (j : Nat) t v, Tryz.f4.params[j]? = some t → args[j]? = some v → Value.okWide Tryz.prog W .any base t v := hval0
  have hW' := hW
  obtain ⟨p, q, hA0, hV, rfl, hfz, hnd⟩ := hW
  have hA : DataW.TrodAll enc Tryz.prog W 0 (fun _ => true) true Tryz.f4.params.toList args.toList ds p := hA0
  rw [Tryz.params4] at hA hval
  obtain ⟨v0, vs0, d0, ds0, p0, q0, hargs, rfl, rfl, h0, r0⟩ := trodAll_cons hA
  obtain ⟨rfl, rfl, rfl⟩ := trodAll_nil r0
  obtain rfl : args = #[v0] := by cases args; simp_all
  obtain ⟨rfl, rfl⟩ := trodVars_none hV
  obtain ⟨a0, len0, cap0, rfl⟩ := okWide_slice Tryz.underlying22 (hval 0 22 v0 rfl rfl)
  have k0 := h0
  have lt0 : ∀ x ∈ p0, x.block < W.heap.size := by obtain ⟨m, hm⟩ := k0; exact DataW.trod_lt m _ _ _ hm
  obtain ⟨b0, z0, w0⟩ : ∃ b zs, InSer W b a0 len0 cap0 zs := by
    obtain ⟨fuel, hf⟩ := h0
    exact InSer.of_trod (by simpa [Value.cells] using hf)
  clear hA0 hval0
  refine (EncodeSections_walk b0 a0 len0 cap0 z0 W (gl_of_laid hL) w0).mono fun e W' ⟨he, bel⟩ => ?_
  subst he
  exact ⟨_, rfl, _, _, _, [], _, [], hW', trodAll_mk1 (shut_bool Tryz.underlying4 _), (trodAll_cons_mk (Below.trod (by kernel_rfl) (by kernel_rfl) (of_decide_eq_true (by kernel_rfl)) k0 bel lt0) trodAll_mk0), rfl, bel.frame _, fun h => by cases h⟩

/-- the row's statement -/
theorem EncodeSections_holds : Rows.EncodeSectionsSaid :=
  OpenClaim.holds_of_wide 4 Tryz.f4 rfl rfl rfl rfl rfl rfl rfl ⟨rfl, rfl, rfl, rfl, rfl⟩ rfl rfl rfl rfl rfl (by kernel_rfl) Tryz.func4 (by kernel_rfl)
    (of_decide_eq_true (by kernel_rfl)) (by unfold Func.isWrapper; first | (rw [if_pos (by decide +kernel)]; kernel_rfl) | (rw [if_neg (by decide +kernel)]; exact ⟨rfl, rfl⟩))
    (fun os started H enc _ => EncodeSections_lifted os started H enc)

/-- the card: the same, with what the two variables hold tied to the program's text -/
theorem EncodeSections_card : Rows.EncodeSectionsCardSaid :=
  Claim7.holds_tied_plain_at .later [] [.data, .data, .data] true (true, "f70a91afcaa5c4fba4acf7e1313873986f8c6bd085223fc9cf1ee93dd3d37b4a") false
    EncodeSections_holds (fun _ h => by cases h) (by kernel_rfl) (fun _ h => by cases h) encodeSections_row_tie rfl ⟨rfl, rfl⟩ (by kernel_rfl) rfl
    (fun f fn hf hfn => by
      obtain rfl : f = 4 := Option.some.inj ((show Tryz.prog.funcNamed "tsblock/tsblocklaw17.EncodeSections" = some 4 by kernel_rfl).symm.trans hf) |>.symm
      obtain rfl : fn = Tryz.f4 := (Option.some.inj (Tryz.func4.symm.trans hfn)).symm
      exact ⟨by kernel_rfl, fun j t ht => by
        rw [Tryz.params4] at ht
        have hm : t ∈ [22] := by simpa using Array.mem_of_getElem? ht
        have hall : ([22].all fun u => !Tryz.prog.wantsStandIn u) = true := by kernel_rfl
        exact (show Tryz.prog.wantsStandIn t = false by simpa using List.all_eq_true.1 hall t hm)⟩)
    (by kernel_rfl)
#print axioms EncodeSections_card
end Go.Proofs.YtobfpajapgakdaaGreatDoor
