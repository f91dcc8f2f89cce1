/- EncodeMatchesReference: for every list of series, Encode returns the bytes, or the error, of the reference. No condition. -/
import Derived.Test.YtobfpajapgakdaaGreatDoorM14
import Derived.Test.YtobfpajapgakdaaGreatDoorTie
import Derived.Test.YtobfpajapgakdaaGreatDoorCards
import Derived.SevenTiedAt
import Derived.Stop.Joined
namespace Go.Proofs.YtobfpajapgakdaaGreatDoor
open Go Go.RowKit Go.Lib Go.Sort Go.Shelf

set_option maxRecDepth 100000 in
set_option maxHeartbeats 1600000 in
theorem EncodeMatchesReference_walk (b0 : Nat) (a0 : Option Addr) (len0 cap0 : Nat) (z0 : List Ser) (w : World) (hG : Gl w) (w0 : InSer w b0 a0 len0 cap0 z0) :
    Calls Tryz.prog 3 #[.slice a0 len0 cap0] w fun e w' => e = .returned (.bool true) ∧ Below w.heap.size w w' := by
  have hl0 := w0.len
  subst hl0
  have HG := Lib.hid hG
  have HL := Lib.hid (Large_any w b0 a0 z0.length cap0 z0 w0)
  have HI := Lib.hid w0
  have HAl := Lib.hid fun (W : World) (hN : Nw w W) => aliveE_any W (hG.nw hN)
  clear hG w0
  go_enter Tryz.func3, Tryz.ntmps3
  go_wp2_with fail
  refine HL.out.mono ?_
  rintro e w1 ⟨v, rfl, hv, hN1⟩
  have HN1 := Lib.hid hN1
  clear hN1
  rcases hv with rfl | ⟨rfl, hF⟩
  · go_wp2_with fail
    refine (HAl.out _ HN1.out).mono ?_
    rintro e w2 ⟨rfl, hN2⟩
    go_wp2
    go_ret
    exact ⟨rfl, HN1.out.trans hN2⟩
  have HF := Lib.hid hF
  by_cases h0 : blkE z0 = 0
  · have HB : Hid (BlkV (z0.map valB)) := Lib.hid (blkE_v h0 (fun s hs => (HI.out.ok s hs).2.wf))
    have HE := Lib.hid fun (W : World) (hN : Nw w W) => EncodeE_ok W b0 a0 z0.length cap0 z0 (HI.out.nw hN) hF h0 (HG.out.nw hN)
    have HR := Lib.hid fun (W : World) (hN : Nw w W) => REncodeE_ok W b0 a0 z0.length cap0 z0 (HI.out.nw hN) hF h0
    obtain ⟨B, hB⟩ : ∃ B, fileB (z0.map valB) = B := ⟨_, rfl⟩
    have HBy : Hid (∀ x ∈ B, x < 256) := Lib.hid (by rw [← hB]; exact fileB_lt HB.out (fits_few hF))
    rw [hB] at HE HR
    clear hB h0 hF
    go_wp2_with fail
    refine (HE.out _ HN1.out).mono ?_
    rintro e w2 ⟨b2, A2, c2, rfl, hO2, _, hN2⟩
    have HO2 := Lib.hid hO2
    have HN2 := Lib.hid (HN1.out.trans hN2)
    clear hO2 hN2
    go_wp2_with fail
    refine (HR.out _ HN2.out).mono ?_
    rintro e w3 ⟨b3, A3, c3, rfl, hO3, _, hN3⟩
    have HO3 := Lib.hid hO3
    have HO23 := Lib.hid (HO2.out.nw hN3)
    have HN3 := Lib.hid (HN2.out.trans hN3)
    clear hO3 hN3
    go_wp2_with fail
    refine (HAl.out _ HN3.out).mono ?_
    rintro e w4 ⟨rfl, hN4⟩
    have HBe := Lib.hid (bytesEqual_same w4 b2 b3 A2 A3 B.length c2 B.length c3 B rfl rfl (HO23.out.nw hN4).rd (HO3.out.nw hN4).rd HBy.out)
    have HN4 := Lib.hid (HN3.out.trans hN4)
    clear hN4
    go_wp2_with fail
    refine HBe.out.mono ?_
    rintro e w5 ⟨rfl, hw5⟩
    subst hw5
    go_wp2_with fail
    go_ret
    exact ⟨rfl, HN4.out⟩
  · have HE := Lib.hid fun (W : World) (hN : Nw w W) => EncodeE_err W b0 a0 z0.length cap0 z0 (HI.out.nw hN) hF h0
    have HR := Lib.hid fun (W : World) (hN : Nw w W) => REncodeE_err W b0 a0 z0.length cap0 z0 (HI.out.nw hN) hF h0
    obtain ⟨E, hE⟩ : ∃ E, blkE z0 = E := ⟨_, rfl⟩
    rw [hE] at HE HR
    have hEE : ((E : Int) == (E : Int)) = true := by simp
    clear hE h0 hF
    go_wp2_with fail
    refine (HE.out _ HN1.out).mono ?_
    rintro e w2 ⟨rfl, hN2⟩
    have HN2 := Lib.hid (HN1.out.trans hN2)
    clear hN2
    go_wp2_with fail
    refine (HR.out _ HN2.out).mono ?_
    rintro e w3 ⟨rfl, hN3⟩
    have HN3 := Lib.hid (HN2.out.trans hN3)
    clear hN3
    go_wp2_with fail
    refine (HAl.out _ HN3.out).mono ?_
    rintro e w4 ⟨rfl, hN4⟩
    have HBe := Lib.hid (bytesEqual_same w4 0 0 none none 0 0 0 0 [] rfl rfl (Rd.nil _ _ _) (Rd.nil _ _ _) (by simp))
    have HN4 := Lib.hid (HN3.out.trans hN4)
    clear hN4
    go_wp2_with fail
    refine HBe.out.mono ?_
    rintro e w5 ⟨rfl, hw5⟩
    subst hw5
    go_wp2_with fail
    go_ret
    exact ⟨rfl, HN4.out⟩

open Go.ChangeShapes Go.WideShapes Go.ChangeAt Go.RowKit in
set_option linter.unusedVariables false in
set_option maxRecDepth 100000 in
theorem EncodeMatchesReference_lifted (os : Os) (started : os.Started) (H : Type) (enc : TypeId × Value → H) :
    ReturnsInHanded {} Tryz.checked os 3 .any (fun w args => (Rows.encodeMatchesReferenceSpec.pre enc Tryz.prog Tryz.f3 [] false w args ∧ laidMetH Tryz.prog laid3 w) ∧ sizedMet enc Tryz.prog Tryz.f3 (OpenSpec.ofChange Rows.encodeMatchesReferenceSpec) false w args)
      (Rows.encodeMatchesReferenceSpec.post enc Tryz.prog Tryz.f3 false true false false) := by
  refine returnsInHanded_of_change_and (C := Tryz.checked) (X := fun w _ => laidMetH Tryz.prog laid3 w) (fun _ _ _ hh h => h.of_heap hh) own started (by kernel_rfl) Tryz.func3
    (ChangeSpec.witness_shaped (enc := enc) (C := Tryz.checked) (os := os) (X := fun w _ => laidMetH Tryz.prog laid3 w) false (World.doorLaid Tryz.prog 400 os) #[.slice none 0 0] 8 rfl (World.shaped_of_RefB (by kernel_rfl) (by kernel_rfl)) (by kernel_rfl) (by kernel_rfl) (by kernel_rfl) (door_met os _)) ?_
  intro W base args ds gs before hval0 hW _ _ hL _
  have hval : ∀ (j : Nat) t v, Tryz.f3.params[j]? = some t → args[j]? = some v → Value.okWide Tryz.prog W .any base t v := hval0
  have hW' := hW
  obtain ⟨p, q, hA0, hV, rfl, hfz, hnd⟩ := hW
  have hA : DataW.TrodAll enc Tryz.prog W 0 (fun _ => true) true Tryz.f3.params.toList args.toList ds p := hA0
  rw [Tryz.params3] at hA hval
  obtain ⟨v0, vs0, d0, ds0, p0, q0, hargs, rfl, rfl, h0, r0⟩ := trodAll_cons hA
  obtain ⟨rfl, rfl, rfl⟩ := trodAll_nil r0
  obtain rfl : args = #[v0] := by cases args; simp_all
  obtain ⟨rfl, rfl⟩ := trodVars_none hV
  obtain ⟨a0, len0, cap0, rfl⟩ := okWide_slice Tryz.underlying22 (hval 0 22 v0 rfl rfl)
  have k0 := h0
  have lt0 : ∀ x ∈ p0, x.block < W.heap.size := by obtain ⟨m, hm⟩ := k0; exact DataW.trod_lt m _ _ _ hm
  obtain ⟨b0, z0, w0⟩ : ∃ b zs, InSer W b a0 len0 cap0 zs := by
    obtain ⟨fuel, hf⟩ := h0
    exact InSer.of_trod (by simpa [Value.cells] using hf)
  clear hA0 hval0
  refine (EncodeMatchesReference_walk b0 a0 len0 cap0 z0 W (gl_of_laid hL) w0).mono fun e W' ⟨he, bel⟩ => ?_
  subst he
  exact ⟨_, rfl, _, _, _, [], _, [], hW', trodAll_mk1 (shut_bool Tryz.underlying4 _), (trodAll_cons_mk (Below.trod (by kernel_rfl) (by kernel_rfl) (of_decide_eq_true (by kernel_rfl)) k0 bel lt0) trodAll_mk0), rfl, bel.frame _, fun h => by cases h⟩

/-- the row's statement -/
theorem EncodeMatchesReference_holds : Rows.EncodeMatchesReferenceSaid :=
  OpenClaim.holds_of_wide 3 Tryz.f3 rfl rfl rfl rfl rfl rfl rfl ⟨rfl, rfl, rfl, rfl, rfl⟩ rfl rfl rfl rfl rfl (by kernel_rfl) Tryz.func3 (by kernel_rfl)
    (of_decide_eq_true (by kernel_rfl)) (by unfold Func.isWrapper; first | (rw [if_pos (by decide +kernel)]; kernel_rfl) | (rw [if_neg (by decide +kernel)]; exact ⟨rfl, rfl⟩))
    (fun os started H enc _ => EncodeMatchesReference_lifted os started H enc)

/-- the card: the same, with what the two variables hold tied to the program's text -/
theorem EncodeMatchesReference_card : Rows.EncodeMatchesReferenceCardSaid :=
  Claim7.holds_tied_plain_at .later [] [.data, .data, .data] true (true, "f70a91afcaa5c4fba4acf7e1313873986f8c6bd085223fc9cf1ee93dd3d37b4a") false
    EncodeMatchesReference_holds (fun _ h => by cases h) (by kernel_rfl) (fun _ h => by cases h) encodeMatchesReference_row_tie rfl ⟨rfl, rfl⟩ (by kernel_rfl) rfl
    (fun f fn hf hfn => by
      obtain rfl : f = 3 := Option.some.inj ((show Tryz.prog.funcNamed "tsblock/tsblocklaw17.EncodeMatchesReference" = some 3 by kernel_rfl).symm.trans hf) |>.symm
      obtain rfl : fn = Tryz.f3 := (Option.some.inj (Tryz.func3.symm.trans hfn)).symm
      exact ⟨by kernel_rfl, fun j t ht => by
        rw [Tryz.params3] at ht
        have hm : t ∈ [22] := by simpa using Array.mem_of_getElem? ht
        have hall : ([22].all fun u => !Tryz.prog.wantsStandIn u) = true := by kernel_rfl
        exact (show Tryz.prog.wantsStandIn t = false by simpa using List.all_eq_true.1 hall t hm)⟩)
    (by kernel_rfl)
#print axioms EncodeMatchesReference_card
end Go.Proofs.YtobfpajapgakdaaGreatDoor
