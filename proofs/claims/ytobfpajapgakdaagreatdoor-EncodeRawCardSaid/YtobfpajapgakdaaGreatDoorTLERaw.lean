/- EncodeRaw: for every list of series, Raw returns the encoding of the normalized series, or the error of Normalize. No condition. -/
import Derived.Test.YtobfpajapgakdaaGreatDoorT14
import Derived.Test.YtobfpajapgakdaaGreatDoorTie
import Derived.Test.YtobfpajapgakdaaGreatDoorCards
import Derived.SevenTiedAt
import Derived.Stop.Joined
namespace Go.Proofs.YtobfpajapgakdaaGreatDoor
open Go Go.RowKit Go.Lib Go.Sort Go.Shelf

set_option maxRecDepth 100000 in
set_option maxHeartbeats 1600000 in
theorem EncodeRaw_walk (b0 : Nat) (a0 : Option Addr) (len0 cap0 : Nat) (z0 : List Ser) (w : World) (hG : Gl w) (w0 : InSer w b0 a0 len0 cap0 z0) :
    Calls Tryz.prog 5 #[.slice a0 len0 cap0] w fun e w' => e = .returned (.bool true) ∧ Below w.heap.size w w' := by
  have hl0 := w0.len
  subst hl0
  have HG := Lib.hid hG
  have HL := Lib.hid (Large_any w b0 a0 z0.length cap0 z0 w0)
  have HI := Lib.hid w0
  have HAl := Lib.hid fun (W : World) (hN : Nw w W) => aliveE_any W (hG.nw hN)
  clear hG w0
  go_enter Tryz.func5, Tryz.ntmps5
  go_wp2_with fail
  refine HL.out.mono ?_
  rintro e w1 ⟨v, rfl, hv, hN1⟩
  have HN1 := Lib.hid hN1
  clear hN1
  rcases hv with rfl | ⟨rfl, hF⟩
  · go_wp2_with fail
    refine (HAl.out _ HN1.out).mono ?_
    rintro e w2 ⟨rfl, hN2⟩
    go_wp2
    go_ret
    exact ⟨rfl, HN1.out.trans hN2⟩
  have hfl := hF.1
  have hfs := hF.2.1
  have HF := Lib.hid hF
  have HE := Lib.hid fun (W : World) (hN : Nw w W) => Raw_any W b0 a0 z0.length cap0 z0 (HI.out.nw hN) hF (HG.out.nw hN)
  have HR := Lib.hid fun (W : World) (hN : Nw w W) => RNormM_any W b0 a0 z0.length cap0 z0 (HI.out.nw hN) (by omega) (by omega) (fits_smp hF)
  clear hF
  go_wp2_with fail
  refine (HE.out _ HN1.out).mono ?_
  rintro e w2 ⟨hN2, E, r, hU, hres⟩
  have HN2 := Lib.hid (HN1.out.trans hN2)
  have HU := Lib.hid hU
  rcases hres with ⟨hE, rfl⟩ | ⟨hE, b2, A2, c2, rfl, hO2, _, _⟩
  · have hEE : ((E : Int) == (E : Int)) = true := by simp
    have hE1 : ((E : Int) != 0) = true := by rw [bne_iff_ne]; omega
    clear hN2 hU
    go_wp2_with fail
    refine (HR.out _ HN2.out).mono ?_
    rintro e w3 ⟨hN3, E3, r3, hL3, hres3⟩
    obtain ⟨rfl, _⟩ := HU.out.one hL3.u
    have HN3 := Lib.hid (HN2.out.trans hN3)
    rcases hres3 with ⟨_, rfl⟩ | ⟨h, _⟩
    · clear hN3 hL3 HU
      go_wp2_with fail
      refine (HAl.out _ HN3.out).mono ?_
      rintro e w4 ⟨rfl, hN4⟩
      have HN4 := Lib.hid (HN3.out.trans hN4)
      clear hN4
      go_wp2_with fail
      go_ret
      exact ⟨rfl, HN4.out⟩
    · exact (hE h).elim
  · subst hE
    have HO2 := Lib.hid hO2
    clear hN2 hU hO2
    go_wp2_with fail
    refine (HR.out _ HN2.out).mono ?_
    rintro e w3 ⟨hN3, E3, r3, hL3, hres3⟩
    obtain ⟨hE3, hr3⟩ := HU.out.one hL3.u
    have hr3 := hr3 rfl
    subst hE3 hr3
    have HN3 := Lib.hid (HN2.out.trans hN3)
    have HO3 := Lib.hid (HO2.out.nw hN3)
    rcases hres3 with ⟨h, _⟩ | ⟨_, g, Ag, cg, l', rfl, hr, hln, hOg, hok⟩
    · exact (h rfl).elim
    have hU2 := HU.out
    rw [← hr] at hU2
    obtain ⟨hf2, h02⟩ := norm_blk HF.out hU2 hln
    have hIn : InSer w3 g Ag z0.length cg l' := ⟨hOg.rd, hln.symm, hOg.nilc, hOg.cap.1, hOg.cap.2, fun s hs => (hok s hs).1⟩
    have HRE := Lib.hid (REncodeE_ok w3 g Ag z0.length cg l' hIn hf2 h02)
    have HBy : Hid (∀ x ∈ fileB r, x < 256) := Lib.hid (by
      rw [← hr]
      exact fileB_lt (blkE_v h02 (fun s hs => (hok s hs).1.2.wf)) (fits_few hf2))
    rw [show l'.map valB = r from hr] at HRE
    obtain ⟨B, hB⟩ : ∃ B, fileB r = B := ⟨_, rfl⟩
    rw [hB] at HRE HBy HO3
    rw [hB]
    clear hN3 hL3 HU hr hln hOg hok hU2 hf2 h02 hIn hB HO2
    go_wp2_with fail
    refine HRE.out.mono ?_
    rintro e w4 ⟨b4, A4, c4, rfl, hO4, _, hN4⟩
    have HO4 := Lib.hid hO4
    have HO34 := Lib.hid (HO3.out.nw hN4)
    have HN4 := Lib.hid (HN3.out.trans hN4)
    clear hO4 hN4
    go_wp2_with fail
    refine (HAl.out _ HN4.out).mono ?_
    rintro e w5 ⟨rfl, hN5⟩
    have HBe := Lib.hid (bytesEqual_same w5 b2 b4 A2 A4 B.length c2 B.length c4 B rfl rfl (HO34.out.nw hN5).rd (HO4.out.nw hN5).rd HBy.out)
    have HN5 := Lib.hid (HN4.out.trans hN5)
    clear hN5
    go_wp2_with fail
    refine HBe.out.mono ?_
    rintro e w6 ⟨rfl, hw6⟩
    subst hw6
    go_wp2_with fail
    go_ret
    exact ⟨rfl, HN5.out⟩

open Go.ChangeShapes Go.WideShapes Go.ChangeAt Go.RowKit in
set_option linter.unusedVariables false in
set_option maxRecDepth 100000 in
theorem EncodeRaw_lifted (os : Os) (started : os.Started) (H : Type) (enc : TypeId × Value → H) :
    ReturnsInHanded {} Tryz.checked os 5 .any (fun w args => (Rows.encodeRawSpec.pre enc Tryz.prog Tryz.f5 [] false w args ∧ laidMetH Tryz.prog laid3 w) ∧ sizedMet enc Tryz.prog Tryz.f5 (OpenSpec.ofChange Rows.encodeRawSpec) false w args)
      (Rows.encodeRawSpec.post enc Tryz.prog Tryz.f5 false true false false) := by
  refine returnsInHanded_of_change_and (C := Tryz.checked) (X := fun w _ => laidMetH Tryz.prog laid3 w) (fun _ _ _ hh h => h.of_heap hh) own started (by kernel_rfl) Tryz.func5
    (ChangeSpec.witness_shaped (enc := enc) (C := Tryz.checked) (os := os) (X := fun w _ => laidMetH Tryz.prog laid3 w) false (World.doorLaid Tryz.prog 400 os) #[.slice none 0 0] 8 rfl (World.shaped_of_RefB (by kernel_rfl) (by kernel_rfl)) (by kernel_rfl) (by kernel_rfl) (by kernel_rfl) (door_met os _)) ?_
  intro W base args ds gs before hval0 hW _ _ hL _
  have hval : ∀ (j : Nat) t v, Tryz.f5.params[j]? = some t → args[j]? = some v → Value.okWide Tryz.prog W .any base t v := hval0
  have hW' := hW
  obtain ⟨p, q, hA0, hV, rfl, hfz, hnd⟩ := hW
  have hA : DataW.TrodAll enc Tryz.prog W 0 (fun _ => true) true Tryz.f5.params.toList args.toList ds p := hA0
  rw [Tryz.params5] at hA hval
  obtain ⟨v0, vs0, d0, ds0, p0, q0, hargs, rfl, rfl, h0, r0⟩ := trodAll_cons hA
  obtain ⟨rfl, rfl, rfl⟩ := trodAll_nil r0
  obtain rfl : args = #[v0] := by cases args; simp_all
  obtain ⟨rfl, rfl⟩ := trodVars_none hV
  obtain ⟨a0, len0, cap0, rfl⟩ := okWide_slice Tryz.underlying22 (hval 0 22 v0 rfl rfl)
  have k0 := h0
  have lt0 : ∀ x ∈ p0, x.block < W.heap.size := by obtain ⟨m, hm⟩ := k0; exact DataW.trod_lt m _ _ _ hm
  obtain ⟨b0, z0, w0⟩ : ∃ b zs, InSer W b a0 len0 cap0 zs := by
    obtain ⟨fuel, hf⟩ := h0
    exact InSer.of_trod (by simpa [Value.cells] using hf)
  clear hA0 hval0
  refine (EncodeRaw_walk b0 a0 len0 cap0 z0 W (gl_of_laid hL) w0).mono fun e W' ⟨he, bel⟩ => ?_
  subst he
  exact ⟨_, rfl, _, _, _, [], _, [], hW', trodAll_mk1 (shut_bool Tryz.underlying4 _), (trodAll_cons_mk (Below.trod (by kernel_rfl) (by kernel_rfl) (of_decide_eq_true (by kernel_rfl)) k0 bel lt0) trodAll_mk0), rfl, bel.frame _, fun h => by cases h⟩

/-- the row's statement -/
theorem EncodeRaw_holds : Rows.EncodeRawSaid :=
  OpenClaim.holds_of_wide 5 Tryz.f5 rfl rfl rfl rfl rfl rfl rfl ⟨rfl, rfl, rfl, rfl, rfl⟩ rfl rfl rfl rfl rfl (by kernel_rfl) Tryz.func5 (by kernel_rfl)
    (of_decide_eq_true (by kernel_rfl)) (by unfold Func.isWrapper; first | (rw [if_pos (by decide +kernel)]; kernel_rfl) | (rw [if_neg (by decide +kernel)]; exact ⟨rfl, rfl⟩))
    (fun os started H enc _ => EncodeRaw_lifted os started H enc)

/-- the card: the same, with what the two variables hold tied to the program's text -/
theorem EncodeRaw_card : Rows.EncodeRawCardSaid :=
  Claim7.holds_tied_plain_at .later [] [.data, .data, .data] true (true, "f70a91afcaa5c4fba4acf7e1313873986f8c6bd085223fc9cf1ee93dd3d37b4a") false
    EncodeRaw_holds (fun _ h => by cases h) (by kernel_rfl) (fun _ h => by cases h) encodeRaw_row_tie rfl ⟨rfl, rfl⟩ (by kernel_rfl) rfl
    (fun f fn hf hfn => by
      obtain rfl : f = 5 := Option.some.inj ((show Tryz.prog.funcNamed "tsblock/tsblocklaw17.EncodeRaw" = some 5 by kernel_rfl).symm.trans hf) |>.symm
      obtain rfl : fn = Tryz.f5 := (Option.some.inj (Tryz.func5.symm.trans hfn)).symm
      exact ⟨by kernel_rfl, fun j t ht => by
        rw [Tryz.params5] at ht
        have hm : t ∈ [22] := by simpa using Array.mem_of_getElem? ht
        have hall : ([22].all fun u => !Tryz.prog.wantsStandIn u) = true := by kernel_rfl
        exact (show Tryz.prog.wantsStandIn t = false by simpa using List.all_eq_true.1 hall t hm)⟩)
    (by kernel_rfl)
#print axioms EncodeRaw_card
end Go.Proofs.YtobfpajapgakdaaGreatDoor
