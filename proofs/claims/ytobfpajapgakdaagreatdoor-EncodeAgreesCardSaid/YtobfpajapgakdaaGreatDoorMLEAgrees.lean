/- EncodeAgrees: Raw of a block is its encoding, and neither changes the block. No condition. -/
import Derived.Test.YtobfpajapgakdaaGreatDoorM14
import Derived.Test.YtobfpajapgakdaaGreatDoorTie
import Derived.Test.YtobfpajapgakdaaGreatDoorCards
import Derived.SevenTiedAt
import Derived.Stop.Joined
namespace Go.Proofs.YtobfpajapgakdaaGreatDoor
open Go Go.RowKit Go.Lib Go.Sort Go.Shelf

theorem blk_listU {V : List BVal} (h : BlkV V) : ListU V 0 V := by
  refine .inr ⟨V, ⟨rfl, fun i x y hx hy => ?_⟩, .inr ⟨rfl, List.Perm.refl _, h.srt⟩⟩
  rw [hx] at hy
  cases hy
  have hm := List.mem_of_getElem? hx
  exact .inr ⟨oneAll_zero.2 (h.one x hm), .inr ⟨List.Perm.refl _, h.asc x hm, .inr ⟨h.ne x hm, .inr ⟨rfl, List.Perm.refl _, h.tm x hm⟩⟩⟩⟩

set_option maxRecDepth 100000 in
set_option maxHeartbeats 1600000 in
theorem EncodeAgrees_walk (b0 : Nat) (a0 : Option Addr) (len0 cap0 : Nat) (z0 : List Ser) (w : World) (hG : Gl w) (w0 : InSer w b0 a0 len0 cap0 z0) :
    Calls Tryz.prog 6 #[.slice a0 len0 cap0] w fun e w' => e = .returned (.bool true) ∧ Below w.heap.size w w' := by
  have hl0 := w0.len
  subst hl0
  have HG := Lib.hid hG
  have HL := Lib.hid (Large_any w b0 a0 z0.length cap0 z0 w0)
  have HI := Lib.hid w0
  have HAl := Lib.hid fun (W : World) (hN : Nw w W) => aliveE_any W (hG.nw hN)
  clear hG w0
  go_enter Tryz.func6, Tryz.ntmps6
  go_wp2_with fail
  refine HL.out.mono ?_
  rintro e w1 ⟨v, rfl, hv, hN1⟩
  have HN1 := Lib.hid hN1
  clear hN1
  rcases hv with rfl | ⟨rfl, hF⟩
  · go_wp2_with fail
    refine (HAl.out _ HN1.out).mono ?_
    rintro e w2 ⟨rfl, hN2⟩
    go_wp2
    go_ret
    exact ⟨rfl, HN1.out.trans hN2⟩
  have hfl := hF.1
  have hfs := hF.2.1
  have hln0 := HI.out.len
  have HF := Lib.hid hF
  have HC := Lib.hid fun (W : World) (hN : Nw w W) => RCheck_any W b0 a0 z0.length cap0 z0 (HI.out.nw hN) (by omega) (by omega) (fun s hs => Nat.le_trans (fits_smp hF s hs).1 (by omega))
  by_cases h0 : blkE z0 = 0
  case neg =>
    obtain ⟨E, hE⟩ : ∃ E, blkE z0 = E := ⟨_, rfl⟩
    rw [hE] at HC h0
    have hE1 : ((E : Int) != 0) = true := by rw [bne_iff_ne]; omega
    clear hE hF
    go_wp2_with fail
    refine (HC.out _ HN1.out).mono ?_
    rintro e w2 ⟨rfl, hN2⟩
    have HN2 := Lib.hid (HN1.out.trans hN2)
    clear hN2
    go_wp2_with fail
    refine (HAl.out _ HN2.out).mono ?_
    rintro e w3 ⟨rfl, hN3⟩
    go_wp2
    go_ret
    exact ⟨rfl, HN2.out.trans hN3⟩
  have HB : Hid (BlkV (z0.map valB)) := Lib.hid (blkE_v h0 (fun s hs => (HI.out.ok s hs).2.wf))
  rw [h0] at HC
  have HE := Lib.hid fun (W : World) (hN : Nw w W) => EncodeE_ok W b0 a0 z0.length cap0 z0 (HI.out.nw hN) hF h0 (HG.out.nw hN)
  have HR := Lib.hid fun (W : World) (hN : Nw w W) => REncodeE_ok W b0 a0 z0.length cap0 z0 (HI.out.nw hN) hF h0
  have HW := Lib.hid fun (W : World) (hN : Nw w W) => Raw_any W b0 a0 z0.length cap0 z0 (HI.out.nw hN) hF (HG.out.nw hN)
  have HBy : Hid (∀ x ∈ fileB (z0.map valB), x < 256) := Lib.hid (fileB_lt HB.out (fits_few hF))
  have HLU := Lib.hid (blk_listU HB.out)
  obtain ⟨V, hV⟩ : ∃ V, z0.map valB = V := ⟨_, rfl⟩
  rw [hV] at HE HR HW HBy HLU
  clear hV h0 hF
  go_wp2_with fail
  refine (HC.out _ HN1.out).mono ?_
  rintro e w2 ⟨rfl, hN2⟩
  have HN2 := Lib.hid (HN1.out.trans hN2)
  clear hN2
  go_wp2_with fail
  refine (HR.out _ HN2.out).mono ?_
  rintro e w3 ⟨b3, A3, c3, rfl, hO3, _, hN3⟩
  have HO3 := Lib.hid hO3
  have HN3 := Lib.hid (HN2.out.trans hN3)
  clear hO3 hN3
  go_wp2_with fail
  refine (HE.out _ HN3.out).mono ?_
  rintro e w4 ⟨b4, A4, c4, rfl, hO4, _, hN4⟩
  have HO3 := Lib.hid (HO3.out.nw hN4)
  have HO4 := Lib.hid hO4
  have HN4 := Lib.hid (HN3.out.trans hN4)
  clear hO4 hN4
  go_wp2_with fail
  refine (HW.out _ HN4.out).mono ?_
  rintro e w5 ⟨hN5, E, r, hU, hres⟩
  obtain ⟨hE, hr⟩ := hU.one HLU.out
  have hr2 := hr hE
  clear hr
  subst hE hr2
  rcases hres with ⟨h, _⟩ | ⟨_, b5, A5, c5, rfl, hO5, _, _⟩
  · exact (h rfl).elim
  have HO3 := Lib.hid (HO3.out.nw hN5)
  have HO4 := Lib.hid (HO4.out.nw hN5)
  have HO5 := Lib.hid hO5
  have HN5 := Lib.hid (HN4.out.trans hN5)
  clear hO5 hN5 hU
  obtain ⟨B, hB⟩ : ∃ B, fileB r = B := ⟨_, rfl⟩
  rw [hB] at HBy HO3 HO4 HO5 HR ⊢
  clear hB HLU
  go_wp2_with fail
  refine (HR.out _ HN5.out).mono ?_
  rintro e w6 ⟨b6, A6, c6, rfl, hO6, _, hN6⟩
  have HO3 := Lib.hid (HO3.out.nw hN6)
  have HO4 := Lib.hid (HO4.out.nw hN6)
  have HO5 := Lib.hid (HO5.out.nw hN6)
  have HO6 := Lib.hid hO6
  have HN6 := Lib.hid (HN5.out.trans hN6)
  clear hO6 hN6
  go_wp2_with fail
  refine (HAl.out _ HN6.out).mono ?_
  rintro e w7 ⟨rfl, hN7⟩
  have HX := Lib.hid (bytesEqual_same w7 b4 b5 A4 A5 B.length c4 B.length c5 B rfl rfl (HO4.out.nw hN7).rd (HO5.out.nw hN7).rd HBy.out)
  have HY := Lib.hid (bytesEqual_same w7 b3 b6 A3 A6 B.length c3 B.length c6 B rfl rfl (HO3.out.nw hN7).rd (HO6.out.nw hN7).rd HBy.out)
  have HZ := Lib.hid (bytesEqual_same w7 b4 b3 A4 A3 B.length c4 B.length c3 B rfl rfl (HO4.out.nw hN7).rd (HO3.out.nw hN7).rd HBy.out)
  have HN7 := Lib.hid (HN6.out.trans hN7)
  clear hN7
  go_wp2_with fail
  refine HX.out.mono ?_
  rintro e w8 ⟨rfl, hw8⟩
  subst hw8
  go_wp2_with fail
  refine HY.out.mono ?_
  rintro e w9 ⟨rfl, hw9⟩
  subst hw9
  go_wp2_with fail
  refine HZ.out.mono ?_
  rintro e w10 ⟨rfl, hw10⟩
  subst hw10
  go_wp2_with fail
  go_ret
  exact ⟨rfl, HN7.out⟩

open Go.ChangeShapes Go.WideShapes Go.ChangeAt Go.RowKit in
set_option linter.unusedVariables false in
set_option maxRecDepth 100000 in
theorem EncodeAgrees_lifted (os : Os) (started : os.Started) (H : Type) (enc : TypeId × Value → H) :
    ReturnsInHanded {} Tryz.checked os 6 .any (fun w args => (Rows.encodeAgreesSpec.pre enc Tryz.prog Tryz.f6 [] false w args ∧ laidMetH Tryz.prog laid3 w) ∧ sizedMet enc Tryz.prog Tryz.f6 (OpenSpec.ofChange Rows.encodeAgreesSpec) false w args)
      (Rows.encodeAgreesSpec.post enc Tryz.prog Tryz.f6 false true false false) := by
  refine returnsInHanded_of_change_and (C := Tryz.checked) (X := fun w _ => laidMetH Tryz.prog laid3 w) (fun _ _ _ hh h => h.of_heap hh) own started (by kernel_rfl) Tryz.func6
    (ChangeSpec.witness_shaped (enc := enc) (C := Tryz.checked) (os := os) (X := fun w _ => laidMetH Tryz.prog laid3 w) false (World.doorLaid Tryz.prog 400 os) #[.slice none 0 0] 8 rfl (World.shaped_of_RefB (by kernel_rfl) (by kernel_rfl)) (by kernel_rfl) (by kernel_rfl) (by kernel_rfl) (door_met os _)) ?_
  intro W base args ds gs before hval0 hW _ _ hL _
  have hval : ∀ (j : Nat) t v, Tryz.f6.params[j]? = some t → args[j]? = some v → Value.okWide Tryz.prog W .any base t v := hval0
  have hW' := hW
  obtain ⟨p, q, hA0, hV, rfl, hfz, hnd⟩ := hW
  have hA : DataW.TrodAll enc Tryz.prog W 0 (fun _ => true) true Tryz.f6.params.toList args.toList ds p := hA0
  rw [Tryz.params6] at hA hval
  obtain ⟨v0, vs0, d0, ds0, p0, q0, hargs, rfl, rfl, h0, r0⟩ := trodAll_cons hA
  obtain ⟨rfl, rfl, rfl⟩ := trodAll_nil r0
  obtain rfl : args = #[v0] := by cases args; simp_all
  obtain ⟨rfl, rfl⟩ := trodVars_none hV
  obtain ⟨a0, len0, cap0, rfl⟩ := okWide_slice Tryz.underlying22 (hval 0 22 v0 rfl rfl)
  have k0 := h0
  have lt0 : ∀ x ∈ p0, x.block < W.heap.size := by obtain ⟨m, hm⟩ := k0; exact DataW.trod_lt m _ _ _ hm
  obtain ⟨b0, z0, w0⟩ : ∃ b zs, InSer W b a0 len0 cap0 zs := by
    obtain ⟨fuel, hf⟩ := h0
    exact InSer.of_trod (by simpa [Value.cells] using hf)
  clear hA0 hval0
  refine (EncodeAgrees_walk b0 a0 len0 cap0 z0 W (gl_of_laid hL) w0).mono fun e W' ⟨he, bel⟩ => ?_
  subst he
  exact ⟨_, rfl, _, _, _, [], _, [], hW', trodAll_mk1 (shut_bool Tryz.underlying4 _), (trodAll_cons_mk (Below.trod (by kernel_rfl) (by kernel_rfl) (of_decide_eq_true (by kernel_rfl)) k0 bel lt0) trodAll_mk0), rfl, bel.frame _, fun h => by cases h⟩

/-- the row's statement -/
theorem EncodeAgrees_holds : Rows.EncodeAgreesSaid :=
  OpenClaim.holds_of_wide 6 Tryz.f6 rfl rfl rfl rfl rfl rfl rfl ⟨rfl, rfl, rfl, rfl, rfl⟩ rfl rfl rfl rfl rfl (by kernel_rfl) Tryz.func6 (by kernel_rfl)
    (of_decide_eq_true (by kernel_rfl)) (by unfold Func.isWrapper; first | (rw [if_pos (by decide +kernel)]; kernel_rfl) | (rw [if_neg (by decide +kernel)]; exact ⟨rfl, rfl⟩))
    (fun os started H enc _ => EncodeAgrees_lifted os started H enc)

/-- the card: the same, with what the two variables hold tied to the program's text -/
theorem EncodeAgrees_card : Rows.EncodeAgreesCardSaid :=
  Claim7.holds_tied_plain_at .later [] [.data, .data, .data] true (true, "f70a91afcaa5c4fba4acf7e1313873986f8c6bd085223fc9cf1ee93dd3d37b4a") false
    EncodeAgrees_holds (fun _ h => by cases h) (by kernel_rfl) (fun _ h => by cases h) encodeAgrees_row_tie rfl ⟨rfl, rfl⟩ (by kernel_rfl) rfl
    (fun f fn hf hfn => by
      obtain rfl : f = 6 := Option.some.inj ((show Tryz.prog.funcNamed "tsblock/tsblocklaw17.EncodeAgrees" = some 6 by kernel_rfl).symm.trans hf) |>.symm
      obtain rfl : fn = Tryz.f6 := (Option.some.inj (Tryz.func6.symm.trans hfn)).symm
      exact ⟨by kernel_rfl, fun j t ht => by
        rw [Tryz.params6] at ht
        have hm : t ∈ [22] := by simpa using Array.mem_of_getElem? ht
        have hall : ([22].all fun u => !Tryz.prog.wantsStandIn u) = true := by kernel_rfl
        exact (show Tryz.prog.wantsStandIn t = false by simpa using List.all_eq_true.1 hall t hm)⟩)
    (by kernel_rfl)
#print axioms EncodeAgrees_card
end Go.Proofs.YtobfpajapgakdaaGreatDoor
