/- EncodeDiffers: two blocks have the same encoding exactly if they are equal. No condition. -/
import Derived.Test.YticphebaflnedaaGreatDoorD11
import Derived.Test.YticphebaflnedaaGreatDoorDLEDiffersCl
import Derived.Test.YticphebaflnedaaGreatDoorDLEDiffersC2
import Derived.Test.YticphebaflnedaaGreatDoorTie
import Derived.Test.YticphebaflnedaaGreatDoorCards
import Derived.SevenTiedAt
import Derived.Stop.Joined
namespace Go.Proofs.YticphebaflnedaaGreatDoor
open Go Go.RowKit Go.Lib Go.Sort Go.Shelf

set_option maxRecDepth 100000 in
set_option maxHeartbeats 1600000 in
theorem EncodeDiffers_walk (b0 : Nat) (a0 : Option Addr) (len0 cap0 : Nat) (z0 : List Ser) (b1 : Nat) (a1 : Option Addr) (len1 cap1 : Nat) (z1 : List Ser) (w : World) (hG : Gl w) (w0 : InSer w b0 a0 len0 cap0 z0) (w1 : InSer w b1 a1 len1 cap1 z1) :
    Calls Tryz.prog 4 #[.slice a0 len0 cap0, .slice a1 len1 cap1] w fun e w' => e = .returned (.bool true) ∧ Below w.heap.size w w' := by
  have hl0 := w0.len
  have hl1 := w1.len
  subst hl0 hl1
  have HG := Lib.hid hG
  have HL := Lib.hid (Large_any w b0 a0 z0.length cap0 z0 w0)
  have HL1 := Lib.hid fun (W : World) (hN : Nw w W) => Large_any W b1 a1 z1.length cap1 z1 (w1.nw hN)
  have HI := Lib.hid w0
  have HI1 := Lib.hid w1
  have HAl := Lib.hid fun (W : World) (hN : Nw w W) => aliveE_any W (hG.nw hN)
  clear hG w0 w1
  go_enter Tryz.func4, Tryz.ntmps4
  go_wp2_with fail
  refine HL.out.mono ?_
  rintro e w1 ⟨v, rfl, hv, hN1⟩
  have HN1 := Lib.hid hN1
  clear hN1
  rcases hv with rfl | ⟨rfl, hF⟩
  · go_wp2_with fail
    refine (HAl.out _ HN1.out).mono ?_
    rintro e w2 ⟨rfl, hN2⟩
    go_wp2
    go_ret
    exact ⟨rfl, HN1.out.trans hN2⟩
  have HF := Lib.hid hF
  clear hF
  go_wp2_with fail
  refine (HL1.out _ HN1.out).mono ?_
  rintro e w2 ⟨v, rfl, hv, hN2⟩
  have HN2 := Lib.hid (HN1.out.trans hN2)
  clear hN2
  rcases hv with rfl | ⟨rfl, hF1⟩
  · go_wp2_with fail
    refine (HAl.out _ HN2.out).mono ?_
    rintro e w3 ⟨rfl, hN3⟩
    go_wp2
    go_ret
    exact ⟨rfl, HN2.out.trans hN3⟩
  have HF1 := Lib.hid hF1
  clear hF1
  have HC : Hid (∀ W, Nw w W → Calls Tryz.prog 16 #[.slice a0 z0.length cap0] W fun e w' => e = .returned (.int .i64 (blkE z0 : Nat)) ∧ Nw W w') := Lib.hid fun W hN => by
    have hfl := HF.out.1
    have hfs := HF.out.2.1
    exact RCheck_any W b0 a0 z0.length cap0 z0 (HI.out.nw hN) (by omega) (by omega) (fun s hs => Nat.le_trans (fits_smp HF.out s hs).1 (by omega))
  have HC1 : Hid (∀ W, Nw w W → Calls Tryz.prog 16 #[.slice a1 z1.length cap1] W fun e w' => e = .returned (.int .i64 (blkE z1 : Nat)) ∧ Nw W w') := Lib.hid fun W hN => by
    have hfl := HF1.out.1
    have hfs := HF1.out.2.1
    exact RCheck_any W b1 a1 z1.length cap1 z1 (HI1.out.nw hN) (by omega) (by omega) (fun s hs => Nat.le_trans (fits_smp HF1.out s hs).1 (by omega))
  by_cases h0 : blkE z0 = 0
  case neg =>
    obtain ⟨E, hE⟩ : ∃ E, blkE z0 = E := ⟨_, rfl⟩
    rw [hE] at HC h0
    have hE1 : ((E : Int) != 0) = true := by rw [bne_iff_ne]; omega
    clear hE
    go_wp2_with fail
    refine (HC.out _ HN2.out).mono ?_
    rintro e w3 ⟨rfl, hN3⟩
    have HN3 := Lib.hid (HN2.out.trans hN3)
    clear hN3
    go_wp2_with fail
    refine (HAl.out _ HN3.out).mono ?_
    rintro e w4 ⟨rfl, hN4⟩
    go_wp2
    go_ret
    exact ⟨rfl, HN3.out.trans hN4⟩
  have HB : Hid (BlkV (z0.map valB)) := Lib.hid (blkE_v h0 (fun s hs => (HI.out.ok s hs).2.wf))
  have HE := Lib.hid fun (W : World) (hN : Nw w W) => EncodeE_ok W b0 a0 z0.length cap0 z0 (HI.out.nw hN) HF.out h0 (HG.out.nw hN)
  rw [h0] at HC
  clear h0
  go_wp2_with fail
  refine (HC.out _ HN2.out).mono ?_
  rintro e w3 ⟨rfl, hN3⟩
  have HN3 := Lib.hid (HN2.out.trans hN3)
  clear hN3
  by_cases h1 : blkE z1 = 0
  case neg =>
    obtain ⟨E, hE⟩ : ∃ E, blkE z1 = E := ⟨_, rfl⟩
    rw [hE] at HC1 h1
    have hE1 : ((E : Int) != 0) = true := by rw [bne_iff_ne]; omega
    clear hE
    go_wp2_with fail
    refine (HC1.out _ HN3.out).mono ?_
    rintro e w4 ⟨rfl, hN4⟩
    have HN4 := Lib.hid (HN3.out.trans hN4)
    clear hN4
    go_wp2_with fail
    refine (HAl.out _ HN4.out).mono ?_
    rintro e w5 ⟨rfl, hN5⟩
    go_wp2
    go_ret
    exact ⟨rfl, HN4.out.trans hN5⟩
  have HB1 : Hid (BlkV (z1.map valB)) := Lib.hid (blkE_v h1 (fun s hs => (HI1.out.ok s hs).2.wf))
  have HE1 := Lib.hid fun (W : World) (hN : Nw w W) => EncodeE_ok W b1 a1 z1.length cap1 z1 (HI1.out.nw hN) HF1.out h1 (HG.out.nw hN)
  rw [h1] at HC1
  clear h1
  have HEq : Hid (∀ W, Nw w W → Calls Tryz.prog 24 #[.slice a0 z0.length cap0, .slice a1 z1.length cap1] W fun e w' => Says e (z0.map valB = z1.map valB) ∧ Nw W w') := Lib.hid fun W hN => by
    have hfl := HF.out.1
    have hfl1 := HF1.out.1
    have h0 := HI.out.nw hN
    have h1 := HI1.out.nw hN
    exact REqual_any W b0 b1 a0 a1 z0.length cap0 z1.length cap1 z0 z1 rfl rfl (by omega) (by omega) h0.rd h1.rd
      (fun s hs => ⟨h0.ok s hs, Nat.le_trans (fits_smp HF.out s hs).1 (by omega), Nat.le_trans (fits_smp HF.out s hs).2 (by omega)⟩)
      (fun s hs => ⟨h1.ok s hs, Nat.le_trans (fits_smp HF1.out s hs).1 (by omega), Nat.le_trans (fits_smp HF1.out s hs).2 (by omega)⟩)
  have HD : Hid (fileB (z0.map valB) = fileB (z1.map valB) ↔ z0.map valB = z1.map valB) := Lib.hid ⟨fileB_inj HB.out HB1.out (fits_few HF.out) (fits_few HF1.out), fun h => by rw [h]⟩
  have HBy0 : Hid (∀ x ∈ fileB (z0.map valB), x < 256) := Lib.hid (fileB_lt HB.out (fits_few HF.out))
  have HBy1 : Hid (∀ x ∈ fileB (z1.map valB), x < 256) := Lib.hid (fileB_lt HB1.out (fits_few HF1.out))
  generalize z0.map valB = V0 at *
  generalize z1.map valB = V1 at *
  generalize fileB V0 = B0 at *
  generalize fileB V1 = B1 at *
  clear HF HF1 HB HB1 HL HL1 HI HI1
  go_wp2_with fail
  refine (HC1.out _ HN3.out).mono ?_
  rintro e w4 ⟨rfl, hN4⟩
  have HN4 := Lib.hid (HN3.out.trans hN4)
  clear hN4
  go_wp2_with fail
  refine (HE.out _ HN4.out).mono ?_
  rintro e w5 ⟨b5, A5, c5, rfl, hO5, _, hN5⟩
  have HO5 := Lib.hid hO5
  have HN5 := Lib.hid (HN4.out.trans hN5)
  clear hO5 hN5
  go_wp2_with fail
  refine (HE1.out _ HN5.out).mono ?_
  rintro e w6 ⟨b6, A6, c6, rfl, hO6, _, hN6⟩
  have HO5 := Lib.hid (HO5.out.nw hN6)
  have HO6 := Lib.hid hO6
  have HN6 := Lib.hid (HN5.out.trans hN6)
  clear hO6 hN6
  go_wp2_with fail
  refine (HAl.out _ HN6.out).mono ?_
  rintro e w7 ⟨rfl, hN7⟩
  have HX := Lib.hid (bytesEqual_any w7 b5 b6 A5 A6 B0.length c5 B1.length c6 B0 B1 rfl rfl (HO5.out.nw hN7).rd (HO6.out.nw hN7).rd HBy0.out HBy1.out)
  have HN7 := Lib.hid (HN6.out.trans hN7)
  clear hN7
  go_wp2_with fail
  refine HX.out.mono ?_
  rintro e w8 ⟨rfl, hw8⟩
  subst hw8
  go_wp2_with fail
  refine (HEq.out _ HN7.out).mono ?_
  rintro e w9 ⟨⟨r, rfl, hr⟩, hN9⟩
  have hd : decide (B0 = B1) = r := by
    rw [← HD.out] at hr
    by_cases h : B0 = B1
    · rw [decide_eq_true h, hr.2 h]
    · rw [decide_eq_false h]
      cases r
      · rfl
      · exact (h (hr.1 rfl)).elim
  rw [hd]
  have HN9 := Lib.hid (HN7.out.trans hN9)
  clear hN9 hd hr
  cases r
  all_goals
    go_wp2_with fail
    go_ret
    exact ⟨rfl, HN9.out⟩

open Go.ChangeShapes Go.WideShapes Go.ChangeAt Go.RowKit in
set_option linter.unusedVariables false in
set_option maxRecDepth 100000 in
theorem EncodeDiffers_lifted (os : Os) (started : os.Started) (H : Type) (enc : TypeId × Value → H) :
    ReturnsInHanded {} Tryz.checked os 4 .any (fun w args => (Rows.encodeDiffersSpec.pre enc Tryz.prog Tryz.f4 [] false w args ∧ laidMetH Tryz.prog laid3 w) ∧ sizedMet enc Tryz.prog Tryz.f4 (OpenSpec.ofChange Rows.encodeDiffersSpec) false w args)
      (Rows.encodeDiffersSpec.post enc Tryz.prog Tryz.f4 false true false false) := by
  refine returnsInHanded_of_change_and (C := Tryz.checked) (X := fun w _ => laidMetH Tryz.prog laid3 w) (fun _ _ _ hh h => h.of_heap hh) own started (by kernel_rfl) Tryz.func4
    (ChangeSpec.witness_shaped (enc := enc) (C := Tryz.checked) (os := os) (X := fun w _ => laidMetH Tryz.prog laid3 w) false (World.doorLaid Tryz.prog 400 os) #[.slice none 0 0, .slice none 0 0] 8 rfl (World.shaped_of_RefB (by kernel_rfl) (by kernel_rfl)) (by kernel_rfl) (by kernel_rfl) (by kernel_rfl) (door_met os _)) ?_
  intro W base args ds gs before hval0 hW _ _ hL _
  have hval : ∀ (j : Nat) t v, Tryz.f4.params[j]? = some t → args[j]? = some v → Value.okWide Tryz.prog W .any base t v := hval0
  have hW' := hW
  obtain ⟨p, q, hA0, hV, rfl, hfz, hnd⟩ := hW
  have hA : DataW.TrodAll enc Tryz.prog W 0 (fun _ => true) true Tryz.f4.params.toList args.toList ds p := hA0
  rw [Tryz.params4] at hA hval
  obtain ⟨v0, vs0, d0, ds0, p0, q0, hargs, rfl, rfl, h0, r0⟩ := trodAll_cons hA
  obtain ⟨v1, vs1, d1, ds1, p1, q1, rfl, rfl, rfl, h1, r1⟩ := trodAll_cons r0
  obtain ⟨rfl, rfl, rfl⟩ := trodAll_nil r1
  obtain rfl : args = #[v0, v1] := by cases args; simp_all
  obtain ⟨rfl, rfl⟩ := trodVars_none hV
  obtain ⟨a0, len0, cap0, rfl⟩ := okWide_slice Tryz.underlying22 (hval 0 22 v0 rfl rfl)
  have k0 := h0
  have lt0 : ∀ x ∈ p0, x.block < W.heap.size := by obtain ⟨m, hm⟩ := k0; exact DataW.trod_lt m _ _ _ hm
  obtain ⟨b0, z0, w0⟩ : ∃ b zs, InSer W b a0 len0 cap0 zs := by
    obtain ⟨fuel, hf⟩ := h0
    exact InSer.of_trod (by simpa [Value.cells] using hf)
  obtain ⟨a1, len1, cap1, rfl⟩ := okWide_slice Tryz.underlying22 (hval 1 22 v1 rfl rfl)
  have k1 := h1
  have lt1 : ∀ x ∈ p1, x.block < W.heap.size := by obtain ⟨m, hm⟩ := k1; exact DataW.trod_lt m _ _ _ hm
  obtain ⟨b1, z1, w1⟩ : ∃ b zs, InSer W b a1 len1 cap1 zs := by
    obtain ⟨fuel, hf⟩ := h1
    exact InSer.of_trod (by simpa [Value.cells] using hf)
  clear hA0 hval0
  refine (EncodeDiffers_walk b0 a0 len0 cap0 z0 b1 a1 len1 cap1 z1 W (gl_of_laid hL) w0 w1).mono fun e W' ⟨he, bel⟩ => ?_
  subst he
  exact ⟨_, rfl, _, _, _, [], _, [], hW', trodAll_mk1 (shut_bool Tryz.underlying4 _), (trodAll_cons_mk (Below.trod (by kernel_rfl) (by kernel_rfl) (of_decide_eq_true (by kernel_rfl)) k0 bel lt0) (trodAll_cons_mk (Below.trod (by kernel_rfl) (by kernel_rfl) (of_decide_eq_true (by kernel_rfl)) k1 bel lt1) trodAll_mk0)), rfl, bel.frame _, fun h => by cases h⟩

/-- the row's statement -/
theorem EncodeDiffers_holds : Rows.EncodeDiffersSaid :=
  OpenClaim.holds_of_wide 4 Tryz.f4 rfl rfl rfl rfl rfl rfl rfl ⟨rfl, rfl, rfl, rfl, rfl⟩ rfl rfl rfl rfl rfl (by kernel_rfl) Tryz.func4 EncodeDiffers_closed
    (of_decide_eq_true (by kernel_rfl)) (by unfold Func.isWrapper; first | (rw [if_pos (by decide +kernel)]; kernel_rfl) | (rw [if_neg (by decide +kernel)]; exact ⟨rfl, rfl⟩))
    (fun os started H enc _ => EncodeDiffers_lifted os started H enc)

/-- the card: the same, with what the two variables hold tied to the program's text -/
theorem EncodeDiffers_card : Rows.EncodeDiffersCardSaid :=
  Claim7.holds_tied_plain_at .later [] [.data, .data, .data] true (true, "1bbaecd7858a41279382c4170c5d9ed6c5e863eaa616a6caf21a598e2bb8aeec") true
    EncodeDiffers_holds (fun _ h => by cases h) EncodeDiffers_wft (fun _ h => by cases h) encodeDiffers_row_tie rfl ⟨rfl, rfl⟩ EncodeDiffers_main rfl
    (fun f fn hf hfn => by
      obtain rfl : f = 4 := Option.some.inj (EncodeDiffers_named.symm.trans hf) |>.symm
      obtain rfl : fn = Tryz.f4 := (Option.some.inj (Tryz.func4.symm.trans hfn)).symm
      exact ⟨EncodeDiffers_looks, fun j t ht => by
        rw [Tryz.params4] at ht
        have hm : t ∈ [22, 22] := by simpa using Array.mem_of_getElem? ht
        have hall := EncodeDiffers_stand
        exact (show Tryz.prog.wantsStandIn t = false by simpa using List.all_eq_true.1 hall t hm)⟩)
    EncodeDiffers_goes
#print axioms EncodeDiffers_card
end Go.Proofs.YticphebaflnedaaGreatDoor
