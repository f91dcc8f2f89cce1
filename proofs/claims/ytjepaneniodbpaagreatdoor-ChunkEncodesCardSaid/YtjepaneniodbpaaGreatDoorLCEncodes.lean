/- ChunkEncodes: for every list of samples, Encode answers as the reference. No condition. -/
import Derived.Test.YtjepaneniodbpaaGreatDoorLaidIn
import Derived.Test.YtjepaneniodbpaaGreatDoorAliveC
import Derived.Test.YtjepaneniodbpaaGreatDoorREnc
import Derived.Test.YtjepaneniodbpaaGreatDoorTie
import Derived.Test.YtjepaneniodbpaaGreatDoorCards
import Derived.SevenTiedAt
import Derived.Stop.Joined
namespace Go.Proofs.YtjepaneniodbpaaGreatDoor
open Go Go.RowKit

set_option maxRecDepth 100000 in
set_option maxHeartbeats 3200000 in
theorem ChunkEncodes_walk (b0 : Nat) (a0 : Option Addr) (len0 cap0 : Nat) (z0 : List (Int × Nat)) (w : World) (hG : Gl w) (w0 : InSmp w b0 a0 len0 cap0 z0) :
    Calls Tryz.prog 3 #[.slice a0 len0 cap0] w fun e w' => e = .returned (.bool true) ∧ Below w.heap.size w w' := by
  have HG := Lib.hid hG
  have HI := Lib.hid w0
  have HAl := Lib.hid fun (W : World) (hN : Nw w W) => aliveC_any W (hG.nw hN)
  clear hG w0
  by_cases hbig : 2000 < len0
  · go_enter Tryz.func3, Tryz.ntmps3
    go_wp2_with (go_at_call 5; refine (HAl.out _ (Nw.refl _)).mono ?_; rintro e w1 ⟨rfl, hN⟩)
    go_ret
    exact ⟨rfl, hN⟩
  have HCl := Lib.hid (CloneS_any w b0 a0 len0 cap0 z0 HI.out.len (by omega) HI.out.rd HI.out.nil)
  by_cases h0 : len0 = 0
  · subst h0
    have hz : z0 = [] := List.eq_nil_of_length_eq_zero HI.out.len.symm
    subst hz
    go_enter Tryz.func3, Tryz.ntmps3
    go_wp2_with fail
    refine HCl.out.mono ?_
    rintro e w1 ⟨b1, A1, c1, rfl, hO1, hb1, hN1, hnc1⟩
    have HO1 := Lib.hid hO1
    have HEq : Hid (∀ W, Nw w1 W → Calls Tryz.prog 10 #[.slice a0 0 cap0, .slice A1 0 c1] W fun e w' => e = .returned (.bool true) ∧ Nw W w') := by
      refine Lib.hid fun W hN => ?_
      have h := EqualS_any W b0 b1 a0 A1 0 cap0 0 c1 [] [] rfl rfl (by omega) (by omega) (Rd.nil _ _ _) (Rd.nil _ _ _)
      rw [decide_eq_true rfl] at h
      exact h.mono fun _ _ x => ⟨x.1, x.2.nw⟩
    have HBe : Hid (∀ W, Calls Tryz.prog 9 #[.slice none 0 0, .slice none 0 0] W fun e w' => e = .returned (.bool true) ∧ W = w') :=
      Lib.hid fun W => bytesEqual_same W 0 0 none none 0 0 0 0 [] rfl rfl (Rd.nil _ _ _) (Rd.nil _ _ _) (by simp)
    have HE := Lib.hid fun W => Encode_empty W a0 cap0
    have HR := Lib.hid fun W => REncode_empty W a0 cap0
    clear hO1
    go_wp2_with (first
      | (go_at_call 7; refine (HE.out _).mono ?_; rintro e w2 ⟨rfl, hw⟩; subst hw)
      | (go_at_call 8; refine (HR.out _).mono ?_; rintro e w2 ⟨rfl, hw⟩; subst hw)
      | (go_at_call 5; refine (HAl.out _ hN1).mono ?_; rintro e w3 ⟨rfl, hN3⟩)
      | (go_at_call 9; refine (HBe.out _).mono ?_; rintro e w4 ⟨rfl, hw⟩; subst hw)
      | (go_at_call 10; refine (HEq.out _ hN3).mono ?_; rintro e w5 ⟨rfl, hN5⟩))
    go_ret
    exact ⟨rfl, (hN1.trans hN3).trans hN5⟩
  have n0 : ((len0 : Int) == 0) = false := by rw [beq_eq_false_iff_ne]; omega
  have HEqq : Hid (∀ (W1 : World) (b1 : Nat) (A1 : Option Addr) (c1 : Nat), len0 ≤ c1 → Nw w W1 → Ow W1 b1 27 2 A1 len0 c1 (cS z0) → ∀ W, Nw W1 W → Calls Tryz.prog 10 #[.slice a0 len0 cap0, .slice A1 len0 c1] W fun e w' => e = .returned (.bool true) ∧ Nw W w') := by
    refine Lib.hid fun W1 b1 A1 c1 _ hN1 hO1 W hN => ?_
    have h := EqualS_any W b0 b1 a0 A1 len0 cap0 len0 c1 z0 z0 HI.out.len HI.out.len (by omega) (by omega) ((HI.out.rd.nw hN1).nw hN) (hO1.nw hN).rd
    rw [decide_eq_true rfl] at h
    exact h.mono fun _ _ x => ⟨x.1, x.2.nw⟩
  by_cases h120 : 120 < len0
  · go_enter Tryz.func3, Tryz.ntmps3
    go_wp2_with fail
    refine HCl.out.mono ?_
    rintro e w1 ⟨b1, A1, c1, rfl, hO1, hb1, hN1, hnc1⟩
    have HEq := Lib.hid (HEqq.out w1 b1 A1 c1 hnc1 hN1 hO1)
    have HBe : Hid (∀ W, Calls Tryz.prog 9 #[.slice none 0 0, .slice none 0 0] W fun e w' => e = .returned (.bool true) ∧ W = w') :=
      Lib.hid fun W => bytesEqual_same W 0 0 none none 0 0 0 0 [] rfl rfl (Rd.nil _ _ _) (Rd.nil _ _ _) (by simp)
    have HE := Lib.hid fun W => Encode_limit W a0 len0 cap0 h120
    have HR := Lib.hid fun W => REncode_limit W a0 len0 cap0 h120
    clear hO1
    go_wp2_with (first
      | (go_at_call 7; refine (HE.out _).mono ?_; rintro e w2 ⟨rfl, hw⟩; subst hw)
      | (go_at_call 8; refine (HR.out _).mono ?_; rintro e w2 ⟨rfl, hw⟩; subst hw)
      | (go_at_call 5; refine (HAl.out _ hN1).mono ?_; rintro e w3 ⟨rfl, hN3⟩)
      | (go_at_call 9; refine (HBe.out _).mono ?_; rintro e w4 ⟨rfl, hw⟩; subst hw)
      | (go_at_call 10; refine (HEq.out _ hN3).mono ?_; rintro e w5 ⟨rfl, hN5⟩))
    go_ret
    exact ⟨rfl, (hN1.trans hN3).trans hN5⟩
  have HE : Hid (∀ W, Nw w W → _) := Lib.hid fun W (hN : Nw w W) => Encode_ok W b0 a0 len0 cap0 z0 HI.out.len (by omega) (by omega) (HI.out.rd.nw hN) HI.out.wf (HG.out.nw hN)
  have HR : Hid (∀ W, Nw w W → _) := Lib.hid fun W (hN : Nw w W) => REncode_ok W b0 a0 len0 cap0 z0 HI.out.len (by omega) (by omega) (HI.out.rd.nw hN) HI.out.wf
  obtain ⟨B, hB⟩ : ∃ B, pk (cbits (tsOf z0) (vsOf z0)) = B := ⟨_, rfl⟩
  have HBy : Hid (∀ x ∈ B, x < 256) := Lib.hid (by rw [← hB]; exact pk_lt _)
  rw [hB] at HE HR
  clear hB
  go_enter Tryz.func3, Tryz.ntmps3
  go_wp2_with fail
  refine HCl.out.mono ?_
  rintro e w1 ⟨b1, A1, c1, rfl, hO1, hb1, hN1, hnc1⟩
  have HEq := Lib.hid (HEqq.out w1 b1 A1 c1 hnc1 hN1 hO1)
  clear hO1
  go_wp2_with fail
  refine (HE.out _ hN1).mono ?_
  rintro e w2 ⟨b2, A2, c2, rfl, hO2, hb2, hN2⟩
  have HO2 := Lib.hid hO2
  clear hO2
  go_wp2_with fail
  refine (HR.out _ (hN1.trans hN2)).mono ?_
  rintro e w3 ⟨b3, A3, c3, rfl, hO3, hb3, hN3⟩
  have HBe : Hid (∀ W, Nw w3 W → Calls Tryz.prog 9 #[.slice A2 B.length c2, .slice A3 B.length c3] W fun e w' => e = .returned (.bool true) ∧ W = w') := by
    have HO3 := hO3
    exact Lib.hid fun W hN => bytesEqual_same W b2 b3 A2 A3 B.length c2 B.length c3 B rfl rfl ((HO2.out.nw hN3).nw hN).rd (HO3.nw hN).rd HBy.out
  have hN13 := hN2.trans hN3
  have hN03 := hN1.trans hN13
  clear hO3 HE HR
  go_wp2_with (first
    | (go_at_call 5; refine (HAl.out _ hN03).mono ?_; rintro e w4 ⟨rfl, hN4⟩)
    | (go_at_call 9; refine (HBe.out _ hN4).mono ?_; rintro e w5 ⟨rfl, hw⟩; subst hw)
    | (go_at_call 10; refine (HEq.out _ (hN13.trans hN4)).mono ?_; rintro e w6 ⟨rfl, hN6⟩))
  go_ret
  exact ⟨rfl, (hN03.trans hN4).trans hN6⟩

open Go.ChangeShapes Go.WideShapes Go.ChangeAt Go.RowKit in
set_option linter.unusedVariables false in
set_option maxRecDepth 100000 in
theorem ChunkEncodes_lifted (os : Os) (started : os.Started) (H : Type) (enc : TypeId × Value → H) :
    ReturnsInHanded {} Tryz.checked os 3 .any (fun w args => (Rows.chunkEncodesSpec.pre enc Tryz.prog Tryz.f3 [] false w args ∧ laidMetH Tryz.prog laid2 w) ∧ sizedMet enc Tryz.prog Tryz.f3 (OpenSpec.ofChange Rows.chunkEncodesSpec) false w args)
      (Rows.chunkEncodesSpec.post enc Tryz.prog Tryz.f3 false true false false) := by
  refine returnsInHanded_of_change_and (C := Tryz.checked) (X := fun w _ => laidMetH Tryz.prog laid2 w) (fun _ _ _ hh h => h.of_heap hh) own started (by kernel_rfl) Tryz.func3
    (ChangeSpec.witness_shaped (enc := enc) (C := Tryz.checked) (os := os) (X := fun w _ => laidMetH Tryz.prog laid2 w) false (World.doorLaid Tryz.prog 400 os) #[.slice none 0 0] 8 rfl (World.shaped_of_RefB (by kernel_rfl) (by kernel_rfl)) (by kernel_rfl) (by kernel_rfl) (by kernel_rfl) (door_met os _)) ?_
  intro W base args ds gs before hval0 hW _ _ hL _
  have hval : ∀ (j : Nat) t v, Tryz.f3.params[j]? = some t → args[j]? = some v → Value.okWide Tryz.prog W .any base t v := hval0
  have hW' := hW
  obtain ⟨p, q, hA0, hV, rfl, hfz, hnd⟩ := hW
  have hA : DataW.TrodAll enc Tryz.prog W 0 (fun _ => true) true Tryz.f3.params.toList args.toList ds p := hA0
  rw [Tryz.params3] at hA hval
  obtain ⟨v0, vs0, d0, ds0, p0, q0, hargs, rfl, rfl, h0, r0⟩ := trodAll_cons hA
  obtain ⟨rfl, rfl, rfl⟩ := trodAll_nil r0
  obtain rfl : args = #[v0] := by cases args; simp_all
  obtain ⟨rfl, rfl⟩ := trodVars_none hV
  obtain ⟨a0, len0, cap0, rfl⟩ := okWide_slice Tryz.underlying22 (hval 0 22 v0 rfl rfl)
  have k0 := h0
  have lt0 : ∀ x ∈ p0, x.block < W.heap.size := by obtain ⟨m, hm⟩ := k0; exact DataW.trod_lt m _ _ _ hm
  obtain ⟨b0, z0, w0⟩ : ∃ b zs, InSmp W b a0 len0 cap0 zs := by
    obtain ⟨fuel, hf⟩ := h0
    exact InSmp.of_trod (by simpa [Value.cells] using hf)
  clear hA0 hval0
  refine (ChunkEncodes_walk b0 a0 len0 cap0 z0 W (gl_of_laid hL) w0).mono fun e W' ⟨he, bel⟩ => ?_
  subst he
  exact ⟨_, rfl, _, _, _, [], _, [], hW', trodAll_mk1 (shut_bool Tryz.underlying4 _), (trodAll_cons_mk (Below.trod (by kernel_rfl) (by kernel_rfl) (of_decide_eq_true (by kernel_rfl)) k0 bel lt0) trodAll_mk0), rfl, bel.frame _, fun h => by cases h⟩

/-- the row's statement -/
theorem ChunkEncodes_holds : Rows.ChunkEncodesSaid :=
  OpenClaim.holds_of_wide 3 Tryz.f3 rfl rfl rfl rfl rfl rfl rfl ⟨rfl, rfl, rfl, rfl, rfl⟩ rfl rfl rfl rfl rfl (by kernel_rfl) Tryz.func3 (by kernel_rfl)
    (of_decide_eq_true (by kernel_rfl)) (by unfold Func.isWrapper; first | (rw [if_pos (by decide +kernel)]; kernel_rfl) | (rw [if_neg (by decide +kernel)]; exact ⟨rfl, rfl⟩))
    (fun os started H enc _ => ChunkEncodes_lifted os started H enc)

/-- the card: the same, with what the two variables hold tied to the program's text -/
theorem ChunkEncodes_card : Rows.ChunkEncodesCardSaid :=
  Claim7.holds_tied_plain_at .later [] [.data, .data] true (true, "101642120608e616db66b4db86bbd155c3d53ef7c7aa9a4c28c6e03451a2d8fe") false
    ChunkEncodes_holds (fun _ h => by cases h) (by kernel_rfl) (fun _ h => by cases h) chunkEncodes_row_tie rfl ⟨rfl, rfl⟩ (by kernel_rfl) rfl
    (fun f fn hf hfn => by
      obtain rfl : f = 3 := Option.some.inj ((show Tryz.prog.funcNamed "tsblock/tsblocklaw09.ChunkEncodes" = some 3 by kernel_rfl).symm.trans hf) |>.symm
      obtain rfl : fn = Tryz.f3 := (Option.some.inj (Tryz.func3.symm.trans hfn)).symm
      exact ⟨by kernel_rfl, fun j t ht => by
        rw [Tryz.params3] at ht
        have hm : t ∈ [22] := by simpa using Array.mem_of_getElem? ht
        have hall : ([22].all fun u => !Tryz.prog.wantsStandIn u) = true := by kernel_rfl
        exact (show Tryz.prog.wantsStandIn t = false by simpa using List.all_eq_true.1 hall t hm)⟩)
    (by kernel_rfl)
#print axioms ChunkEncodes_card
end Go.Proofs.YtjepaneniodbpaaGreatDoor
