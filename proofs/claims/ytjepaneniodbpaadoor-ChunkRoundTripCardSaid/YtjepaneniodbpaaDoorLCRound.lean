/- ChunkRoundTrip: Decode inverts Encode. -/
import Derived.Test.YtjepaneniodbpaaDoorLaidIn
import Derived.Test.YtjepaneniodbpaaDoorAliveC
import Derived.Test.YtjepaneniodbpaaDoorTie
import Derived.Test.YtjepaneniodbpaaDoorCards
import Derived.SevenTiedAt
import Derived.Stop.Joined
namespace Go.Proofs.YtjepaneniodbpaaDoor
open Go Go.RowKit

set_option maxRecDepth 100000 in
set_option maxHeartbeats 3200000 in
theorem ChunkRoundTrip_walk (b0 : Nat) (a0 : Option Addr) (len0 cap0 : Nat) (z0 : List (Int × Nat)) (w : World) (hG : Gl w) (w0 : InSmp w b0 a0 len0 cap0 z0) :
    Calls Tryd.prog 4 #[.slice a0 len0 cap0] w fun e w' => e = .returned (.bool true) ∧ Below w.heap.size w w' := by
  have HG := Lib.hid hG
  have HI := Lib.hid w0
  have HAl := Lib.hid fun (W : World) (hN : Nw w W) => aliveC_any W (hG.nw hN)
  clear hG w0
  by_cases hbig : 2000 < len0
  · go_enter Tryd.func4, Tryd.ntmps4
    go_wp2_with (go_at_call 7; refine (HAl.out _ (Nw.refl _)).mono ?_; rintro e w1 ⟨rfl, hN⟩)
    go_ret
    exact ⟨rfl, hN⟩
  by_cases h0 : len0 = 0
  · subst h0
    have HE := Lib.hid (Encode_empty w a0 cap0)
    go_enter Tryd.func4, Tryd.ntmps4
    go_wp2_with (first
      | (go_at_call 12; refine HE.out.mono ?_; rintro e w1 ⟨rfl, rfl⟩)
      | (go_at_call 7; refine (HAl.out _ (Nw.refl _)).mono ?_; rintro e w1 ⟨rfl, hN⟩))
    go_ret
    exact ⟨rfl, hN⟩
  have n0 : ((len0 : Int) == 0) = false := by rw [beq_eq_false_iff_ne]; omega
  by_cases h120 : 120 < len0
  · have HE := Lib.hid (Encode_limit w a0 len0 cap0 h120)
    go_enter Tryd.func4, Tryd.ntmps4
    go_wp2_with (first
      | (go_at_call 12; refine HE.out.mono ?_; rintro e w1 ⟨rfl, rfl⟩)
      | (go_at_call 7; refine (HAl.out _ (Nw.refl _)).mono ?_; rintro e w1 ⟨rfl, hN⟩))
    go_ret
    exact ⟨rfl, hN⟩
  · have hL := HI.out.len
    have hE := Encode_ok w b0 a0 len0 cap0 z0 hL (by omega) (by omega) HI.out.rd HI.out.wf HG.out
    have hget := cget_put (tsOf z0) (vsOf z0) (by rintro e; have := congrArg List.length e; simp at this; subst this; exact h0 (by simpa using hL)) (by simp) (by simp; omega) HI.out.wf.t HI.out.wf.v
    obtain ⟨B, hB⟩ : ∃ B, pk (cbits (tsOf z0) (vsOf z0)) = B := ⟨_, rfl⟩
    have hBl : B.length ≤ 100000 := by
      have h1 := tput_length_le (tsOf z0)
      have h2 := vput_small (vsOf z0) (by simp; omega) HI.out.wf.v
      rw [← hB, pk_length]
      unfold cbits
      simp only [List.length_append, bitsOf_length]
      simp only [List.length_map] at h1
      omega
    have hBy : ∀ x ∈ B, x < 256 := by rw [← hB]; exact pk_lt _
    rw [hB] at hE hget
    have HE := Lib.hid hE
    have HGet := Lib.hid hget
    have HBy := Lib.hid hBy
    have HL := Lib.hid hL
    clear hE hget hB hBy hL
    go_enter Tryd.func4, Tryd.ntmps4
    go_wp2_with fail
    refine HE.out.mono ?_
    rintro e w2 ⟨b2, A2, c2, rfl, hO2, hb2, hN2⟩
    have hD := Decode_any w2 b2 A2 B.length c2 B rfl hO2.cap.1 (by omega) hO2.rd HBy.out (HG.out.nw hN2)
    rw [HGet.out] at hD
    have HD := Lib.hid hD
    clear hD hO2
    go_wp2_with fail
    refine HD.out.mono ?_
    rintro e w3 ⟨⟨b3, A3, c3, rfl, hO3, hb3⟩, hN3⟩
    have hl3 : (tsOf z0).length = len0 := by have := HL.out; simp; omega
    rw [zip_back, hl3] at hO3
    rw [hl3]
    have HO3 := Lib.hid hO3
    have hN := hN2.trans hN3
    have HQ : Hid (∀ W, Nw w3 W → Calls Tryd.prog 14 #[.slice a0 len0 cap0, .slice A3 len0 c3] W fun e w' => e = .returned (.bool true) ∧ Dr W w') := by
      refine Lib.hid fun W hW => ?_
      have h := EqualS_any W b0 b3 a0 A3 len0 cap0 len0 c3 z0 z0 HL.out HL.out (by omega) (by omega) ((HI.out.rd.nw hN).nw hW) (HO3.out.nw hW).rd
      rwa [decide_eq_true rfl] at h
    clear hO3 hl3
    go_wp2_with (first
      | (go_at_call 7; refine (HAl.out _ hN).mono ?_; rintro e w4 ⟨rfl, hN4⟩)
      | (go_at_call 14; refine (HQ.out _ hN4).mono ?_; rintro e w5 ⟨rfl, hD5⟩))
    go_ret
    exact ⟨rfl, (hN.trans hN4).trans hD5.nw⟩

open Go.ChangeShapes Go.WideShapes Go.ChangeAt Go.RowKit in
set_option linter.unusedVariables false in
set_option maxRecDepth 100000 in
theorem ChunkRoundTrip_lifted (os : Os) (started : os.Started) (H : Type) (enc : TypeId × Value → H) :
    ReturnsInHanded {} Tryd.checked os 4 .any (fun w args => (Rows.chunkRoundTripSpec.pre enc Tryd.prog Tryd.f4 [] false w args ∧ laidMetH Tryd.prog laid2 w) ∧ sizedMet enc Tryd.prog Tryd.f4 (OpenSpec.ofChange Rows.chunkRoundTripSpec) false w args)
      (Rows.chunkRoundTripSpec.post enc Tryd.prog Tryd.f4 false true false false) := by
  refine returnsInHanded_of_change_and (C := Tryd.checked) (X := fun w _ => laidMetH Tryd.prog laid2 w) (fun _ _ _ hh h => h.of_heap hh) own started (by kernel_rfl) Tryd.func4
    (ChangeSpec.witness_shaped (enc := enc) (C := Tryd.checked) (os := os) (X := fun w _ => laidMetH Tryd.prog laid2 w) false (World.doorLaid Tryd.prog 400 os) #[.slice none 0 0] 8 rfl (World.shaped_of_RefB (by kernel_rfl) (by kernel_rfl)) (by kernel_rfl) (by kernel_rfl) (by kernel_rfl) (door_met os _)) ?_
  intro W base args ds gs before hval0 hW _ _ hL _
  have hval : ∀ (j : Nat) t v, Tryd.f4.params[j]? = some t → args[j]? = some v → Value.okWide Tryd.prog W .any base t v := hval0
  have hW' := hW
  obtain ⟨p, q, hA0, hV, rfl, hfz, hnd⟩ := hW
  have hA : DataW.TrodAll enc Tryd.prog W 0 (fun _ => true) true Tryd.f4.params.toList args.toList ds p := hA0
  rw [Tryd.params4] at hA hval
  obtain ⟨v0, vs0, d0, ds0, p0, q0, hargs, rfl, rfl, h0, r0⟩ := trodAll_cons hA
  obtain ⟨rfl, rfl, rfl⟩ := trodAll_nil r0
  obtain rfl : args = #[v0] := by cases args; simp_all
  obtain ⟨rfl, rfl⟩ := trodVars_none hV
  obtain ⟨a0, len0, cap0, rfl⟩ := okWide_slice Tryd.underlying29 (hval 0 29 v0 rfl rfl)
  have k0 := h0
  have lt0 : ∀ x ∈ p0, x.block < W.heap.size := by obtain ⟨m, hm⟩ := k0; exact DataW.trod_lt m _ _ _ hm
  obtain ⟨b0, z0, w0⟩ : ∃ b zs, InSmp W b a0 len0 cap0 zs := by
    obtain ⟨fuel, hf⟩ := h0
    exact InSmp.of_trod (by simpa [Value.cells] using hf)
  clear hA0 hval0
  refine (ChunkRoundTrip_walk b0 a0 len0 cap0 z0 W (gl_of_laid hL) w0).mono fun e W' ⟨he, bel⟩ => ?_
  subst he
  exact ⟨_, rfl, _, _, _, [], _, [], hW', trodAll_mk1 (shut_bool Tryd.underlying4 _), (trodAll_cons_mk (Below.trod (by kernel_rfl) (by kernel_rfl) (of_decide_eq_true (by kernel_rfl)) k0 bel lt0) trodAll_mk0), rfl, bel.frame _, fun h => by cases h⟩

/-- the row's statement -/
theorem ChunkRoundTrip_holds : Rows.ChunkRoundTripSaid :=
  OpenClaim.holds_of_wide 4 Tryd.f4 rfl rfl rfl rfl rfl rfl rfl ⟨rfl, rfl, rfl, rfl, rfl⟩ rfl rfl rfl rfl rfl (by kernel_rfl) Tryd.func4 (by kernel_rfl)
    (of_decide_eq_true (by kernel_rfl)) (by unfold Func.isWrapper; first | (rw [if_pos (by decide +kernel)]; kernel_rfl) | (rw [if_neg (by decide +kernel)]; exact ⟨rfl, rfl⟩))
    (fun os started H enc _ => ChunkRoundTrip_lifted os started H enc)

/-- the card: the same, with what the two variables hold tied to the program's text -/
theorem ChunkRoundTrip_card : Rows.ChunkRoundTripCardSaid :=
  Claim7.holds_tied_plain_at .later [] [.data, .data] true (true, "d850849d56096a613cd1da5de40daa37d392cd3535a8b6dec4eac43994b83435") false
    ChunkRoundTrip_holds (fun _ h => by cases h) (by kernel_rfl) (fun _ h => by cases h) chunkRoundTrip_row_tie rfl ⟨rfl, rfl⟩ (by kernel_rfl) rfl
    (fun f fn hf hfn => by
      obtain rfl : f = 4 := Option.some.inj ((show Tryd.prog.funcNamed "tsblock/tsblocklaw09.ChunkRoundTrip" = some 4 by kernel_rfl).symm.trans hf) |>.symm
      obtain rfl : fn = Tryd.f4 := (Option.some.inj (Tryd.func4.symm.trans hfn)).symm
      exact ⟨by kernel_rfl, fun j t ht => by
        rw [Tryd.params4] at ht
        have hm : t ∈ [29] := by simpa using Array.mem_of_getElem? ht
        have hall : ([29].all fun u => !Tryd.prog.wantsStandIn u) = true := by kernel_rfl
        exact (show Tryd.prog.wantsStandIn t = false by simpa using List.all_eq_true.1 hall t hm)⟩)
    (by kernel_rfl)
#print axioms ChunkRoundTrip_card
end Go.Proofs.YtjepaneniodbpaaDoor
