/- ChunkDecodes: for all bytes, Decode answers as the reference. No condition. -/
import Derived.Test.YtjepaneniodbpaaGreatDoorLaidIn
import Derived.Test.YtjepaneniodbpaaGreatDoorAliveC
import Derived.Test.YtjepaneniodbpaaGreatDoorRDecM
import Derived.Test.YtjepaneniodbpaaGreatDoorTie
import Derived.Test.YtjepaneniodbpaaGreatDoorCards
import Derived.SevenTiedAt
import Derived.Stop.Joined
namespace Go.Proofs.YtjepaneniodbpaaGreatDoor
open Go Go.RowKit

set_option maxRecDepth 100000 in
set_option maxHeartbeats 3200000 in
theorem ChunkDecodes_walk (a0 : Option Addr) (len0 cap0 : Nat) (z0 : List Int) (w : World) (hG : Gl w) (w0 : IsRow .u8 w a0 len0 cap0 z0) :
    Calls Tryz.prog 4 #[.slice a0 len0 cap0] w fun e w' => e = .returned (.bool true) ∧ Below w.heap.size w w' := by
  obtain ⟨b, l, hI, hx⟩ := InRow.u8 w0
  have HG := Lib.hid hG
  have HI := Lib.hid (And.intro hI hx)
  have HAl := Lib.hid fun (W : World) (hN : Nw w W) => aliveC_any W (hG.nw hN)
  clear hG w0 hI hx
  by_cases hbig : 2000 < len0
  · go_enter Tryz.func4, Tryz.ntmps4
    go_wp2_with (go_at_call 5; refine (HAl.out _ (Nw.refl _)).mono ?_; rintro e w1 ⟨rfl, hN⟩)
    go_ret
    exact ⟨rfl, hN⟩
  have hL := HI.out.1.len
  have hD := Decode_any w b a0 len0 cap0 l hL HI.out.1.cap (by omega) HI.out.1.rd HI.out.2 HG.out
  have hE := fun W (hN : Nw w W) => RDecode_any W b a0 len0 cap0 l hL HI.out.1.cap (by omega) (HI.out.1.rd.nw hN) HI.out.2
  obtain ⟨X, hX⟩ : ∃ X, cget l = X := ⟨_, rfl⟩
  rw [hX] at hD hE
  have HX := Lib.hid hX
  have HD := Lib.hid hD
  have HE := Lib.hid hE
  clear hD hE hX hL
  cases X with
  | error k =>
    have HEq : Hid (∀ W, Calls Tryz.prog 10 #[.slice none 0 0, .slice none 0 0] W fun e w' => e = .returned (.bool true) ∧ Nw W w') := by
      refine Lib.hid fun W => ?_
      have h := EqualS_any W 0 0 none none 0 0 0 0 [] [] rfl rfl (by omega) (by omega) (Rd.nil _ _ _) (Rd.nil _ _ _)
      rw [decide_eq_true rfl] at h
      exact h.mono fun _ _ x => ⟨x.1, x.2.nw⟩
    have hkk : ((k : Int) == (k : Int)) = true := beq_self_eq_true _
    go_enter Tryz.func4, Tryz.ntmps4
    go_wp2_with fail
    refine HD.out.mono ?_
    rintro e w1 ⟨⟨rfl, hk⟩, hN1⟩
    go_wp2_with fail
    refine (HE.out _ hN1).mono ?_
    rintro e w2 ⟨⟨rfl, _⟩, hN2⟩
    have hN12 := hN1.trans hN2
    go_wp2_with (first
      | (go_at_call 5; refine (HAl.out _ hN12).mono ?_; rintro e w3 ⟨rfl, hN3⟩)
      | (go_at_call 10; refine (HEq.out _).mono ?_; rintro e w4 ⟨rfl, hN4⟩))
    go_ret
    exact ⟨rfl, (hN12.trans hN3).trans hN4⟩
  | ok y =>
    obtain ⟨ts, vs⟩ := y
    obtain ⟨_, i2, i3, i4, i5, _⟩ := cget_inv HI.out.2 HX.out
    have hzl : (ts.zip vs).length = ts.length := by rw [List.length_zip, i2, Nat.min_self]
    obtain ⟨zs, hz⟩ : ∃ zs, ts.zip vs = zs := ⟨_, rfl⟩
    obtain ⟨m, hm⟩ : ∃ m, ts.length = m := ⟨_, rfl⟩
    have hmb : m ≤ 120 := by omega
    rw [hz, hm] at hzl
    have HZ := Lib.hid hz
    have HM := Lib.hid hm
    have HZL := Lib.hid hzl
    clear i2 i3 i4 i5 hzl hz hm
    go_enter Tryz.func4, Tryz.ntmps4
    go_wp2_with fail
    refine HD.out.mono ?_
    rintro e w1 ⟨⟨b1, A1, c1, rfl, hO1, hb1⟩, hN1⟩
    rw [HM.out, HZ.out] at hO1
    rw [HM.out]
    have HO1 := Lib.hid hO1
    clear hO1
    go_wp2_with fail
    refine (HE.out _ hN1).mono ?_
    rintro e w2 ⟨⟨b2, A2, c2, rfl, hO2, hb2⟩, hN2⟩
    rw [HM.out, HZ.out] at hO2
    rw [HM.out]
    have hN12 := hN1.trans hN2
    have HEq : Hid (∀ W, Nw w2 W → Calls Tryz.prog 10 #[.slice A1 m c1, .slice A2 m c2] W fun e w' => e = .returned (.bool true) ∧ Nw W w') := by
      have HO2 := hO2
      refine Lib.hid fun W hN => ?_
      have h := EqualS_any W b1 b2 A1 A2 m c1 m c2 zs zs HZL.out.symm HZL.out.symm (by omega) (by omega) ((HO1.out.nw hN2).nw hN).rd (HO2.nw hN).rd
      rw [decide_eq_true rfl] at h
      exact h.mono fun _ _ x => ⟨x.1, x.2.nw⟩
    clear hO2
    go_wp2_with (first
      | (go_at_call 5; refine (HAl.out _ hN12).mono ?_; rintro e w3 ⟨rfl, hN3⟩)
      | (go_at_call 10; refine (HEq.out _ hN3).mono ?_; rintro e w4 ⟨rfl, hN4⟩))
    go_ret
    exact ⟨rfl, (hN12.trans hN3).trans hN4⟩

open Go.ChangeShapes Go.WideShapes Go.ChangeAt Go.RowKit in
set_option linter.unusedVariables false in
set_option maxRecDepth 100000 in
theorem ChunkDecodes_lifted (os : Os) (started : os.Started) (H : Type) (enc : TypeId × Value → H) :
    ReturnsInHanded {} Tryz.checked os 4 .any (fun w args => (Rows.chunkDecodesSpec.pre enc Tryz.prog Tryz.f4 [] false w args ∧ laidMetH Tryz.prog laid2 w) ∧ sizedMet enc Tryz.prog Tryz.f4 (OpenSpec.ofChange Rows.chunkDecodesSpec) false w args)
      (Rows.chunkDecodesSpec.post enc Tryz.prog Tryz.f4 false true false false) := by
  refine returnsInHanded_of_change_and (C := Tryz.checked) (X := fun w _ => laidMetH Tryz.prog laid2 w) (fun _ _ _ hh h => h.of_heap hh) own started (by kernel_rfl) Tryz.func4
    (ChangeSpec.witness_shaped (enc := enc) (C := Tryz.checked) (os := os) (X := fun w _ => laidMetH Tryz.prog laid2 w) false (World.doorLaid Tryz.prog 400 os) #[.slice none 0 0] 8 rfl (World.shaped_of_RefB (by kernel_rfl) (by kernel_rfl)) (by kernel_rfl) (by kernel_rfl) (by kernel_rfl) (door_met os _)) ?_
  intro W base args ds gs before hval0 hW _ _ hL _
  have hval : ∀ (j : Nat) t v, Tryz.f4.params[j]? = some t → args[j]? = some v → Value.okWide Tryz.prog W .any base t v := hval0
  have hW' := hW
  obtain ⟨p, q, hA0, hV, rfl, hfz, hnd⟩ := hW
  have hA : DataW.TrodAll enc Tryz.prog W 0 (fun _ => true) true Tryz.f4.params.toList args.toList ds p := hA0
  rw [Tryz.params4] at hA hval
  obtain ⟨v0, vs0, d0, ds0, p0, q0, hargs, rfl, rfl, h0, r0⟩ := trodAll_cons hA
  obtain ⟨rfl, rfl, rfl⟩ := trodAll_nil r0
  obtain rfl : args = #[v0] := by cases args; simp_all
  obtain ⟨rfl, rfl⟩ := trodVars_none hV
  obtain ⟨a0, len0, cap0, rfl⟩ := okWide_slice Tryz.underlying28 (hval 0 28 v0 rfl rfl)
  have k0 := h0
  have lt0 : ∀ x ∈ p0, x.block < W.heap.size := by obtain ⟨m, hm⟩ := k0; exact DataW.trod_lt m _ _ _ hm
  obtain ⟨z0, w0⟩ : ∃ zs, IsRow .u8 W a0 len0 cap0 zs := by
    obtain ⟨fuel, hf⟩ := h0
    rcases open_ints Tryz.underlying28 Tryz.underlying5 (by kernel_rfl) hf with ⟨hcs, _⟩ | ⟨x, l, c, zs, hcs, _, hl, hm, hz, _, hcell, hwz⟩
    · simp [Value.cells] at hcs
      obtain ⟨rfl, rfl, rfl⟩ := hcs
      exact ⟨[], .inl ⟨rfl, rfl, rfl, rfl⟩⟩
    · simp [Value.cells] at hcs
      obtain ⟨rfl, rfl, rfl⟩ := hcs
      exact ⟨zs, .inr ⟨_, rfl, hl, hm, by simpa using hz, hcell, hwz⟩⟩
  clear hA0 hval0
  refine (ChunkDecodes_walk a0 len0 cap0 z0 W (gl_of_laid hL) w0).mono fun e W' ⟨he, bel⟩ => ?_
  subst he
  exact ⟨_, rfl, _, _, _, [], _, [], hW', trodAll_mk1 (shut_bool Tryz.underlying4 _), (trodAll_cons_mk (Below.trod (by kernel_rfl) (by kernel_rfl) (of_decide_eq_true (by kernel_rfl)) k0 bel lt0) trodAll_mk0), rfl, bel.frame _, fun h => by cases h⟩

/-- the row's statement -/
theorem ChunkDecodes_holds : Rows.ChunkDecodesSaid :=
  OpenClaim.holds_of_wide 4 Tryz.f4 rfl rfl rfl rfl rfl rfl rfl ⟨rfl, rfl, rfl, rfl, rfl⟩ rfl rfl rfl rfl rfl (by kernel_rfl) Tryz.func4 (by kernel_rfl)
    (of_decide_eq_true (by kernel_rfl)) (by unfold Func.isWrapper; first | (rw [if_pos (by decide +kernel)]; kernel_rfl) | (rw [if_neg (by decide +kernel)]; exact ⟨rfl, rfl⟩))
    (fun os started H enc _ => ChunkDecodes_lifted os started H enc)

/-- the card: the same, with what the two variables hold tied to the program's text -/
theorem ChunkDecodes_card : Rows.ChunkDecodesCardSaid :=
  Claim7.holds_tied_plain_at .later [] [.data, .data] true (true, "101642120608e616db66b4db86bbd155c3d53ef7c7aa9a4c28c6e03451a2d8fe") false
    ChunkDecodes_holds (fun _ h => by cases h) (by kernel_rfl) (fun _ h => by cases h) chunkDecodes_row_tie rfl ⟨rfl, rfl⟩ (by kernel_rfl) rfl
    (fun f fn hf hfn => by
      obtain rfl : f = 4 := Option.some.inj ((show Tryz.prog.funcNamed "tsblock/tsblocklaw09.ChunkDecodes" = some 4 by kernel_rfl).symm.trans hf) |>.symm
      obtain rfl : fn = Tryz.f4 := (Option.some.inj (Tryz.func4.symm.trans hfn)).symm
      exact ⟨by kernel_rfl, fun j t ht => by
        rw [Tryz.params4] at ht
        have hm : t ∈ [28] := by simpa using Array.mem_of_getElem? ht
        have hall : ([28].all fun u => !Tryz.prog.wantsStandIn u) = true := by kernel_rfl
        exact (show Tryz.prog.wantsStandIn t = false by simpa using List.all_eq_true.1 hall t hm)⟩)
    (by kernel_rfl)
#print axioms ChunkDecodes_card
end Go.Proofs.YtjepaneniodbpaaGreatDoor
