/- ChunkIsCanonical: bytes that Decode accepts are the encoding of its result. -/
import Derived.Test.YtjepaneniodbpaaDoorLaidIn
import Derived.Test.YtjepaneniodbpaaDoorAliveC
import Derived.Test.YtjepaneniodbpaaDoorTie
import Derived.Test.YtjepaneniodbpaaDoorCards
import Derived.SevenTiedAt
import Derived.Stop.Joined
namespace Go.Proofs.YtjepaneniodbpaaDoor
open Go Go.RowKit

theorem zip_fst (ts : List Int) : ∀ (vs : List Nat), ts.length = vs.length → tsOf (ts.zip vs) = ts ∧ vsOf (ts.zip vs) = vs := by
  induction ts with
  | nil => intro vs h; cases vs with | nil => exact ⟨rfl, rfl⟩ | cons _ _ => cases h
  | cons t ts ih =>
    intro vs h
    cases vs with
    | nil => cases h
    | cons v vs =>
      obtain ⟨h1, h2⟩ := ih vs (by simpa using h)
      exact ⟨congrArg (t :: ·) h1, congrArg (v :: ·) h2⟩

set_option maxRecDepth 100000 in
set_option maxHeartbeats 3200000 in
theorem ChunkIsCanonical_walk (a0 : Option Addr) (len0 cap0 : Nat) (z0 : List Int) (w : World) (hG : Gl w) (w0 : IsRow .u8 w a0 len0 cap0 z0) :
    Calls Tryd.prog 5 #[.slice a0 len0 cap0] w fun e w' => e = .returned (.bool true) ∧ Below w.heap.size w w' := by
  obtain ⟨b, l, hI, hx⟩ := InRow.u8 w0
  have HG := Lib.hid hG
  have HI := Lib.hid (And.intro hI hx)
  have HAl := Lib.hid fun (W : World) (hN : Nw w W) => aliveC_any W (hG.nw hN)
  clear hG w0 hI hx
  by_cases hbig : 2000 < len0
  · go_enter Tryd.func5, Tryd.ntmps5
    go_wp2_with (go_at_call 7; refine (HAl.out _ (Nw.refl _)).mono ?_; rintro e w1 ⟨rfl, hN⟩)
    go_ret
    exact ⟨rfl, hN⟩
  have hL := HI.out.1.len
  have hD := Decode_any w b a0 len0 cap0 l hL HI.out.1.cap (by omega) HI.out.1.rd HI.out.2 HG.out
  obtain ⟨X, hX⟩ : ∃ X, cget l = X := ⟨_, rfl⟩
  rw [hX] at hD
  have HX := Lib.hid hX
  have HD := Lib.hid hD
  have HL := Lib.hid hL
  clear hD hX hL
  cases X with
  | error k =>
    go_enter Tryd.func5, Tryd.ntmps5
    go_wp2_with fail
    refine HD.out.mono ?_
    rintro e w1 ⟨⟨rfl, hk⟩, hN1⟩
    have hk1 : ((k : Int) != 0) = true := by rw [bne_iff_ne]; omega
    go_wp2_with (go_at_call 7; refine (HAl.out _ hN1).mono ?_; rintro e w2 ⟨rfl, hN2⟩)
    go_ret
    exact ⟨rfl, hN1.trans hN2⟩
  | ok y =>
    obtain ⟨ts, vs⟩ := y
    obtain ⟨i1, i2, i3, i4, i5, i6⟩ := cget_inv HI.out.2 HX.out
    obtain ⟨z1, z2⟩ := zip_fst ts vs i2
    obtain ⟨zs, hz⟩ : ∃ zs, ts.zip vs = zs := ⟨_, rfl⟩
    rw [hz] at z1 z2
    have hzl : zs.length = ts.length := by rw [← z1]; simp
    have hIn : InS zs := by
      intro z hz'
      exact ⟨i4 _ (by rw [← z1]; exact List.mem_map.2 ⟨z, hz', rfl⟩), i5 _ (by rw [← z2]; exact List.mem_map.2 ⟨z, hz', rfl⟩)⟩
    have hp : 1 ≤ ts.length := by
      rcases Nat.eq_zero_or_pos ts.length with h | h
      · exact absurd (List.eq_nil_of_length_eq_zero (by omega)) i1
      · exact h
    have hq : ts.length ≤ 120 := by omega
    obtain ⟨m, hm⟩ : ∃ m, ts.length = m := ⟨_, rfl⟩
    rw [hm] at hzl hp hq
    have HM := Lib.hid hm
    have HZ := Lib.hid hz
    have HZL := Lib.hid hzl
    have HIn := Lib.hid hIn
    rw [← z1, ← z2] at i6
    have H6 := Lib.hid i6
    clear i1 i2 i3 i4 i5 i6 z1 z2 hz hzl hm hIn
    go_enter Tryd.func5, Tryd.ntmps5
    go_wp2_with fail
    refine HD.out.mono ?_
    rintro e w1 ⟨⟨b1, A1, c1, rfl, hO1, hb1⟩, hN1⟩
    rw [HM.out, HZ.out] at hO1
    rw [HM.out]
    have HO1 := Lib.hid hO1
    have hE := Encode_ok w1 b1 A1 m c1 zs HZL.out.symm hp hq hO1.rd HIn.out (HG.out.nw hN1)
    rw [← H6.out] at hE
    have HE := Lib.hid hE
    clear hE hO1
    go_wp2_with fail
    refine HE.out.mono ?_
    rintro e w2 ⟨b2, A2, c2, rfl, hO2, hb2, hN2⟩
    have hN := hN1.trans hN2
    have HO2 := Lib.hid hO2
    have HQ : Hid (∀ W, Nw w2 W → Calls Tryd.prog 15 #[.slice a0 len0 cap0, .slice A2 l.length c2] W fun e w' => e = .returned (.bool true) ∧ W = w') :=
      Lib.hid fun W hW => bytesEqual_same W b b2 a0 A2 len0 cap0 l.length c2 l HL.out rfl ((HI.out.1.rd.nw hN).nw hW) (HO2.out.nw hW).rd HI.out.2
    clear hO2
    go_wp2_with (first
      | (go_at_call 7; refine (HAl.out _ hN).mono ?_; rintro e w4 ⟨rfl, hN4⟩)
      | (go_at_call 15; refine (HQ.out _ hN4).mono ?_; rintro e w5 ⟨rfl, rfl⟩))
    go_ret
    exact ⟨rfl, hN.trans hN4⟩

open Go.ChangeShapes Go.WideShapes Go.ChangeAt Go.RowKit in
set_option linter.unusedVariables false in
set_option maxRecDepth 100000 in
theorem ChunkIsCanonical_lifted (os : Os) (started : os.Started) (H : Type) (enc : TypeId × Value → H) :
    ReturnsInHanded {} Tryd.checked os 5 .any (fun w args => (Rows.chunkIsCanonicalSpec.pre enc Tryd.prog Tryd.f5 [] false w args ∧ laidMetH Tryd.prog laid2 w) ∧ sizedMet enc Tryd.prog Tryd.f5 (OpenSpec.ofChange Rows.chunkIsCanonicalSpec) false w args)
      (Rows.chunkIsCanonicalSpec.post enc Tryd.prog Tryd.f5 false true false false) := by
  refine returnsInHanded_of_change_and (C := Tryd.checked) (X := fun w _ => laidMetH Tryd.prog laid2 w) (fun _ _ _ hh h => h.of_heap hh) own started (by kernel_rfl) Tryd.func5
    (ChangeSpec.witness_shaped (enc := enc) (C := Tryd.checked) (os := os) (X := fun w _ => laidMetH Tryd.prog laid2 w) false (World.doorLaid Tryd.prog 400 os) #[.slice none 0 0] 8 rfl (World.shaped_of_RefB (by kernel_rfl) (by kernel_rfl)) (by kernel_rfl) (by kernel_rfl) (by kernel_rfl) (door_met os _)) ?_
  intro W base args ds gs before hval0 hW _ _ hL _
  have hval : ∀ (j : Nat) t v, Tryd.f5.params[j]? = some t → args[j]? = some v → Value.okWide Tryd.prog W .any base t v := hval0
  have hW' := hW
  obtain ⟨p, q, hA0, hV, rfl, hfz, hnd⟩ := hW
  have hA : DataW.TrodAll enc Tryd.prog W 0 (fun _ => true) true Tryd.f5.params.toList args.toList ds p := hA0
  rw [Tryd.params5] at hA hval
  obtain ⟨v0, vs0, d0, ds0, p0, q0, hargs, rfl, rfl, h0, r0⟩ := trodAll_cons hA
  obtain ⟨rfl, rfl, rfl⟩ := trodAll_nil r0
  obtain rfl : args = #[v0] := by cases args; simp_all
  obtain ⟨rfl, rfl⟩ := trodVars_none hV
  obtain ⟨a0, len0, cap0, rfl⟩ := okWide_slice Tryd.underlying30 (hval 0 30 v0 rfl rfl)
  have k0 := h0
  have lt0 : ∀ x ∈ p0, x.block < W.heap.size := by obtain ⟨m, hm⟩ := k0; exact DataW.trod_lt m _ _ _ hm
  obtain ⟨z0, w0⟩ : ∃ zs, IsRow .u8 W a0 len0 cap0 zs := by
    obtain ⟨fuel, hf⟩ := h0
    rcases open_ints Tryd.underlying30 Tryd.underlying5 (by kernel_rfl) hf with ⟨hcs, _⟩ | ⟨x, l, c, zs, hcs, _, hl, hm, hz, _, hcell, hwz⟩
    · simp [Value.cells] at hcs
      obtain ⟨rfl, rfl, rfl⟩ := hcs
      exact ⟨[], .inl ⟨rfl, rfl, rfl, rfl⟩⟩
    · simp [Value.cells] at hcs
      obtain ⟨rfl, rfl, rfl⟩ := hcs
      exact ⟨zs, .inr ⟨_, rfl, hl, hm, by simpa using hz, hcell, hwz⟩⟩
  clear hA0 hval0
  refine (ChunkIsCanonical_walk a0 len0 cap0 z0 W (gl_of_laid hL) w0).mono fun e W' ⟨he, bel⟩ => ?_
  subst he
  exact ⟨_, rfl, _, _, _, [], _, [], hW', trodAll_mk1 (shut_bool Tryd.underlying4 _), (trodAll_cons_mk (Below.trod (by kernel_rfl) (by kernel_rfl) (of_decide_eq_true (by kernel_rfl)) k0 bel lt0) trodAll_mk0), rfl, bel.frame _, fun h => by cases h⟩

/-- the row's statement -/
theorem ChunkIsCanonical_holds : Rows.ChunkIsCanonicalSaid :=
  OpenClaim.holds_of_wide 5 Tryd.f5 rfl rfl rfl rfl rfl rfl rfl ⟨rfl, rfl, rfl, rfl, rfl⟩ rfl rfl rfl rfl rfl (by kernel_rfl) Tryd.func5 (by kernel_rfl)
    (of_decide_eq_true (by kernel_rfl)) (by unfold Func.isWrapper; first | (rw [if_pos (by decide +kernel)]; kernel_rfl) | (rw [if_neg (by decide +kernel)]; exact ⟨rfl, rfl⟩))
    (fun os started H enc _ => ChunkIsCanonical_lifted os started H enc)

/-- the card: the same, with what the two variables hold tied to the program's text -/
theorem ChunkIsCanonical_card : Rows.ChunkIsCanonicalCardSaid :=
  Claim7.holds_tied_plain_at .later [] [.data, .data] true (true, "d850849d56096a613cd1da5de40daa37d392cd3535a8b6dec4eac43994b83435") false
    ChunkIsCanonical_holds (fun _ h => by cases h) (by kernel_rfl) (fun _ h => by cases h) chunkIsCanonical_row_tie rfl ⟨rfl, rfl⟩ (by kernel_rfl) rfl
    (fun f fn hf hfn => by
      obtain rfl : f = 5 := Option.some.inj ((show Tryd.prog.funcNamed "tsblock/tsblocklaw09.ChunkIsCanonical" = some 5 by kernel_rfl).symm.trans hf) |>.symm
      obtain rfl : fn = Tryd.f5 := (Option.some.inj (Tryd.func5.symm.trans hfn)).symm
      exact ⟨by kernel_rfl, fun j t ht => by
        rw [Tryd.params5] at ht
        have hm : t ∈ [30] := by simpa using Array.mem_of_getElem? ht
        have hall : ([30].all fun u => !Tryd.prog.wantsStandIn u) = true := by kernel_rfl
        exact (show Tryd.prog.wantsStandIn t = false by simpa using List.all_eq_true.1 hall t hm)⟩)
    (by kernel_rfl)
#print axioms ChunkIsCanonical_card
end Go.Proofs.YtjepaneniodbpaaDoor
