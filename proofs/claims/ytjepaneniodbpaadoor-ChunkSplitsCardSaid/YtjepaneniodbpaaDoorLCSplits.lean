/- ChunkSplits: Split divides samples into lists of 120, with the rest in the last one. -/
import Derived.Test.YtjepaneniodbpaaDoorLaidIn
import Derived.Test.YtjepaneniodbpaaDoorAliveC
import Derived.Test.YtjepaneniodbpaaDoorConcatS
import Derived.Test.YtjepaneniodbpaaDoorTie
import Derived.Test.YtjepaneniodbpaaDoorCards
import Derived.SevenTiedAt
import Derived.Stop.Joined
namespace Go.Proofs.YtjepaneniodbpaaDoor
open Go Go.RowKit

set_option maxRecDepth 100000 in
set_option maxHeartbeats 3200000 in
theorem ChunkSplits_walk (b0 : Nat) (a0 : Option Addr) (len0 cap0 : Nat) (z0 : List (Int × Nat)) (w : World) (hG : Gl w) (w0 : InSmp w b0 a0 len0 cap0 z0) :
    Calls Tryd.prog 6 #[.slice a0 len0 cap0] w fun e w' => e = .returned (.bool true) ∧ Below w.heap.size w w' := by
  have HG := Lib.hid hG
  have HI := Lib.hid w0
  have HAl := Lib.hid fun (W : World) (hN : Nw w W) => aliveC_any W (hG.nw hN)
  clear hG w0
  by_cases hbig : 2000 < len0
  · go_enter Tryd.func6, Tryd.ntmps6
    go_wp2_with (go_at_call 7; refine (HAl.out _ (Nw.refl _)).mono ?_; rintro e w1 ⟨rfl, hN⟩)
    go_ret
    exact ⟨rfl, hN⟩
  have HL := Lib.hid HI.out.len
  have HSp := Lib.hid (Split_any w b0 a0 len0 cap0 z0 HL.out (by omega) HI.out.rd HI.out.nil)
  obtain ⟨m, hm⟩ : ∃ m, m = (parts len0 0).length := ⟨_, rfl⟩
  have hml : m = (len0 + 119) / 120 := by rw [hm, parts_length len0 len0 0 (by omega)]; simp
  rw [← hm] at HSp
  have HPart : Hid (∀ (bs k : Nat), k < m → (((parts len0 0).map (partV bs))[k]? = some (.slice (some ⟨bs, (120 * k) * 2, none⟩) (min 120 (len0 - 120 * k)) (min 120 (len0 - 120 * k)))) ∧ 120 * k < len0) := by
    refine Lib.hid fun bs k hk => ?_
    have h1 : 120 * k < len0 := by omega
    rw [List.getElem?_map, parts_get, if_pos (by omega), Nat.zero_add]
    exact ⟨rfl, h1⟩
  have HM := Lib.hid hm
  have HML := Lib.hid hml
  have hmb : m ≤ 1000 := by omega
  have hq : (((len0 : Int) + 120 - 1).tdiv 120) = (m : Int) := by
    rw [Int.tdiv_eq_ediv_of_nonneg (by omega)]
    omega
  clear hm hml
  go_enter Tryd.func6, Tryd.ntmps6
  go_wp2_with fail
  refine HSp.out.mono ?_
  rintro e w1 ⟨bs, bp, A2, c2, Ap, cp, rfl, hOp, hbp, hOs, hbs, hN1⟩
  have HOp := Lib.hid hOp
  have HOs := Lib.hid hOs
  clear hOp hOs
  go_wp2_with fail
  go_loopw [22] (fun i wr => ∃ k : Nat, k ≤ m ∧ i = .int .i64 k ∧ w1 = wr) (fun i _ => m - (intOf i).toNat)
  case atStart => exact ⟨0, by omega, rfl, by first | rfl | trivial⟩
  case round =>
    obtain ⟨k, hk, rfl, rfl⟩ := hrel
    by_cases hlt : k < m
    · obtain ⟨hpk, h120⟩ := HPart.out bs k hlt
      obtain ⟨o, rfl, hob, hc⟩ := HOp.out.rd.get (k := k) (by rw [List.length_map, ← HM.out]; exact hlt)
      rw [(List.getElem_eq_iff _).2 hpk] at hc
      have hlast : k < m - 1 → min 120 (len0 - 120 * k) = 120 := by have := HML.out; omega
      have hge : 1 ≤ min 120 (len0 - 120 * k) := by omega
      have hle : min 120 (len0 - 120 * k) ≤ 120 := by omega
      obtain ⟨e, he⟩ : ∃ e, min 120 (len0 - 120 * k) = e := ⟨_, rfl⟩
      rw [he] at hc hge hle hlast
      clear he hpk h120
      have f1 : decide ((e : Int) < 1) = false := by simp; omega
      have f2 : decide ((120 : Int) < (e : Int)) = false := by simp; omega
      by_cases hl : k < m - 1
      · have f3 : decide ((k : Int) < (m : Int) - 1) = true := by simp; omega
        have he := hlast hl
        subst he
        have hlI : (k : Int) < (m : Int) - 1 := by omega
        clear hlast
        go_wp2
        go_roundw
        case rel => exact ⟨k + 1, by omega, by go_num, by first | rfl | trivial⟩
        case measure => simp [intOf]; omega
      · have f3 : decide ((k : Int) < (m : Int) - 1) = false := by simp; omega
        have hlI : ¬ (k : Int) < (m : Int) - 1 := by omega
        clear hlast
        go_wp2
        go_roundw
        case rel => exact ⟨k + 1, by omega, by go_num, by first | rfl | trivial⟩
        case measure => simp [intOf]; omega
    · obtain rfl : k = m := by omega
      have HC : Hid (∀ W, Nw w1 W → Calls Tryd.prog 17 #[.slice Ap k cp] W fun e w' => ∃ b' A' c', e = .returned (.slice A' len0 c') ∧ Ow w' b' 39 2 A' len0 c' (cS z0) ∧ W.heap.size ≤ b' ∧ Nw W w') :=
        Lib.hid fun W hW => ConcatS_any W bp bs Ap A2 len0 cp k z0 HM.out HL.out (by omega) (HOp.out.nw hW).rd (HOs.out.nw hW).rd (fun h => (HOs.out.at_ (j := 0) (by omega)).1)
      go_wp2_with fail
      refine (HAl.out _ hN1).mono ?_
      rintro e w2 ⟨rfl, hN2⟩
      go_wp2_with fail
      refine (HC.out _ hN2).mono ?_
      rintro e w3 ⟨b3, A3, c3, rfl, hO3, hb3, hN3⟩
      have hN := (hN1.trans hN2).trans hN3
      have hQ := EqualS_any w3 b3 b0 A3 a0 len0 c3 len0 cap0 z0 z0 HL.out HL.out (by omega) (by omega) hO3.rd (HI.out.rd.nw hN)
      rw [decide_eq_true rfl] at hQ
      have HQ := Lib.hid hQ
      clear hQ hO3
      go_wp2_with fail
      refine HQ.out.mono ?_
      rintro e w4 ⟨rfl, hD4⟩
      go_wp2
      go_ret
      exact ⟨rfl, hN.trans hD4.nw⟩

open Go.ChangeShapes Go.WideShapes Go.ChangeAt Go.RowKit in
set_option linter.unusedVariables false in
set_option maxRecDepth 100000 in
theorem ChunkSplits_lifted (os : Os) (started : os.Started) (H : Type) (enc : TypeId × Value → H) :
    ReturnsInHanded {} Tryd.checked os 6 .any (fun w args => (Rows.chunkSplitsSpec.pre enc Tryd.prog Tryd.f6 [] false w args ∧ laidMetH Tryd.prog laid2 w) ∧ sizedMet enc Tryd.prog Tryd.f6 (OpenSpec.ofChange Rows.chunkSplitsSpec) false w args)
      (Rows.chunkSplitsSpec.post enc Tryd.prog Tryd.f6 false true false false) := by
  refine returnsInHanded_of_change_and (C := Tryd.checked) (X := fun w _ => laidMetH Tryd.prog laid2 w) (fun _ _ _ hh h => h.of_heap hh) own started (by kernel_rfl) Tryd.func6
    (ChangeSpec.witness_shaped (enc := enc) (C := Tryd.checked) (os := os) (X := fun w _ => laidMetH Tryd.prog laid2 w) false (World.doorLaid Tryd.prog 400 os) #[.slice none 0 0] 8 rfl (World.shaped_of_RefB (by kernel_rfl) (by kernel_rfl)) (by kernel_rfl) (by kernel_rfl) (by kernel_rfl) (door_met os _)) ?_
  intro W base args ds gs before hval0 hW _ _ hL _
  have hval : ∀ (j : Nat) t v, Tryd.f6.params[j]? = some t → args[j]? = some v → Value.okWide Tryd.prog W .any base t v := hval0
  have hW' := hW
  obtain ⟨p, q, hA0, hV, rfl, hfz, hnd⟩ := hW
  have hA : DataW.TrodAll enc Tryd.prog W 0 (fun _ => true) true Tryd.f6.params.toList args.toList ds p := hA0
  rw [Tryd.params6] at hA hval
  obtain ⟨v0, vs0, d0, ds0, p0, q0, hargs, rfl, rfl, h0, r0⟩ := trodAll_cons hA
  obtain ⟨rfl, rfl, rfl⟩ := trodAll_nil r0
  obtain rfl : args = #[v0] := by cases args; simp_all
  obtain ⟨rfl, rfl⟩ := trodVars_none hV
  obtain ⟨a0, len0, cap0, rfl⟩ := okWide_slice Tryd.underlying29 (hval 0 29 v0 rfl rfl)
  have k0 := h0
  have lt0 : ∀ x ∈ p0, x.block < W.heap.size := by obtain ⟨m, hm⟩ := k0; exact DataW.trod_lt m _ _ _ hm
  obtain ⟨b0, z0, w0⟩ : ∃ b zs, InSmp W b a0 len0 cap0 zs := by
    obtain ⟨fuel, hf⟩ := h0
    exact InSmp.of_trod (by simpa [Value.cells] using hf)
  clear hA0 hval0
  refine (ChunkSplits_walk b0 a0 len0 cap0 z0 W (gl_of_laid hL) w0).mono fun e W' ⟨he, bel⟩ => ?_
  subst he
  exact ⟨_, rfl, _, _, _, [], _, [], hW', trodAll_mk1 (shut_bool Tryd.underlying4 _), (trodAll_cons_mk (Below.trod (by kernel_rfl) (by kernel_rfl) (of_decide_eq_true (by kernel_rfl)) k0 bel lt0) trodAll_mk0), rfl, bel.frame _, fun h => by cases h⟩

/-- the row's statement -/
theorem ChunkSplits_holds : Rows.ChunkSplitsSaid :=
  OpenClaim.holds_of_wide 6 Tryd.f6 rfl rfl rfl rfl rfl rfl rfl ⟨rfl, rfl, rfl, rfl, rfl⟩ rfl rfl rfl rfl rfl (by kernel_rfl) Tryd.func6 (by kernel_rfl)
    (of_decide_eq_true (by kernel_rfl)) (by unfold Func.isWrapper; first | (rw [if_pos (by decide +kernel)]; kernel_rfl) | (rw [if_neg (by decide +kernel)]; exact ⟨rfl, rfl⟩))
    (fun os started H enc _ => ChunkSplits_lifted os started H enc)

/-- the card: the same, with what the two variables hold tied to the program's text -/
theorem ChunkSplits_card : Rows.ChunkSplitsCardSaid :=
  Claim7.holds_tied_plain_at .later [] [.data, .data] true (true, "d850849d56096a613cd1da5de40daa37d392cd3535a8b6dec4eac43994b83435") false
    ChunkSplits_holds (fun _ h => by cases h) (by kernel_rfl) (fun _ h => by cases h) chunkSplits_row_tie rfl ⟨rfl, rfl⟩ (by kernel_rfl) rfl
    (fun f fn hf hfn => by
      obtain rfl : f = 6 := Option.some.inj ((show Tryd.prog.funcNamed "tsblock/tsblocklaw09.ChunkSplits" = some 6 by kernel_rfl).symm.trans hf) |>.symm
      obtain rfl : fn = Tryd.f6 := (Option.some.inj (Tryd.func6.symm.trans hfn)).symm
      exact ⟨by kernel_rfl, fun j t ht => by
        rw [Tryd.params6] at ht
        have hm : t ∈ [29] := by simpa using Array.mem_of_getElem? ht
        have hall : ([29].all fun u => !Tryd.prog.wantsStandIn u) = true := by kernel_rfl
        exact (show Tryd.prog.wantsStandIn t = false by simpa using List.all_eq_true.1 hall t hm)⟩)
    (by kernel_rfl)
#print axioms ChunkSplits_card
end Go.Proofs.YtjepaneniodbpaaDoor
