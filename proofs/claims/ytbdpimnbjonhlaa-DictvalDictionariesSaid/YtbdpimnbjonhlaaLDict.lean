/- DictvalDictionaries: Dictionary and Width answer as the reference, for every list and every count. No condition. -/
import Derived.Test.YtbdpimnbjonhlaaLawIn
import Derived.Test.YtbdpimnbjonhlaaAlive
import Derived.Test.YtbdpimnbjonhlaaClone
import Derived.Test.YtbdpimnbjonhlaaWidth
import Derived.Test.YtbdpimnbjonhlaaDictF
namespace Go.Proofs.Ytbdpimnbjonhlaa
open Go Go.RowKit

set_option maxHeartbeats 1600000 in
theorem DictvalDictionaries_walk (a0 : Option Addr) (len0 cap0 : Nat) (z0 : List Int) (a1 : Int) (w : World) (w0 : IsRow .u64 w a0 len0 cap0 z0) (w1 : (Lit.int .i64 a1).wf = true) :
    Calls Try.prog 3 #[.slice a0 len0 cap0, .int .i64 a1] w fun e w' => e = .returned (.bool true) ∧ Below w.heap.size w w' := by
  obtain ⟨b, l, hI, hx⟩ := InRow.u64 w0
  obtain ⟨hc0, hc1⟩ := bounds_i64 w1
  clear w0 w1
  by_cases hbig : 400 < len0
  · go_enter Try.func3, Try.ntmps3
    go_wp2_with (go_at_call 9; refine (alive_any _).mono ?_; rintro e w1 ⟨rfl, hN⟩)
    go_ret
    exact ⟨rfl, hN⟩
  · have hlen := hI.len
    have HC := Lib.hid (CloneU_any w b a0 len0 cap0 l hlen (by omega) hI.rd hI.nil)
    have HI := Lib.hid (And.intro hI hx)
    have HL := Lib.hid hlen
    clear hI hx hlen
    go_enter Try.func3, Try.ntmps3
    go_wp2_with fail
    refine HC.out.mono ?_
    rintro e w1 ⟨b1, A1, c1, rfl, hO1, hb1, hN1⟩
    have HO1 := Lib.hid hO1
    have HD := Lib.hid (Dictionary_any w1 b a0 len0 cap0 l HL.out (by omega) (HI.out.1.rd.nw hN1) HI.out.2)
    clear hO1 HC
    go_wp2_with fail
    refine HD.out.mono ?_
    rintro e w2 ⟨b2, c2, rfl, hO2, hb2, hN2⟩
    have HO2 := Lib.hid hO2
    have HR := Lib.hid (RDict_any w2 b a0 len0 cap0 l HL.out (by omega) ((HI.out.1.rd.nw hN1).nw hN2))
    have HDL := Lib.hid (dict_length l)
    clear hO2 HD
    go_wp2_with fail
    refine HR.out.mono ?_
    rintro e w3 ⟨b3, A3, c3, rfl, hO3, hb3, hN3⟩
    have HE := Lib.hid (Equal_same w3 b2 b3 (some ⟨b2, 0, none⟩) A3 (dict l).length c2 (dict l).length c3 (dict l) rfl rfl (by have := HDL.out; have := HL.out; omega) (HO2.out.nw hN3).rd hO3.rd)
    clear hO3 HR
    go_wp2_with fail
    refine HE.out.mono ?_
    rintro e w4 ⟨rfl, hD4⟩
    have HE2 := Lib.hid (Equal_same w4 b b1 a0 A1 len0 cap0 len0 c1 l HL.out HL.out (by omega) ((((HI.out.1.rd.nw hN1).nw hN2).nw hN3).nw hD4.nw) ((((HO1.out.nw hN2).nw hN3).nw hD4.nw).rd))
    clear HE
    go_wp2_with fail
    refine HE2.out.mono ?_
    rintro e w5 ⟨rfl, hD5⟩
    have hN5 := (((hN1.trans hN2).trans hN3).trans hD4.nw).trans hD5.nw
    by_cases hc : 1152921504606846976 < a1
    · go_wp2_with (go_at_call 9; refine (alive_any _).mono ?_; rintro e w6 ⟨rfl, hN6⟩)
      go_ret
      exact ⟨rfl, hN5.trans hN6⟩
    · go_wp2_with (first
        | (go_at_call 9; refine (alive_any _).mono ?_; rintro e w6 ⟨rfl, hN6⟩)
        | (go_at_call 14; refine (Width_any _ _ (by omega) (by omega)).mono ?_; rintro e w7 ⟨rfl, hw7⟩; subst hw7)
        | (go_at_call 15; refine (RWidth_any _ _ (by omega) (by omega)).mono ?_; rintro e w7 ⟨rfl, hw7⟩; subst hw7))
      go_ret
      exact ⟨rfl, hN5.trans hN6⟩

open Go.ChangeShapes Go.WideShapes Go.ChangeAt Go.RowKit in
open Go.ChangeMaps (open_string shut_string) in
set_option linter.unusedVariables false in
set_option maxRecDepth 100000 in
theorem DictvalDictionaries_lifted (os : Os) (started : os.Started) (H : Type) (enc : TypeId × Value → H) :
    ReturnsInHanded {} Try.checked os 3 .any (Rows.dictvalDictionariesSpec.pre6 enc Try.prog Try.f3 Rows.dictvalDictionariesRow.domain false) (Rows.dictvalDictionariesSpec.post enc Try.prog Try.f3 false true false false) := by
  refine returnsInHanded_of_change (C := Try.checked) (by kernel_rfl) started (by kernel_rfl) Try.func3
    (ChangeSpec.witness6 (enc := enc) (C := Try.checked) false ⟨#[], #[.slice none 0 0, .int .i64 0], []⟩ 8 (by kernel_rfl) (by kernel_rfl) (by kernel_rfl) (by kernel_rfl)) ?_
  intro W base args ds gs before hval0 hW hcnd _
  have hval : ∀ (j : Nat) t v, Try.f3.params[j]? = some t → args[j]? = some v → Value.okWide Try.prog W .any base t v := hval0
  have hW' := hW
  obtain ⟨p, q, hA0, hV, rfl, hfz, hnd⟩ := hW
  have hA : DataW.TrodAll enc Try.prog W 0 (fun _ => true) true Try.f3.params.toList args.toList ds p := hA0
  rw [Try.params3] at hA hval
  obtain ⟨v0, vs0, d0, ds0, p0, q0, hargs, rfl, rfl, h0, r0⟩ := trodAll_cons hA
  obtain ⟨v1, vs1, d1, ds1, p1, q1, rfl, rfl, rfl, h1, r1⟩ := trodAll_cons r0
  obtain ⟨rfl, rfl, rfl⟩ := trodAll_nil r1
  obtain rfl : args = #[v0, v1] := by cases args; simp_all
  obtain ⟨rfl, rfl⟩ := trodVars_none hV
  obtain ⟨a0, len0, cap0, rfl⟩ := okWide_slice Try.underlying22 (hval 0 22 v0 rfl rfl)
  have k0 := h0
  have lt0 : ∀ x ∈ p0, x.block < W.heap.size := by obtain ⟨m, hm⟩ := k0; exact DataW.trod_lt m _ _ _ hm
  obtain ⟨z0, w0⟩ : ∃ zs, IsRow .u64 W a0 len0 cap0 zs := by
    obtain ⟨fuel, hf⟩ := h0
    rcases open_ints Try.underlying22 Try.underlying25 (by kernel_rfl) hf with ⟨hcs, _⟩ | ⟨x, l, c, zs, hcs, _, hl, hm, hz, _, hcell, hwz⟩
    · simp [Value.cells] at hcs
      obtain ⟨rfl, rfl, rfl⟩ := hcs
      exact ⟨[], .inl ⟨rfl, rfl, rfl, rfl⟩⟩
    · simp [Value.cells] at hcs
      obtain ⟨rfl, rfl, rfl⟩ := hcs
      exact ⟨zs, .inr ⟨_, rfl, hl, hm, by simpa using hz, hcell, hwz⟩⟩
  obtain ⟨a1, rfl, rfl, rfl, w1⟩ := open_int Try.underlying3 (hval 1 3 v1 rfl rfl) h1
  clear hA0 hval0
  refine (DictvalDictionaries_walk a0 len0 cap0 z0 a1 W w0 w1).mono fun e W' ⟨he, bel⟩ => ?_
  subst he
  exact ⟨_, rfl, _, _, _, [], _, [], hW', trodAll_mk1 (shut_bool Try.underlying4 _), (trodAll_cons_mk (Below.trod (by kernel_rfl) (by kernel_rfl) (of_decide_eq_true (by kernel_rfl)) k0 bel lt0) (trodAll_cons_mk (shut_int Try.underlying3 w1) trodAll_mk0)), rfl, bel.frame _, fun h => by cases h⟩

/-- the statement -/
theorem DictvalDictionaries_holds : Rows.DictvalDictionariesSaid :=
  OpenClaim.holds_of_wide 3 Try.f3 rfl rfl rfl rfl rfl rfl rfl ⟨rfl, rfl, rfl, rfl, rfl⟩ rfl rfl rfl rfl rfl (by kernel_rfl) Try.func3 (by kernel_rfl)
    (of_decide_eq_true (by kernel_rfl)) (by unfold Func.isWrapper; first | (rw [if_pos (by decide +kernel)]; kernel_rfl) | (rw [if_neg (by decide +kernel)]; exact ⟨rfl, rfl⟩))
    (fun os started H enc _ => DictvalDictionaries_lifted os started H enc)
#print axioms DictvalDictionaries_holds
end Go.Proofs.Ytbdpimnbjonhlaa
