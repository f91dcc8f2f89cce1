/- DictvalRoundTrip: Get reads the values that Put wrote, and a nil Writer or Reader is refused. No condition. -/
import Derived.Test.YtbdpimnbjonhlaaLawIn
import Derived.Test.YtbdpimnbjonhlaaDvAll
namespace Go.Proofs.Ytbdpimnbjonhlaa
open Go Go.RowKit

set_option maxRecDepth 100000 in
set_option maxHeartbeats 3200000 in
theorem DictvalRoundTrip_walk (a0 : Option Addr) (len0 cap0 : Nat) (z0 : List Int) (w : World) (w0 : IsRow .u64 w a0 len0 cap0 z0) :
    Calls Try.prog 7 #[.slice a0 len0 cap0] w fun e w' => e = .returned (.bool true) ∧ Below w.heap.size w w' := by
  obtain ⟨b, l, hI, hx⟩ := InRow.u64 w0
  clear w0
  by_cases hbig : 400 < len0
  · go_enter Try.func7, Try.ntmps7
    go_wp2_with (go_at_call 9; refine (alive_any _).mono ?_; rintro e w1 ⟨rfl, hN⟩)
    go_ret
    exact ⟨rfl, hN⟩
  · have hlen := hI.len
    have hbl : cN .u64 l ≠ [] → b < w.heap.size := fun h => hI.lt (by simpa [cN] using h)
    have HI := Lib.hid (And.intro hI hx)
    have HL := Lib.hid hlen
    have HBL := Lib.hid hbl
    clear hI hx hlen hbl
    go_enter Try.func7, Try.ntmps7
    go_wp2_with fail
    refine (NewWriter_any w).mono ?_
    rintro e w1 ⟨g, rfl, hW, hg, hN1⟩
    have hs1 := hN1.size
    have hgl := hW.lt
    obtain ⟨b0, hr0, hb0g, _, hb0l⟩ := rd_pick (HI.out.1.rd.nw hN1) HBL.out g g hg hg
    by_cases hd : (dict l).length ≤ 128
    · have HP := Lib.hid (Put_all w1 g g b0 a0 len0 cap0 [] l HL.out (by omega) hr0 HI.out.2 hW hb0g hb0g (by simp) (fun h => by have := hb0l (by simpa [cN] using h); omega) hd)
      clear hW hr0
      go_wp2_with fail
      refine HP.out.mono ?_
      rintro e w2 ⟨rfl, gb, hW2, hgb, hK2⟩
      rw [List.nil_append] at hW2
      have hN2 : Nw w w2 := Kp.nw hN1 hK2 hg hg
      have hs2 := hK2.size
      have hPlen : (putBits l).length ≤ 7 + 64 * 128 + 7 * 400 := by
        by_cases hl : l = []
        · subst hl; simp [putBits]
        · rw [putBits_length l hl]
          have h7 := wd_le _ hd
          have : wd (dict l).length * l.length ≤ 7 * 400 := Nat.mul_le_mul h7 (by have := HL.out; omega)
          omega
      have HPn := Lib.hid (Put_nil w2 b a0 len0 cap0 l HL.out (by omega) (HI.out.1.rd.nw hN2) HI.out.2)
      have hV : getVals len0 (rest (pk (putBits l)) 0) = (l, 0, List.replicate (8 * (((putBits l).length + 7) / 8) - (putBits l).length) false) := by
        rw [rest_pk, HL.out]
        by_cases hl : l = []
        · subst hl; rw [List.length_nil, getVals_zero]; simp [putBits]
        · exact getVals_put l _ hl hd HI.out.2
      have HV := Lib.hid hV
      have hBy : ∀ w3, Nw w2 w3 → Calls Try.prog 28 #[.pointer (some ⟨g, 0, none⟩)] w3 fun e w' =>
          ∃ b' A' c', e = .returned (.slice A' (pk (putBits l)).length c') ∧ Ow w' b' 5 1 A' (pk (putBits l)).length c' (cN .u8 (pk (putBits l))) ∧ w3.heap.size ≤ b' ∧ Nw w3 w' :=
        fun w3 hN3 => WBytes_any w3 g gb _ (hW2.nw hN3) (by omega)
      have HBy := Lib.hid hBy
      have hPk : (pk (putBits l)).length ≤ 20000 := by rw [pk_length]; omega
      have HE := Lib.hid (endE_pad (8 * (((putBits l).length + 7) / 8) - (putBits l).length) (by omega))
      generalize putBits l = B at *
      generalize List.replicate (8 * ((B.length + 7) / 8) - B.length) false = R at *
      clear hW2 HP hV hBy
      go_wp2_with fail
      refine (Get_nil _ _).mono ?_
      rintro e w3 ⟨rfl, hw3⟩
      subst hw3
      go_wp2_with fail
      refine HPn.out.mono ?_
      rintro e w3 ⟨rfl, hN3⟩
      go_wp2_with fail
      refine (HBy.out _ hN3).mono ?_
      rintro e w4 ⟨b4, A4, c4, rfl, hO4, hb4, hN4⟩
      have HNR := Lib.hid (NewReader_any w4 b4 A4 _ c4 (pk B) rfl (by omega) hO4.rd hO4.nilcap (pk_lt _))
      clear hO4
      go_wp2_with fail
      refine HNR.out.mono ?_
      rintro e w5 ⟨g5, b5, rfl, hR5, hg5, hb5, hN5⟩
      have hG := Get_nat w5 g5 b5 _ 0 len0 hR5 (by omega)
      rw [HV.out] at hG
      have HG := Lib.hid hG
      have hN35 := ((hN2.trans hN3).trans hN4).trans hN5
      have hs35 := hN35.size
      have hs24 := (hN3.trans hN4).size
      clear hG hR5
      go_wp2_with fail
      refine HG.out.mono ?_
      rintro e w6 ⟨A6, c6, rfl, ⟨p, _, hp, hR6⟩, ⟨b6, hO6, hb6⟩, hK6⟩
      dsimp only at hp hO6 ⊢
      have hN6 : Nw w w6 := Kp.nw hN35 hK6 (by omega) (by omega)
      have hEq : ∀ w7, Nw w6 w7 → Calls Try.prog 12 #[.slice a0 len0 cap0, .slice A6 l.length c6] w7 fun e w' => e = .returned (.bool true) ∧ Dr w7 w' := by
        intro w7 hN7
        exact Equal_same w7 b b6 a0 A6 len0 cap0 l.length c6 l HL.out rfl (by omega) ((HI.out.1.rd.nw hN6).nw hN7) (hO6.nw hN7).rd
      have hEn : ∀ w7, Nw w6 w7 → Calls Try.prog 31 #[.pointer (some ⟨g5, 0, none⟩)] w7 fun e w' => e = .returned (.int .i64 0) ∧ Dr w7 w' := by
        intro w7 hN7
        have h := REnd_any w7 g5 b5 _ p (hR6.nw hN7)
        rw [hp, HE.out] at h
        exact h
      have HEq := Lib.hid hEq
      have HEn := Lib.hid hEn
      clear hp hR6 hO6 hEq hEn
      go_wp2_with fail
      refine (alive_any _).mono ?_
      rintro e w7 ⟨rfl, hN7⟩
      go_wp2_with fail
      refine (HEq.out _ hN7).mono ?_
      rintro e w8 ⟨rfl, hD8⟩
      go_wp2_with fail
      refine (HEn.out _ (hN7.trans hD8.nw)).mono ?_
      rintro e w9 ⟨rfl, hD9⟩
      go_wp2
      go_ret
      exact ⟨rfl, ((hN6.trans hN7).trans hD8.nw).trans hD9.nw⟩
    · have HP := Lib.hid (Put_limit w1 g b0 a0 len0 cap0 l HL.out (by omega) hr0 HI.out.2 (by omega))
      clear hW hr0
      go_wp2_with fail
      refine HP.out.mono ?_
      rintro e w2 ⟨rfl, hN12⟩
      have hN2 := hN1.trans hN12
      have HPn := Lib.hid (Put_nil w2 b a0 len0 cap0 l HL.out (by omega) (HI.out.1.rd.nw hN2) HI.out.2)
      go_wp2_with fail
      refine (Get_nil _ _).mono ?_
      rintro e w3 ⟨rfl, hw3⟩
      subst hw3
      go_wp2_with fail
      refine HPn.out.mono ?_
      rintro e w3 ⟨rfl, hN3⟩
      go_wp2_with fail
      refine (alive_any _).mono ?_
      rintro e w4 ⟨rfl, hN4⟩
      have HRD := Lib.hid (RDict_any w4 b a0 len0 cap0 l HL.out (by omega) (((HI.out.1.rd.nw hN2).nw hN3).nw hN4))
      go_wp2_with fail
      refine HRD.out.mono ?_
      rintro e w5 ⟨b5, A5, c5, rfl, _, _, hN5⟩
      have hd2 : (128 : Int) < ((dict l).length : Int) := by omega
      go_wp2
      go_ret
      exact ⟨rfl, ((hN2.trans hN3).trans hN4).trans hN5⟩

open Go.ChangeShapes Go.WideShapes Go.ChangeAt Go.RowKit in
open Go.ChangeMaps (open_string shut_string) in
set_option linter.unusedVariables false in
set_option maxRecDepth 100000 in
theorem DictvalRoundTrip_lifted (os : Os) (started : os.Started) (H : Type) (enc : TypeId × Value → H) :
    ReturnsInHanded {} Try.checked os 7 .any (Rows.dictvalRoundTripSpec.pre6 enc Try.prog Try.f7 Rows.dictvalRoundTripRow.domain false) (Rows.dictvalRoundTripSpec.post enc Try.prog Try.f7 false true false false) := by
  refine returnsInHanded_of_change (C := Try.checked) (by kernel_rfl) started (by kernel_rfl) Try.func7
    (ChangeSpec.witness6 (enc := enc) (C := Try.checked) false ⟨#[], #[.slice none 0 0], []⟩ 8 (by kernel_rfl) (by kernel_rfl) (by kernel_rfl) (by kernel_rfl)) ?_
  intro W base args ds gs before hval0 hW hcnd _
  have hval : ∀ (j : Nat) t v, Try.f7.params[j]? = some t → args[j]? = some v → Value.okWide Try.prog W .any base t v := hval0
  have hW' := hW
  obtain ⟨p, q, hA0, hV, rfl, hfz, hnd⟩ := hW
  have hA : DataW.TrodAll enc Try.prog W 0 (fun _ => true) true Try.f7.params.toList args.toList ds p := hA0
  rw [Try.params7] at hA hval
  obtain ⟨v0, vs0, d0, ds0, p0, q0, hargs, rfl, rfl, h0, r0⟩ := trodAll_cons hA
  obtain ⟨rfl, rfl, rfl⟩ := trodAll_nil r0
  obtain rfl : args = #[v0] := by cases args; simp_all
  obtain ⟨rfl, rfl⟩ := trodVars_none hV
  obtain ⟨a0, len0, cap0, rfl⟩ := okWide_slice Try.underlying22 (hval 0 22 v0 rfl rfl)
  have k0 := h0
  have lt0 : ∀ x ∈ p0, x.block < W.heap.size := by obtain ⟨m, hm⟩ := k0; exact DataW.trod_lt m _ _ _ hm
  obtain ⟨z0, w0⟩ : ∃ zs, IsRow .u64 W a0 len0 cap0 zs := by
    obtain ⟨fuel, hf⟩ := h0
    rcases open_ints Try.underlying22 Try.underlying25 (by kernel_rfl) hf with ⟨hcs, _⟩ | ⟨x, l, c, zs, hcs, _, hl, hm, hz, _, hcell, hwz⟩
    · simp [Value.cells] at hcs
      obtain ⟨rfl, rfl, rfl⟩ := hcs
      exact ⟨[], .inl ⟨rfl, rfl, rfl, rfl⟩⟩
    · simp [Value.cells] at hcs
      obtain ⟨rfl, rfl, rfl⟩ := hcs
      exact ⟨zs, .inr ⟨_, rfl, hl, hm, by simpa using hz, hcell, hwz⟩⟩
  clear hA0 hval0
  refine (DictvalRoundTrip_walk a0 len0 cap0 z0 W w0).mono fun e W' ⟨he, bel⟩ => ?_
  subst he
  exact ⟨_, rfl, _, _, _, [], _, [], hW', trodAll_mk1 (shut_bool Try.underlying4 _), (trodAll_cons_mk (Below.trod (by kernel_rfl) (by kernel_rfl) (of_decide_eq_true (by kernel_rfl)) k0 bel lt0) trodAll_mk0), rfl, bel.frame _, fun h => by cases h⟩

/-- the statement -/
theorem DictvalRoundTrip_holds : Rows.DictvalRoundTripSaid :=
  OpenClaim.holds_of_wide 7 Try.f7 rfl rfl rfl rfl rfl rfl rfl ⟨rfl, rfl, rfl, rfl, rfl⟩ rfl rfl rfl rfl rfl (by kernel_rfl) Try.func7 (by kernel_rfl)
    (of_decide_eq_true (by kernel_rfl)) (by unfold Func.isWrapper; first | (rw [if_pos (by decide +kernel)]; kernel_rfl) | (rw [if_neg (by decide +kernel)]; exact ⟨rfl, rfl⟩))
    (fun os started H enc _ => DictvalRoundTrip_lifted os started H enc)
#print axioms DictvalRoundTrip_holds
end Go.Proofs.Ytbdpimnbjonhlaa
