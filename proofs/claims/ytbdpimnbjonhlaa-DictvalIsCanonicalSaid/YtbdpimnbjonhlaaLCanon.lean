/- DictvalIsCanonical: the bits that Get reads are the encoding of the values that it returns. No condition. -/
import Derived.Test.YtbdpimnbjonhlaaLawIn
import Derived.Test.YtbdpimnbjonhlaaDvAll
namespace Go.Proofs.Ytbdpimnbjonhlaa
open Go Go.RowKit

set_option maxHeartbeats 1600000 in
theorem DictvalIsCanonical_walk (a0 : Option Addr) (len0 cap0 : Nat) (z0 : List Int) (a1 : Int) (w : World) (w0 : IsRow .u8 w a0 len0 cap0 z0) (w1 : (Lit.int .i64 a1).wf = true) :
    Calls Try.prog 5 #[.slice a0 len0 cap0, .int .i64 a1] w fun e w' => e = .returned (.bool true) ∧ Below w.heap.size w w' := by
  obtain ⟨b, l, hI, hx⟩ := InRow.u8 w0
  obtain ⟨hc0, hc1⟩ := bounds_i64 w1
  clear w0 w1
  by_cases hbig : 1200 < len0
  · go_enter Try.func5, Try.ntmps5
    go_wp2_with (go_at_call 9; refine (alive_any _).mono ?_; rintro e w1 ⟨rfl, hN⟩)
    go_ret
    exact ⟨rfl, hN⟩
  · by_cases hbig2 : 3200 < a1
    · go_enter Try.func5, Try.ntmps5
      go_wp2_with (go_at_call 9; refine (alive_any _).mono ?_; rintro e w1 ⟨rfl, hN⟩)
      go_ret
      exact ⟨rfl, hN⟩
    · by_cases hneg : a1 < 0
      · go_enter Try.func5, Try.ntmps5
        go_wp2_with (go_at_call 9; refine (alive_any _).mono ?_; rintro e w1 ⟨rfl, hN⟩)
        go_ret
        exact ⟨rfl, hN⟩
      · obtain ⟨n, rfl⟩ : ∃ n : Nat, a1 = (n : Int) := ⟨a1.toNat, by omega⟩
        have hlen := hI.len
        have hnil : ∀ g W, (binOp .eql 30 (.pointer (some ⟨g, 0, none⟩)) (.pointer none)).run Try.prog W = .ok (.bool false) W := fun _ _ => by kernel_rfl
        have HR := Lib.hid (NewReader_any w b a0 len0 cap0 l hlen (by omega) hI.rd hI.nil hx)
        have HI := Lib.hid (And.intro hI hx)
        have HL := Lib.hid hlen
        clear hI hx hlen
        go_enter Try.func5, Try.ntmps5
        go_wp2_with fail
        refine HR.out.mono ?_
        rintro e w1 ⟨g, b1, rfl, hR, hg, hb1, hN1⟩
        have hnl := hnil g
        have HG := Lib.hid (Get_nat w1 g b1 l 0 n hR (by omega))
        have hgl := hR.lt
        have HVI := Lib.hid (getVals_inv n (up l))
        have HVB := Lib.hid (getVals_bad n (up l))
        have h00 : rest l 0 = up l := by simp [rest]
        rw [h00] at HG
        clear hR HR hnil h00
        go_wp2_with fail
        generalize hV : getVals n (up l) = V at *
        obtain ⟨L, E, R⟩ := V
        refine HG.out.mono ?_
        rintro e w2 ⟨A2, c2, rfl, ⟨p, _, hp, hR2⟩, ⟨b2, hO2, hb2⟩, hK2⟩
        dsimp only at hp hO2 HVI HVB ⊢
        have hN2 : Nw w w2 := Kp.nw hN1 hK2 hg hg
        have hs2 := hN2.size
        have hs12 := hK2.size
        by_cases hE : E = 0
        · subst hE
          have hlens : n = L.length ∧ (dict L).length ≤ 128 ∧ (∀ x ∈ L, x < 18446744073709551616) ∧ up l = putBits L ++ R := by
            by_cases hn : n = 0
            · subst hn
              rw [getVals_zero] at hV
              injection hV with h1 h2
              injection h2 with h2 h3
              subst h1 h3
              exact ⟨rfl, by decide, by simp, by simp [putBits]⟩
            · obtain ⟨h1, h2, h3, h4⟩ := HVI.out hn rfl
              exact ⟨h1.symm, h2, h3, h4⟩
          obtain ⟨hnL, hdL, hxL, hup⟩ := hlens
          have hupl : 8 * len0 = (putBits L).length + R.length := by rw [HL.out, ← up_length, hup, List.length_append]
          have HRP := Lib.hid (RPut_nil w2 b2 A2 L.length c2 L rfl (by omega) ⟨g, by omega, by omega⟩ hO2.rd hxL hdL)
          have hLe : ∀ w5, Nw w2 w5 → Calls Try.prog 18 #[.pointer (some ⟨g, 0, none⟩)] w5 fun e w' => e = .returned (.int .i64 (R.length : Int)) ∧ Dr w5 w' := by
            intro w5 hN5
            have h := RLeft_any w5 g b1 l p (hR2.nw hN5)
            rw [show (8 * l.length - p : Nat) = R.length from by rw [← hp, rest_length]] at h
            exact h
          have HLe := Lib.hid hLe
          have HUP := Lib.hid hup
          have HNL := Lib.hid hnL
          have HKR := Lib.hid (show (8 * (len0 : Int) - (R.length : Int)) = (((putBits L).length : Nat) : Int) from by omega)
          have hkle : (putBits L).length ≤ 8 * len0 := by omega
          have hrle : R.length ≤ 8 * len0 := by omega
          have hHP : ∀ w5, Nw w2 w5 → Calls Try.prog 19 #[.slice a0 len0 cap0] w5 fun e w' => ∃ b' A' c', e = .returned (.slice A' (8 * len0) c') ∧ Rd w' b' A' (cB (putBits L)) ∧ 8 * len0 ≤ c' ∧ c' ≤ 9223372036854775807 ∧ (8 * len0 = 0 ∨ ∃ b, A' = some ⟨b, 0, none⟩) ∧ Nw w5 w' := by
            intro w5 hN5
            have h := Unpack_any w5 b a0 len0 cap0 l HL.out (by omega) ((HI.out.1.rd.nw hN2).nw hN5) HI.out.2
            rw [← HL.out] at h
            refine h.mono ?_
            rintro e w' ⟨b', A', c', rfl, hO, hb', hN'⟩
            refine ⟨b', A', c', rfl, ?_, hO.cap.1, hO.cap.2, ?_, hN'⟩
            · have h := hO.rd.take (putBits L).length
              rw [← List.map_take, HUP.out, List.take_left] at h
              exact h
            · rcases Nat.eq_zero_or_pos (8 * len0) with h | h
              · exact .inl h
              · exact .inr ⟨b', (hO.at_ (j := 0) (by omega)).1⟩
          have HHP := Lib.hid hHP
          clear hup hnL hupl hHP hLe hO2 hR2 hp hV HVI HVB HG hdL hxL
          go_wp2_with fail
          refine HRP.out.mono ?_
          rintro e w3 ⟨b3, A3, c3, rfl, hr3, hc3, hA3, hN3⟩
          have hN23 := hN3
          have HR3 := Lib.hid hr3
          clear hr3 hA3 HRP
          go_wp2_with fail
          refine (HLe.out _ hN23).mono ?_
          rintro e w4 ⟨rfl, hD4⟩
          have hN4 := hN23.trans hD4.nw
          go_wp2_with fail
          rw [HKR.out]
          refine (alive_any _).mono ?_
          rintro e w5 ⟨rfl, hN5⟩
          have hnB : ((L.length : Int) == (n : Int)) = true := by rw [HNL.out]; simp
          go_wp2_with fail
          refine (HHP.out _ (hN4.trans hN5)).mono ?_
          rintro e w6 ⟨b6, A6, c6, rfl, hr6, hc6, hc6m, hA6, hN6⟩
          have HR6 := Lib.hid hr6
          clear hr6 hA6
          have hk0 : (0 : Int) ≤ (((putBits L).length : Nat) : Int) := Int.natCast_nonneg _
          have hk1 : (((putBits L).length : Nat) : Int) ≤ 8 * (len0 : Int) := by omega
          have hk2 : (((putBits L).length : Nat) : Int) ≤ (c6 : Int) := by omega
          have HK2 := Lib.hid (show min (((putBits L).length : Nat) : Int) (8 * (len0 : Int)) = (((putBits L).length : Nat) : Int) from by omega)
          go_wp2_with fail
          rw [HK2.out, Int.toNat_natCast]
          refine (EqualB_same w6 b3 b6 A3 A6 (putBits L).length c3 (putBits L).length c6 (putBits L) rfl rfl (by omega) (((HR3.out.nw hD4.nw).nw hN5).nw hN6) HR6.out).mono ?_
          rintro e w7 ⟨rfl, hD7⟩
          go_wp2
          go_ret
          exact ⟨rfl, (((hN2.trans hN4).trans hN5).trans hN6).trans hD7.nw⟩
        · have hE2 : ((E : Int) == 0) = false := by rw [beq_eq_false_iff_ne]; omega
          have hLn := HVB.out hE
          subst hLn
          go_wp2_with (go_at_call 9; refine (alive_any _).mono ?_; rintro e w6 ⟨rfl, hN6⟩)
          go_ret
          exact ⟨rfl, hN2.trans hN6⟩

open Go.ChangeShapes Go.WideShapes Go.ChangeAt Go.RowKit in
open Go.ChangeMaps (open_string shut_string) in
set_option linter.unusedVariables false in
set_option maxRecDepth 100000 in
theorem DictvalIsCanonical_lifted (os : Os) (started : os.Started) (H : Type) (enc : TypeId × Value → H) :
    ReturnsInHanded {} Try.checked os 5 .any (Rows.dictvalIsCanonicalSpec.pre6 enc Try.prog Try.f5 Rows.dictvalIsCanonicalRow.domain false) (Rows.dictvalIsCanonicalSpec.post enc Try.prog Try.f5 false true false false) := by
  refine returnsInHanded_of_change (C := Try.checked) (by kernel_rfl) started (by kernel_rfl) Try.func5
    (ChangeSpec.witness6 (enc := enc) (C := Try.checked) false ⟨#[], #[.slice none 0 0, .int .i64 0], []⟩ 8 (by kernel_rfl) (by kernel_rfl) (by kernel_rfl) (by kernel_rfl)) ?_
  intro W base args ds gs before hval0 hW hcnd _
  have hval : ∀ (j : Nat) t v, Try.f5.params[j]? = some t → args[j]? = some v → Value.okWide Try.prog W .any base t v := hval0
  have hW' := hW
  obtain ⟨p, q, hA0, hV, rfl, hfz, hnd⟩ := hW
  have hA : DataW.TrodAll enc Try.prog W 0 (fun _ => true) true Try.f5.params.toList args.toList ds p := hA0
  rw [Try.params5] at hA hval
  obtain ⟨v0, vs0, d0, ds0, p0, q0, hargs, rfl, rfl, h0, r0⟩ := trodAll_cons hA
  obtain ⟨v1, vs1, d1, ds1, p1, q1, rfl, rfl, rfl, h1, r1⟩ := trodAll_cons r0
  obtain ⟨rfl, rfl, rfl⟩ := trodAll_nil r1
  obtain rfl : args = #[v0, v1] := by cases args; simp_all
  obtain ⟨rfl, rfl⟩ := trodVars_none hV
  obtain ⟨a0, len0, cap0, rfl⟩ := okWide_slice Try.underlying29 (hval 0 29 v0 rfl rfl)
  have k0 := h0
  have lt0 : ∀ x ∈ p0, x.block < W.heap.size := by obtain ⟨m, hm⟩ := k0; exact DataW.trod_lt m _ _ _ hm
  obtain ⟨z0, w0⟩ : ∃ zs, IsRow .u8 W a0 len0 cap0 zs := by
    obtain ⟨fuel, hf⟩ := h0
    rcases open_ints Try.underlying29 Try.underlying5 (by kernel_rfl) hf with ⟨hcs, _⟩ | ⟨x, l, c, zs, hcs, _, hl, hm, hz, _, hcell, hwz⟩
    · simp [Value.cells] at hcs
      obtain ⟨rfl, rfl, rfl⟩ := hcs
      exact ⟨[], .inl ⟨rfl, rfl, rfl, rfl⟩⟩
    · simp [Value.cells] at hcs
      obtain ⟨rfl, rfl, rfl⟩ := hcs
      exact ⟨zs, .inr ⟨_, rfl, hl, hm, by simpa using hz, hcell, hwz⟩⟩
  obtain ⟨a1, rfl, rfl, rfl, w1⟩ := open_int Try.underlying3 (hval 1 3 v1 rfl rfl) h1
  clear hA0 hval0
  refine (DictvalIsCanonical_walk a0 len0 cap0 z0 a1 W w0 w1).mono fun e W' ⟨he, bel⟩ => ?_
  subst he
  exact ⟨_, rfl, _, _, _, [], _, [], hW', trodAll_mk1 (shut_bool Try.underlying4 _), (trodAll_cons_mk (Below.trod (by kernel_rfl) (by kernel_rfl) (of_decide_eq_true (by kernel_rfl)) k0 bel lt0) (trodAll_cons_mk (shut_int Try.underlying3 w1) trodAll_mk0)), rfl, bel.frame _, fun h => by cases h⟩

/-- the statement -/
theorem DictvalIsCanonical_holds : Rows.DictvalIsCanonicalSaid :=
  OpenClaim.holds_of_wide 5 Try.f5 rfl rfl rfl rfl rfl rfl rfl ⟨rfl, rfl, rfl, rfl, rfl⟩ rfl rfl rfl rfl rfl (by kernel_rfl) Try.func5 (by kernel_rfl)
    (of_decide_eq_true (by kernel_rfl)) (by unfold Func.isWrapper; first | (rw [if_pos (by decide +kernel)]; kernel_rfl) | (rw [if_neg (by decide +kernel)]; exact ⟨rfl, rfl⟩))
    (fun os started H enc _ => DictvalIsCanonical_lifted os started H enc)
#print axioms DictvalIsCanonical_holds
end Go.Proofs.Ytbdpimnbjonhlaa
