/- DictvalReads: Get answers as the reference, for all bytes and every number, and reads as many bits. No condition. -/
import Derived.Test.YtbdpimnbjonhlaaLawIn
import Derived.Test.YtbdpimnbjonhlaaDvAll
import Derived.Deep.RegionHeld3
namespace Go.Proofs.Ytbdpimnbjonhlaa
open Go Go.RowKit

set_option maxHeartbeats 1600000 in
theorem DictvalReads_walk (a0 : Option Addr) (len0 cap0 : Nat) (z0 : List Int) (a1 : Int) (w : World) (w0 : IsRow .u8 w a0 len0 cap0 z0) (w1 : (Lit.int .i64 a1).wf = true) :
    Calls Try.prog 4 #[.slice a0 len0 cap0, .int .i64 a1] w fun e w' => e = .returned (.bool true) ∧ Below w.heap.size w w' := by
  obtain ⟨b, l, hI, hx⟩ := InRow.u8 w0
  obtain ⟨hc0, hc1⟩ := bounds_i64 w1
  clear w0 w1
  by_cases hbig : 1200 < len0
  · go_enter Try.func4, Try.ntmps4
    go_wp2_with (go_at_call 9; refine (alive_any _).mono ?_; rintro e w1 ⟨rfl, hN⟩)
    go_ret
    exact ⟨rfl, hN⟩
  · by_cases hbig2 : 3200 < a1
    · go_enter Try.func4, Try.ntmps4
      go_wp2_with (go_at_call 9; refine (alive_any _).mono ?_; rintro e w1 ⟨rfl, hN⟩)
      go_ret
      exact ⟨rfl, hN⟩
    · have hlen := hI.len
      have hnil : ∀ g W, (binOp .eql 30 (.pointer (some ⟨g, 0, none⟩)) (.pointer none)).run Try.prog W = .ok (.bool false) W := fun _ _ => by kernel_rfl
      have HR := Lib.hid (NewReader_any w b a0 len0 cap0 l hlen (by omega) hI.rd hI.nil hx)
      have HI := Lib.hid (And.intro hI hx)
      have HL := Lib.hid hlen
      clear hI hx hlen
      by_cases hneg : a1 < 0
      · go_enter Try.func4, Try.ntmps4
        go_wp2_with fail
        refine HR.out.mono ?_
        rintro e w1 ⟨g, b1, rfl, hR, hg, hb1, hN1⟩
        have hnl := hnil g
        have hLe : ∀ w2, Nw w1 w2 → Calls Try.prog 18 #[.pointer (some ⟨g, 0, none⟩)] w2 fun e w' => e = .returned (.int .i64 (8 * (len0 : Int))) ∧ Dr w2 w' := by
          intro w2 hN2
          refine (RLeft_any w2 g b1 l 0 (hR.nw hN2)).mono ?_
          rintro e w' ⟨rfl, hD⟩
          exact ⟨ret_int (by rw [← HL.out]; omega), hD⟩
        have HLe := Lib.hid hLe
        clear hR HR hLe hnil
        go_wp2_with (first
          | (go_at_call 17; refine (Get_neg _ _ _ hneg).mono ?_; rintro e w2 ⟨rfl, hw⟩; subst hw)
          | (go_at_call 9; refine (alive_any _).mono ?_; rintro e w3 ⟨rfl, hN3⟩)
          | (go_at_call 18; refine (HLe.out _ hN3).mono ?_; rintro e w4 ⟨rfl, hD4⟩))
        go_ret
        exact ⟨rfl, (hN1.trans hN3).trans hD4.nw⟩
      · obtain ⟨n, rfl⟩ : ∃ n : Nat, a1 = (n : Int) := ⟨a1.toNat, by omega⟩
        go_enter Try.func4, Try.ntmps4
        go_wp2_with fail
        refine HR.out.mono ?_
        rintro e w1 ⟨g, b1, rfl, hR, hg, hb1, hN1⟩
        have hnl := hnil g
        have HG := Lib.hid (Get_nat w1 g b1 l 0 n hR (by omega))
        have hgl := hR.lt
        clear hR HR hnil
        go_wp2_with fail
        generalize hV : getVals n (rest l 0) = V at *
        obtain ⟨L, E, R⟩ := V
        refine HG.out.mono ?_
        rintro e w2 ⟨A2, c2, rfl, ⟨p, _, hp, hR2⟩, ⟨b2, hO2, hb2⟩, hK2⟩
        dsimp only at hp hO2 ⊢
        have hN2 : Nw w w2 := Kp.nw hN1 hK2 hg hg
        have hs2 := hN2.size
        have hs12 := hK2.size
        have HU := Lib.hid (Unpack_any w2 b a0 len0 cap0 l HL.out (by omega) (HI.out.1.rd.nw hN2) HI.out.2)
        have HP := Lib.hid (And.intro hp hR2)
        have HO2 := Lib.hid hO2
        have HV := Lib.hid hV
        clear hp hR2 hO2 hV HG
        go_wp2_with fail
        refine HU.out.mono ?_
        rintro e w3 ⟨b3, A3, c3, rfl, hO3, hb3, hN3⟩
        have hs3 := hN3.size
        obtain ⟨b4, hQ, hb4⟩ := qr_new hO3 (by rw [up_length, ← HL.out]; omega) (by omega)
        have HQ := Lib.hid (RGet_nat _ _ b4 (up l) n hQ (by simp; omega) (by omega))
        have hN3a := Nw.alloc' (Nw.refl w3) (.cells #[.slice A3 (8 * l.length) c3] 40)
        have HV2 := Lib.hid (show getVals n (up l) = (L, E, R) from by rw [← HV.out]; simp [rest])
        clear hQ hO3 HU
        go_wp2_with fail
        refine HQ.out.mono ?_
        rw [HV2.out]
        rintro e w4 ⟨A4, c4, rfl, hQ4, ⟨b5, hO4, hb5⟩, hK4⟩
        dsimp only at hQ4 hO4 ⊢
        have hN4 : Nw w2 w4 := Kp.nw (hN3.trans hN3a) hK4 (by omega) (by omega)
        have hR4 : Rdr w4 g b1 l p := HP.out.2.nw hN4
        have hleft : (8 * l.length - p : Nat) = R.length := by rw [← HP.out.1, rest_length]
        obtain ⟨A5, c5, hc5⟩ := cell_of_qr hQ4
        have hql := hQ4.lt
        have hAl : ∀ w5, w5.cell? ⟨w3.heap.size, 0, none⟩ = some (.slice A5 R.length c5) ∧ Nw w4 w5 → Calls Try.prog 9 #[] w5 fun e w' => e = .returned (.bool true) ∧ w'.cell? ⟨w3.heap.size, 0, none⟩ = some (.slice A5 R.length c5) ∧ Nw w4 w' := by
          intro w5 ⟨hc, hn⟩
          refine (alive_any w5).mono ?_
          rintro e w' ⟨rfl, hN⟩
          exact ⟨rfl, cell_nw (hn.trans hN) hql hc5, hn.trans hN⟩
        have hLe : ∀ w5, w5.cell? ⟨w3.heap.size, 0, none⟩ = some (.slice A5 R.length c5) ∧ Nw w4 w5 → Calls Try.prog 18 #[.pointer (some ⟨g, 0, none⟩)] w5 fun e w' => e = .returned (.int .i64 (R.length : Int)) ∧ w'.cell? ⟨w3.heap.size, 0, none⟩ = some (.slice A5 R.length c5) ∧ Nw w4 w' := by
          intro w5 ⟨hc, hn⟩
          have h := RLeft_any w5 g b1 l p (hR4.nw hn)
          rw [hleft] at h
          refine h.mono ?_
          rintro e w' ⟨rfl, hN⟩
          exact ⟨rfl, cell_nw (hn.trans hN.nw) hql hc5, hn.trans hN.nw⟩
        have hEq : ∀ w5, w5.cell? ⟨w3.heap.size, 0, none⟩ = some (.slice A5 R.length c5) ∧ Nw w4 w5 → Calls Try.prog 12 #[.slice A2 L.length c2, .slice A4 L.length c4] w5 fun e w' => e = .returned (.bool true) ∧ w'.cell? ⟨w3.heap.size, 0, none⟩ = some (.slice A5 R.length c5) ∧ Nw w4 w' := by
          intro w5 ⟨hc, hn⟩
          refine (Equal_same w5 b2 b5 A2 A4 L.length c2 L.length c4 L rfl rfl (by have := HO2.out.cap; omega) ((HO2.out.nw hN4).nw hn).rd (hO4.nw hn).rd).mono ?_
          rintro e w' ⟨rfl, hN⟩
          exact ⟨rfl, cell_nw (hn.trans hN.nw) hql hc5, hn.trans hN.nw⟩
        have HAl := Lib.hid hAl
        have HLe := Lib.hid hLe
        have HEq := Lib.hid hEq
        have HC := Lib.hid hc5
        clear hR4 hleft hLe hEq hAl hO4 HQ HV HV2 HP HO2 hQ4 hc5
        go_wp2_with fail
        go_region_held3 (fun w' => w'.cell? ⟨w3.heap.size, 0, none⟩ = some (.slice A5 R.length c5) ∧ Nw w4 w')
          (first | exact ⟨HC.out, Nw.drew1 _⟩ | exact hS)
          (first
            | (go_at_call 9; refine (HAl.out _ (by assumption)).mono ?_; rintro e w5 ⟨rfl, hS⟩)
            | (go_at_call 12; refine (HEq.out _ (by assumption)).mono ?_; rintro e w6 ⟨rfl, hS⟩)
            | (go_at_call 18; refine (HLe.out _ (by assumption)).mono ?_; rintro e w7 ⟨rfl, hS⟩))
        all_goals
          go_wp2
          go_ret
          exact ⟨rfl, (hN2.trans hN4).trans hS.2⟩

open Go.ChangeShapes Go.WideShapes Go.ChangeAt Go.RowKit in
open Go.ChangeMaps (open_string shut_string) in
set_option linter.unusedVariables false in
set_option maxRecDepth 100000 in
theorem DictvalReads_lifted (os : Os) (started : os.Started) (H : Type) (enc : TypeId × Value → H) :
    ReturnsInHanded {} Try.checked os 4 .any (Rows.dictvalReadsSpec.pre6 enc Try.prog Try.f4 Rows.dictvalReadsRow.domain false) (Rows.dictvalReadsSpec.post enc Try.prog Try.f4 false true false false) := by
  refine returnsInHanded_of_change (C := Try.checked) (by kernel_rfl) started (by kernel_rfl) Try.func4
    (ChangeSpec.witness6 (enc := enc) (C := Try.checked) false ⟨#[], #[.slice none 0 0, .int .i64 0], []⟩ 8 (by kernel_rfl) (by kernel_rfl) (by kernel_rfl) (by kernel_rfl)) ?_
  intro W base args ds gs before hval0 hW hcnd _
  have hval : ∀ (j : Nat) t v, Try.f4.params[j]? = some t → args[j]? = some v → Value.okWide Try.prog W .any base t v := hval0
  have hW' := hW
  obtain ⟨p, q, hA0, hV, rfl, hfz, hnd⟩ := hW
  have hA : DataW.TrodAll enc Try.prog W 0 (fun _ => true) true Try.f4.params.toList args.toList ds p := hA0
  rw [Try.params4] at hA hval
  obtain ⟨v0, vs0, d0, ds0, p0, q0, hargs, rfl, rfl, h0, r0⟩ := trodAll_cons hA
  obtain ⟨v1, vs1, d1, ds1, p1, q1, rfl, rfl, rfl, h1, r1⟩ := trodAll_cons r0
  obtain ⟨rfl, rfl, rfl⟩ := trodAll_nil r1
  obtain rfl : args = #[v0, v1] := by cases args; simp_all
  obtain ⟨rfl, rfl⟩ := trodVars_none hV
  obtain ⟨a0, len0, cap0, rfl⟩ := okWide_slice Try.underlying29 (hval 0 29 v0 rfl rfl)
  have k0 := h0
  have lt0 : ∀ x ∈ p0, x.block < W.heap.size := by obtain ⟨m, hm⟩ := k0; exact DataW.trod_lt m _ _ _ hm
  obtain ⟨z0, w0⟩ : ∃ zs, IsRow .u8 W a0 len0 cap0 zs := by
    obtain ⟨fuel, hf⟩ := h0
    rcases open_ints Try.underlying29 Try.underlying5 (by kernel_rfl) hf with ⟨hcs, _⟩ | ⟨x, l, c, zs, hcs, _, hl, hm, hz, _, hcell, hwz⟩
    · simp [Value.cells] at hcs
      obtain ⟨rfl, rfl, rfl⟩ := hcs
      exact ⟨[], .inl ⟨rfl, rfl, rfl, rfl⟩⟩
    · simp [Value.cells] at hcs
      obtain ⟨rfl, rfl, rfl⟩ := hcs
      exact ⟨zs, .inr ⟨_, rfl, hl, hm, by simpa using hz, hcell, hwz⟩⟩
  obtain ⟨a1, rfl, rfl, rfl, w1⟩ := open_int Try.underlying3 (hval 1 3 v1 rfl rfl) h1
  clear hA0 hval0
  refine (DictvalReads_walk a0 len0 cap0 z0 a1 W w0 w1).mono fun e W' ⟨he, bel⟩ => ?_
  subst he
  exact ⟨_, rfl, _, _, _, [], _, [], hW', trodAll_mk1 (shut_bool Try.underlying4 _), (trodAll_cons_mk (Below.trod (by kernel_rfl) (by kernel_rfl) (of_decide_eq_true (by kernel_rfl)) k0 bel lt0) (trodAll_cons_mk (shut_int Try.underlying3 w1) trodAll_mk0)), rfl, bel.frame _, fun h => by cases h⟩

/-- the statement -/
theorem DictvalReads_holds : Rows.DictvalReadsSaid :=
  OpenClaim.holds_of_wide 4 Try.f4 rfl rfl rfl rfl rfl rfl rfl ⟨rfl, rfl, rfl, rfl, rfl⟩ rfl rfl rfl rfl rfl (by kernel_rfl) Try.func4 (by kernel_rfl)
    (of_decide_eq_true (by kernel_rfl)) (by unfold Func.isWrapper; first | (rw [if_pos (by decide +kernel)]; kernel_rfl) | (rw [if_neg (by decide +kernel)]; exact ⟨rfl, rfl⟩))
    (fun os started H enc _ => DictvalReads_lifted os started H enc)
#print axioms DictvalReads_holds
end Go.Proofs.Ytbdpimnbjonhlaa
