/- DictvalWrites: Put writes the bits of the reference, or returns ErrLimit, and Size returns their number. No condition. -/
import Derived.Test.YtbdpimnbjonhlaaLawIn
import Derived.Test.YtbdpimnbjonhlaaDvAll
namespace Go.Proofs.Ytbdpimnbjonhlaa
open Go Go.RowKit

set_option maxRecDepth 100000 in
set_option maxHeartbeats 3200000 in
theorem DictvalWrites_walk (a0 : Int) (a1 : Option Addr) (len1 cap1 : Nat) (z1 : List Int) (w : World) (w0 : (Lit.int .u8 a0).wf = true) (w1 : IsRow .u64 w a1 len1 cap1 z1) :
    Calls Try.prog 6 #[.int .u8 a0, .slice a1 len1 cap1] w fun e w' => e = .returned (.bool true) ∧ Below w.heap.size w w' := by
  obtain ⟨b, l, hI, hx⟩ := InRow.u64 w1
  obtain ⟨hc0, hc1⟩ := bounds_u8 w0
  clear w0 w1
  by_cases hbig : 400 < len1
  · go_enter Try.func6, Try.ntmps6
    go_wp2_with (go_at_call 9; refine (alive_any _).mono ?_; rintro e w1 ⟨rfl, hN⟩)
    go_ret
    exact ⟨rfl, hN⟩
  · obtain ⟨m, rfl⟩ : ∃ m : Nat, a0 = (m : Int) := ⟨a0.toNat, by omega⟩
    obtain ⟨k, hk, hk9⟩ : ∃ k : Nat, (m : Int) % 9 = (k : Int) ∧ k < 9 := ⟨m % 9, by omega, by omega⟩
    have HK := Lib.hid hk
    obtain ⟨i0, hi, hz0, hz1, hz2⟩ := E_bool.info
    have hlen := hI.len
    have hnil : ∀ g W, (binOp .eql 47 (.pointer (some ⟨g, 0, none⟩)) (.pointer none)).run Try.prog W = .ok (.bool false) W := fun _ _ => by kernel_rfl
    have hdl := dict_length l
    have hbl : cN .u64 l ≠ [] → b < w.heap.size := fun h => hI.lt (by simpa [cN] using h)
    have HI := Lib.hid (And.intro hI hx)
    have HL := Lib.hid hlen
    have HBL := Lib.hid hbl
    have hd400 : (dict l).length ≤ 400 := by omega
    clear hI hx hlen hk hbl hdl
    go_enter Try.func6, Try.ntmps6
    go_wp2_with fail
    refine (NewWriter_any w).mono ?_
    rintro e w1 ⟨g, rfl, hW, hg, hN1⟩
    have hnl := hnil g
    have HW := Lib.hid (WBits_any w1 g g [] 0 k hW (by omega) (by omega) (by simp; omega))
    have hgl := hW.lt
    clear hW hnil
    go_wp2_with fail
    rw [HK.out]
    refine HW.out.mono ?_
    rintro e w2 ⟨rfl, gb, hW2, hgb, hK2⟩
    rw [List.nil_append, bitsOf_zero] at hW2
    have hN2 : Nw w w2 := Kp.nw hN1 hK2 hg hg
    have hs1 := hN1.size
    have hs12 := hK2.size
    obtain ⟨b0, hr0, hb0g, hb0gb, hb0l⟩ := rd_pick (HI.out.1.rd.nw hN2) HBL.out g gb hg (by omega)
    by_cases hd : (dict l).length ≤ 128
    · have HP := Lib.hid (Put_all w2 g gb b0 a1 len1 cap1 (List.replicate k false) l HL.out (by omega) hr0 HI.out.2 hW2 hb0g hb0gb (by simp; omega) (fun h => by have := hb0l (by simpa [cN] using h); have := hN2.size; omega) hd)
      have HPL := Lib.hid (szOf_put l hd)
      have hgl2 := hW2.glt
      have hgbl2 := hW2.lt
      clear hW2 HW hr0
      go_wp2_with fail
      refine HP.out.mono ?_
      rintro e w3 ⟨rfl, gc, hW3, hgc, hK3⟩
      have hN3 : Nw w w3 := Kp.nw hN2 hK3 hg (by omega)
      have hs3 := hK3.size
      have hs03 := hN3.size
      have HW3 := Lib.hid hW3
      clear hW3 HP
      go_wp2_with (at_make; refine wpList_make_full _ rfl _ _ 37 rfl 0 4 i0 (.bool false) 1 Try.underlying37 hi hz0 hz1 _ _ _ _ k rfl rfl (by omega) (by omega) (by rw [hz2]; omega) (by unfold maxLen; omega) (Nat.zero_le _) ?_; intro w4 hrow hg4)
      have hN4 := (Nw.refl w3).grown' hg4 (fun j hj => by cases hj)
      have HO4 := Lib.hid (ow_made hrow)
      have hs34 := hN4.size
      obtain ⟨b1, hr1, hb1a, _, hb1l⟩ := rd_pick (((HI.out.1.rd.nw hN3).nw hN4)) HBL.out w3.heap.size w3.heap.size (by omega) (by omega)
      clear hrow hg4
      have HRP := Lib.hid (RPut_all w4 w3.heap.size b1 (some ⟨w3.heap.size, 0, none⟩) a1 k k len1 cap1 (List.replicate k false) l HO4.out HL.out (by omega) (by omega) HO4.out.lt2 hb1a hr1 HI.out.2 hd)
      refine HRP.out.mono ?_
      rintro e w5 ⟨b5, A5, c5, rfl, hO5, hb5, hK5⟩
      have hPlen : (putBits l).length ≤ 7 + 64 * 128 + 7 * 400 := by
        by_cases hl : l = []
        · subst hl; simp [putBits]
        · rw [putBits_length l hl]
          have h7 := wd_le _ hd
          have : wd (dict l).length * l.length ≤ 7 * 400 := Nat.mul_le_mul h7 (by have := HL.out; omega)
          omega
      have hN5 : Nw w w5 := Kp.nw (hN3.trans hN4) hK5 (by omega) (by omega)
      have hW5 := (HW3.out.nw hN4).kp hK5 (by have := HW3.out.glt; omega) (by have := HW3.out.glt; omega) (by have := HW3.out.lt; omega) (by have := HW3.out.lt; omega)
      have hBl : (List.replicate k false ++ putBits l).length = k + (putBits l).length := by simp
      have hSz : ∀ w9, Nw w5 w9 → Calls Try.prog 30 #[.slice a1 len1 cap1] w9 fun e w' => e = .returned (.int .i64 (((putBits l).length : Nat) : Int)) ∧ Nw w9 w' := by
        intro w9 hN9
        have h := Size_any w9 b a1 len1 cap1 l HL.out (by omega) ((HI.out.1.rd.nw hN5).nw hN9) HI.out.2
        rwa [HPL.out] at h
      have HSz := Lib.hid hSz
      clear hSz
      generalize (putBits l).length = P at *
      generalize List.replicate k false ++ putBits l = B at *
      generalize hKK : k + P = K at *
      have HKP := Lib.hid hKK
      have HK5 := Lib.hid hBl.symm
      have hL5 : ∀ w6, Nw w5 w6 → Calls Try.prog 26 #[.pointer (some ⟨g, 0, none⟩)] w6 fun e w' => e = .returned (.int .i64 (K : Int)) ∧ w6 = w' := by
        intro w6 hN6
        have h := WLen_any w6 g gc B (hW5.nw hN6)
        rwa [hBl] at h
      have HL5 := Lib.hid hL5
      have HB5 := Lib.hid (WBytes_any w5 g gc B hW5 (by omega))
      have HO5 := Lib.hid hO5
      have hKle : K ≤ 20000 := by omega
      clear hW5 hBl hL5 hO5 hKK HRP HPL hr1
      go_wp2_with fail
      refine (HL5.out _ (Nw.refl _)).mono ?_
      rintro e w6 ⟨rfl, hw6⟩
      subst hw6
      go_wp2_with fail
      refine HB5.out.mono ?_
      rintro e w6 ⟨b6, A6, c6, rfl, hO6, hb6, hN6⟩
      have HPk := Lib.hid (Pack_any w6 b5 A5 K c5 B HK5.out (by omega) (HO5.out.nw hN6).rd)
      have HO6 := Lib.hid hO6
      clear hO6
      go_wp2_with fail
      refine HPk.out.mono ?_
      rintro e w7 ⟨b7, A7, c7, rfl, hO7, hb7, hN7⟩
      have HE := Lib.hid (bytesEqual_same w7 b6 b7 A6 A7 (pk B).length c6 (pk B).length c7 (pk B) rfl rfl (HO6.out.nw hN7).rd hO7.rd (pk_lt _))
      clear hO7
      go_wp2_with fail
      refine HE.out.mono ?_
      rintro e w8 ⟨rfl, hw8⟩
      subst hw8
      go_wp2_with fail
      refine (alive_any _).mono ?_
      rintro e w9 ⟨rfl, hN9⟩
      go_wp2_with fail
      refine (HSz.out _ ((hN6.trans hN7).trans hN9)).mono ?_
      rintro e w10 ⟨rfl, hN10⟩
      have hKP : (K : Int) - (k : Int) = (P : Int) := by have := HKP.out; omega
      go_wp2
      go_ret
      exact ⟨rfl, ((((hN5.trans hN6).trans hN7).trans hN9).trans hN10)⟩
    · have HP := Lib.hid (Put_limit w2 g b0 a1 len1 cap1 l HL.out (by omega) hr0 HI.out.2 (by omega))
      have hsz := szOf_limit l (by omega)
      have HW2 := Lib.hid hW2
      have hgl2 := hW2.glt
      have hgbl2 := hW2.lt
      clear hW2 HW hr0
      go_wp2_with fail
      refine HP.out.mono ?_
      rintro e w3 ⟨rfl, hN23⟩
      have hN3 : Nw w w3 := hN2.trans hN23
      have hs3 := hN23.size
      have hs03 := hN3.size
      clear HP
      go_wp2_with (at_make; refine wpList_make_full _ rfl _ _ 37 rfl 0 4 i0 (.bool false) 1 Try.underlying37 hi hz0 hz1 _ _ _ _ k rfl rfl (by omega) (by omega) (by rw [hz2]; omega) (by unfold maxLen; omega) (Nat.zero_le _) ?_; intro w4 hrow hg4)
      have hN4 := (Nw.refl w3).grown' hg4 (fun j hj => by cases hj)
      have HO4 := Lib.hid (ow_made hrow)
      have hs34 := hN4.size
      obtain ⟨b1, hr1, hb1a, _, hb1l⟩ := rd_pick (((HI.out.1.rd.nw hN3).nw hN4)) HBL.out w3.heap.size w3.heap.size (by omega) (by omega)
      clear hrow hg4
      have HRP := Lib.hid (RPut_limit w4 b1 (some ⟨w3.heap.size, 0, none⟩) a1 k k len1 cap1 l HL.out (by omega) hr1 (by omega))
      refine HRP.out.mono ?_
      rintro e w5 ⟨rfl, hN45⟩
      have hN5 : Nw w w5 := (hN3.trans hN4).trans hN45
      have hW5 := ((HW2.out.nw hN23).nw hN4).nw hN45
      have hO5 := HO4.out.nw hN45
      have hBl : (List.replicate k false).length = k := by simp
      generalize List.replicate k false = B at *
      have hSz : ∀ w9, Nw w5 w9 → Calls Try.prog 30 #[.slice a1 len1 cap1] w9 fun e w' => e = .returned (.int .i64 (-1)) ∧ Nw w9 w' := by
        intro w9 hN9
        have h := Size_any w9 b a1 len1 cap1 l HL.out (by omega) ((HI.out.1.rd.nw hN5).nw hN9) HI.out.2
        rwa [hsz] at h
      have HSz := Lib.hid hSz
      have hL5 : ∀ w6, Nw w5 w6 → Calls Try.prog 26 #[.pointer (some ⟨g, 0, none⟩)] w6 fun e w' => e = .returned (.int .i64 (k : Int)) ∧ w6 = w' := by
        intro w6 hN6
        have h := WLen_any w6 g gb B (hW5.nw hN6)
        rwa [hBl] at h
      have HL5 := Lib.hid hL5
      have HB5 := Lib.hid (WBytes_any w5 g gb B hW5 (by omega))
      have HO5 := Lib.hid hO5
      have HK5 := Lib.hid hBl.symm
      clear hW5 hBl hL5 hO5 HRP hr1 hsz hSz
      go_wp2_with fail
      refine (HL5.out _ (Nw.refl _)).mono ?_
      rintro e w6 ⟨rfl, hw6⟩
      subst hw6
      go_wp2_with fail
      refine HB5.out.mono ?_
      rintro e w6 ⟨b6, A6, c6, rfl, hO6, hb6, hN6⟩
      have HPk := Lib.hid (Pack_any w6 w3.heap.size (some ⟨w3.heap.size, 0, none⟩) k k B HK5.out (by omega) (HO5.out.nw hN6).rd)
      have HO6 := Lib.hid hO6
      clear hO6
      go_wp2_with fail
      refine HPk.out.mono ?_
      rintro e w7 ⟨b7, A7, c7, rfl, hO7, hb7, hN7⟩
      have HE := Lib.hid (bytesEqual_same w7 b6 b7 A6 A7 (pk B).length c6 (pk B).length c7 (pk B) rfl rfl (HO6.out.nw hN7).rd hO7.rd (pk_lt _))
      clear hO7
      go_wp2_with fail
      refine HE.out.mono ?_
      rintro e w8 ⟨rfl, hw8⟩
      subst hw8
      go_wp2_with fail
      refine (alive_any _).mono ?_
      rintro e w9 ⟨rfl, hN9⟩
      go_wp2_with fail
      refine (HSz.out _ ((hN6.trans hN7).trans hN9)).mono ?_
      rintro e w10 ⟨rfl, hN10⟩
      go_wp2
      go_ret
      exact ⟨rfl, ((((hN5.trans hN6).trans hN7).trans hN9).trans hN10)⟩

open Go.ChangeShapes Go.WideShapes Go.ChangeAt Go.RowKit in
open Go.ChangeMaps (open_string shut_string) in
set_option linter.unusedVariables false in
set_option maxRecDepth 100000 in
theorem DictvalWrites_lifted (os : Os) (started : os.Started) (H : Type) (enc : TypeId × Value → H) :
    ReturnsInHanded {} Try.checked os 6 .any (Rows.dictvalWritesSpec.pre6 enc Try.prog Try.f6 Rows.dictvalWritesRow.domain false) (Rows.dictvalWritesSpec.post enc Try.prog Try.f6 false true false false) := by
  refine returnsInHanded_of_change (C := Try.checked) (by kernel_rfl) started (by kernel_rfl) Try.func6
    (ChangeSpec.witness6 (enc := enc) (C := Try.checked) false ⟨#[], #[.int .u8 0, .slice none 0 0], []⟩ 8 (by kernel_rfl) (by kernel_rfl) (by kernel_rfl) (by kernel_rfl)) ?_
  intro W base args ds gs before hval0 hW hcnd _
  have hval : ∀ (j : Nat) t v, Try.f6.params[j]? = some t → args[j]? = some v → Value.okWide Try.prog W .any base t v := hval0
  have hW' := hW
  obtain ⟨p, q, hA0, hV, rfl, hfz, hnd⟩ := hW
  have hA : DataW.TrodAll enc Try.prog W 0 (fun _ => true) true Try.f6.params.toList args.toList ds p := hA0
  rw [Try.params6] at hA hval
  obtain ⟨v0, vs0, d0, ds0, p0, q0, hargs, rfl, rfl, h0, r0⟩ := trodAll_cons hA
  obtain ⟨v1, vs1, d1, ds1, p1, q1, rfl, rfl, rfl, h1, r1⟩ := trodAll_cons r0
  obtain ⟨rfl, rfl, rfl⟩ := trodAll_nil r1
  obtain rfl : args = #[v0, v1] := by cases args; simp_all
  obtain ⟨rfl, rfl⟩ := trodVars_none hV
  obtain ⟨a0, rfl, rfl, rfl, w0⟩ := open_int Try.underlying5 (hval 0 5 v0 rfl rfl) h0
  obtain ⟨a1, len1, cap1, rfl⟩ := okWide_slice Try.underlying22 (hval 1 22 v1 rfl rfl)
  have k1 := h1
  have lt1 : ∀ x ∈ p1, x.block < W.heap.size := by obtain ⟨m, hm⟩ := k1; exact DataW.trod_lt m _ _ _ hm
  obtain ⟨z1, w1⟩ : ∃ zs, IsRow .u64 W a1 len1 cap1 zs := by
    obtain ⟨fuel, hf⟩ := h1
    rcases open_ints Try.underlying22 Try.underlying25 (by kernel_rfl) hf with ⟨hcs, _⟩ | ⟨x, l, c, zs, hcs, _, hl, hm, hz, _, hcell, hwz⟩
    · simp [Value.cells] at hcs
      obtain ⟨rfl, rfl, rfl⟩ := hcs
      exact ⟨[], .inl ⟨rfl, rfl, rfl, rfl⟩⟩
    · simp [Value.cells] at hcs
      obtain ⟨rfl, rfl, rfl⟩ := hcs
      exact ⟨zs, .inr ⟨_, rfl, hl, hm, by simpa using hz, hcell, hwz⟩⟩
  clear hA0 hval0
  refine (DictvalWrites_walk a0 a1 len1 cap1 z1 W w0 w1).mono fun e W' ⟨he, bel⟩ => ?_
  subst he
  exact ⟨_, rfl, _, _, _, [], _, [], hW', trodAll_mk1 (shut_bool Try.underlying4 _), (trodAll_cons_mk (shut_int Try.underlying5 w0) (trodAll_cons_mk (Below.trod (by kernel_rfl) (by kernel_rfl) (of_decide_eq_true (by kernel_rfl)) k1 bel lt1) trodAll_mk0)), rfl, bel.frame _, fun h => by cases h⟩

/-- the statement -/
theorem DictvalWrites_holds : Rows.DictvalWritesSaid :=
  OpenClaim.holds_of_wide 6 Try.f6 rfl rfl rfl rfl rfl rfl rfl ⟨rfl, rfl, rfl, rfl, rfl⟩ rfl rfl rfl rfl rfl (by kernel_rfl) Try.func6 (by kernel_rfl)
    (of_decide_eq_true (by kernel_rfl)) (by unfold Func.isWrapper; first | (rw [if_pos (by decide +kernel)]; kernel_rfl) | (rw [if_neg (by decide +kernel)]; exact ⟨rfl, rfl⟩))
    (fun os started H enc _ => DictvalWrites_lifted os started H enc)
#print axioms DictvalWrites_holds
end Go.Proofs.Ytbdpimnbjonhlaa
