/- The reference of runval: Get. -/
import Derived.Test.YtjepaneniodbpaaGreatDoorRXGet
import Derived.Test.YtjepaneniodbpaaGreatDoorRunGet
namespace Go.Proofs.YtjepaneniodbpaaGreatDoor
open Go Go.RowKit Go.Sort

/-- the length of a slice -/
def lenOf : Value → Nat
  | .slice _ n _ => n
  | _ => 0
theorem unrun_snoc (rs : List (Nat × Nat)) (x q : Nat) : unrun (rs ++ [(x, q)]) = unrun rs ++ List.replicate q x := by simp [unrun]
theorem rep_snoc (l : List Nat) (x j : Nat) : l ++ List.replicate (j + 1) x = (l ++ List.replicate j x) ++ [x] := by rw [List.replicate_succ', List.append_assoc]

set_option maxRecDepth 100000 in
set_option maxHeartbeats 3200000 in
theorem RRGet_any (w : World) (g b : Nat) (R0 : List Bool) (n : Nat) (h : Qr w g b R0) (hbl : b < w.heap.size) (hn : n ≤ 10000) :
    Calls Tryz.prog 61 #[.pointer (some ⟨g, 0, none⟩), .int .i64 (n : Int)] w (QGotX w g b (rget n R0)) := by
  have hgl := h.lt
  obtain ⟨X, hX⟩ : ∃ X, X = rgetR n R0 := ⟨_, rfl⟩
  rw [rget_join, ← hX]
  have HX := Lib.hid hX
  have HQ0 := Lib.hid h
  clear h hX
  go_enter Tryz.func61, Tryz.ntmps61
  go_wp2
  go_loopw [6, 7] (fun vl vc wr => ∃ (m f v c L bk ck : Nat) (Ak : Option Addr) (rs : List (Nat × Nat)) (R : List Bool), vl = .slice Ak L ck ∧ vc = .int .i64 c ∧ m < f ∧ L + m ≤ n ∧ n ≤ L + m ∧ v < 18446744073709551616 ∧ c ≤ 128 ∧ w.heap.size ≤ bk ∧
    Hid (L = (unrun rs).length) ∧ Hid (Ow wr bk 25 1 Ak L ck (cN .u64 (unrun rs))) ∧ Hid (Qr wr g b R) ∧ Hid (Kp g g w wr) ∧ Hid (X = glue rs (rgetF f m v c R)) ∧ ((L = 0 ∧ c = 128) ∨ (0 < L ∧ Hid ((unrun rs)[L - 1]? = some v)))) (fun vl _ _ => n - lenOf vl)
  case atStart =>
    refine ⟨n, n + 1, 0, 128, 0, w.heap.size, 0, none, [], R0, rfl, rfl, by omega, by omega, by omega, by omega, by omega, Nat.le_refl _, Lib.hid rfl, Lib.hid (Ow.nil _ _ _ _), HQ0, Lib.hid (Kp.refl _ _ _), Lib.hid ?_, .inl ⟨rfl, rfl⟩⟩
    rw [HX.out]
    unfold rgetR
    cases rgetF (n + 1) n 0 128 R0 with
    | error e => rfl
    | ok y => rfl
  case round =>
    rename World => wo
    obtain ⟨m, f, v, c, L, bk, ck, Ak, rs, R, rfl, rfl, hmf, hn1, hn2, hv, hc, hbk, HLN, HO, HQ, HK, HXX, hE⟩ := hrel
    have hsr := HK.out.size
    obtain ⟨f, rfl⟩ : ∃ f', f = f' + 1 := ⟨f - 1, by omega⟩
    have hX := HXX.out
    rw [rgetF_glue] at hX
    by_cases hm0 : m = 0
    · rw [if_pos hm0] at hX
      have HX2 := Lib.hid hX
      have hLn : ¬ (L : Int) < (n : Int) := by omega
      clear hX HX HXX
      go_wp2
      go_ret2
      rw [HX2.out]
      have hl := HLN.out
      exact ⟨⟨⟨bk, Ak, ck, by rw [hl]; rfl, by rw [← hl]; exact HO.out, hbk⟩, HQ.out⟩, HK.out⟩
    · rw [if_neg hm0] at hX
      have hLn : (L : Int) < (n : Int) := by omega
      by_cases h71 : R.length < 71
      · rw [if_pos h71] at hX
        have HX3 := Lib.hid (show joinX X = .error 3 from by rw [hX]; rfl)
        clear hX HX HXX
        by_cases h64 : R.length < 64
        · go_wp2_with (go_at_call 58; refine (QBits_eof _ g b R 64 HQ.out (by omega) h64).mono ?_; rintro e wz ⟨rfl, hwz⟩; subst hwz)
          go_ret2
          rw [HX3.out]
          exact ⟨⟨rfl, by omega⟩, HK.out⟩
        · have hl7 : (R.drop 64).length < 7 := by rw [List.length_drop]; omega
          obtain ⟨u, hu⟩ : ∃ u, bv (R.take 64) = u := ⟨_, rfl⟩
          have HU := Lib.hid hu
          clear hu
          go_wp2_with (first
            | (go_at_call 58; refine (QBits_eof _ g b (R.drop 64) 7 HR2.out (by omega) hl7).mono ?_; rintro e wz ⟨rfl, hwz⟩; subst hwz)
            | (go_at_call 58; refine (QBits_ok _ g b R 64 HQ.out (by omega) (by omega)).mono ?_; rintro e w2 ⟨rfl, hR, hK⟩; rw [HU.out]; have HR2 := Lib.hid hR; have HK2 := Lib.hid hK; clear hR hK))
          go_ret2
          rw [HX3.out]
          exact ⟨⟨rfl, by omega⟩, HK.out.trans HK2.out (.inl rfl) (.inl rfl)⟩
      · rw [if_neg h71] at hX
        have hl7 : 7 ≤ (R.drop 64).length := by rw [List.length_drop]; omega
        have hl64 : 64 ≤ R.length := by omega
        obtain ⟨_, hx⟩ := bits_take (r := R) (n := 64) (by omega)
        rw [pow64] at hx
        obtain ⟨_, hy⟩ := bits_take (r := R.drop 64) (n := 7) hl7
        obtain ⟨x, hxx⟩ : ∃ x, bv (R.take 64) = x := ⟨_, rfl⟩
        obtain ⟨y, hyy⟩ : ∃ y, bv ((R.drop 64).take 7) = y := ⟨_, rfl⟩
        rw [hxx] at hx
        rw [hyy] at hy
        rw [hxx, hyy] at hX
        simp only [Nat.reducePow] at hy
        have HXV := Lib.hid hxx
        have HYV := Lib.hid hyy
        have HD := Lib.hid (show R.drop 71 = (R.drop 64).drop 7 from by rw [List.drop_drop])
        have iy : IntKind.i64.wrap (y : Int) = (y : Int) := IntWalk.i64_in _ (by omega)
        clear hxx hyy h71
        by_cases hA : m < y + 1
        · rw [if_pos (.inl hA)] at hX
          have HX3 := Lib.hid (show joinX X = .error 8 from by rw [hX]; rfl)
          have hAI : (n : Int) < (L : Int) + (y : Int) + 1 := by omega
          have hAd : decide ((n : Int) < (L : Int) + (y : Int) + 1) = true := by rw [decide_eq_true_iff]; exact hAI
          clear hX HX HXX
          go_wp2_with (first
            | (go_at_call 58; refine (QBits_ok _ g b (R.drop 64) 7 HR2.out (by omega) hl7).mono ?_; rintro e w3 ⟨rfl, hR, hK⟩; rw [HYV.out]; have HR3 := Lib.hid hR; have HK3 := Lib.hid (HK2.out.trans hK (.inl rfl) (.inl rfl)); clear hR hK)
            | (go_at_call 58; refine (QBits_ok _ g b R 64 HQ.out (by omega) hl64).mono ?_; rintro e w2 ⟨rfl, hR, hK⟩; rw [HXV.out]; have HR2 := Lib.hid hR; have HK2 := Lib.hid hK; clear hR hK))
          go_ret2
          rw [HX3.out]
          exact ⟨⟨rfl, by omega⟩, HK.out.trans HK3.out (.inl rfl) (.inl rfl)⟩
        · have hAI : ¬ (n : Int) < (L : Int) + (y : Int) + 1 := by omega
          have hAd : decide ((n : Int) < (L : Int) + (y : Int) + 1) = false := by rw [decide_eq_false_iff_not]; exact hAI
          -- what the last value's cell holds
          have HCL : Hid (0 < L → ∃ o, Ak = some ⟨bk, o, none⟩ ∧ ∀ W, Kp g g wo W → W.cell? ⟨bk, o + (L - 1), none⟩ = some (.int .u64 (v : Int))) := by
            refine Lib.hid fun hL => ?_
            obtain ⟨hAk, hbw, hcl0, _⟩ := HO.out.at_ (j := L - 1) (by omega)
            rcases hE with ⟨h, _⟩ | ⟨_, hl⟩
            · omega
            · rw [List.getElem?_map, hl.out, Option.map_some] at hcl0
              refine ⟨0, hAk, fun W h => ?_⟩
              rw [Nat.zero_add]
              exact (World.cell?_of_block (a := ⟨bk, L - 1, none⟩) (h.block bk hbw (by omega) (by omega))).trans hcl0
          by_cases hB : 0 < L ∧ x = v ∧ c < 128
          · rw [if_pos (.inr hB.2)] at hX
            have HX3 := Lib.hid (show joinX X = .error 8 from by rw [hX]; rfl)
            obtain ⟨hL0, hxv, hc2⟩ := hB
            obtain ⟨o, rfl, HCW⟩ := HCL.out hL0
            have HCW := Lib.hid HCW
            have hL0I : (0 : Int) < (L : Int) := by omega
            have i0 : (0 : Int) ≤ (L : Int) - 1 := by omega
            have i1 : (L : Int) - 1 < (L : Int) := by omega
            have i2 : ((L : Int) - 1).toNat = L - 1 := by omega
            have hvx : ((v : Int) == (x : Int)) = true := by rw [beq_iff_eq]; omega
            have hcI : (c : Int) < 128 := by omega
            clear hX HX HXX hxv hE
            go_wp2_with (first
              | (go_at_call 58; refine (QBits_ok _ g b (R.drop 64) 7 HR2.out (by omega) hl7).mono ?_; rintro e w3 ⟨rfl, hR, hK⟩; rw [HYV.out]; have HR3 := Lib.hid hR; have HK3 := Lib.hid (HK2.out.trans hK (.inl rfl) (.inl rfl)); have hcl := HCW.out _ HK3.out; clear hR hK)
              | (go_at_call 58; refine (QBits_ok _ g b R 64 HQ.out (by omega) hl64).mono ?_; rintro e w2 ⟨rfl, hR, hK⟩; rw [HXV.out]; have HR2 := Lib.hid hR; have HK2 := Lib.hid hK; clear hR hK))
            go_ret2
            rw [HX3.out]
            exact ⟨⟨rfl, by omega⟩, HK.out.trans HK3.out (.inl rfl) (.inl rfl)⟩
          · have hB' : ¬ (x = v ∧ c < 128) := by
              rintro ⟨h1, h2⟩
              rcases hE with ⟨_, h⟩ | ⟨h, _⟩
              · omega
              · exact hB ⟨h, h1, h2⟩
            rw [if_neg (by rintro (h | h); exact hA h; exact hB' h)] at hX
            obtain ⟨q, hq⟩ : ∃ q, q = y + 1 := ⟨_, rfl⟩
            rw [← hq] at hX
            have hq1 : 1 ≤ q ∧ q ≤ 128 ∧ q ≤ m := by omega
            have hqI1 : (q : Int) ≤ (y : Int) + 1 := by omega
            have hqI2 : (y : Int) + 1 ≤ (q : Int) := by omega
            rw [HD.out] at hX
            have HX3 := Lib.hid hX
            have hcase : (L = 0 ∧ decide ((0 : Int) < (L : Int)) = false) ∨ (0 < L ∧ ((v : Int) == (x : Int)) = false) ∨ (0 < L ∧ ((v : Int) == (x : Int)) = true ∧ decide ((c : Int) < 128) = false) := by
              rcases Nat.eq_zero_or_pos L with h | h
              · exact .inl ⟨h, by rw [decide_eq_false_iff_not]; omega⟩
              · by_cases hx : x = v
                · exact .inr (.inr ⟨h, by rw [beq_iff_eq]; omega, by rw [decide_eq_false_iff_not]; intro hc; exact hB' ⟨hx, by omega⟩⟩)
                · exact .inr (.inl ⟨h, by rw [beq_eq_false_iff_ne]; omega⟩)
            clear hX HX HXX hB hB' hE hq hAd
            rcases hcase with ⟨hL0, f1⟩ | ⟨hL0, f1⟩ | ⟨hL0, f1, f2⟩
            rotate_left
            · obtain ⟨o, rfl, HCW⟩ := HCL.out hL0
              have HCW := Lib.hid HCW
              have hL0I : (0 : Int) < (L : Int) := by omega
              have i0 : (0 : Int) ≤ (L : Int) - 1 := by omega
              have i1 : (L : Int) - 1 < (L : Int) := by omega
              have i2 : ((L : Int) - 1).toNat = L - 1 := by omega
              go_wp2_with (first
                | (go_at_call 58; refine (QBits_ok _ g b (R.drop 64) 7 HR2.out (by omega) hl7).mono ?_; rintro e w3 ⟨rfl, hR, hK⟩; rw [HYV.out]; have HR3 := Lib.hid hR; have HK3 := Lib.hid (HK2.out.trans hK (.inl rfl) (.inl rfl)); try have hcl := HCW.out _ HK3.out
                   clear hR hK)
                | (go_at_call 58; refine (QBits_ok _ g b R 64 HQ.out (by omega) hl64).mono ?_; rintro e w2 ⟨rfl, hR, hK⟩; rw [HXV.out]; have HR2 := Lib.hid hR; have HK2 := Lib.hid hK; clear hR hK))
              have hs3 := HK3.out.size
              have HOO := Lib.hid (HO.out.kp HK3.out (by omega) (by omega))
              have HKK := Lib.hid (HK.out.trans HK3.out (.inl rfl) (.inl rfl))
              go_loopw [6, 11] (fun vl vi wr => ∃ j : Nat, j ≤ q ∧ vi = .int .i64 j ∧ ∃ (bj cj : Nat) (Aj : Option Addr), vl = .slice Aj (L + j) cj ∧ Hid (Ow wr bj 25 1 Aj (L + j) cj (cN .u64 (unrun rs ++ List.replicate j x))) ∧ w.heap.size ≤ bj ∧ Hid (Qr wr g b ((R.drop 64).drop 7)) ∧ Hid (Kp g g w wr)) (fun _ vi _ => q - (intOf vi).toNat)
              case atStart => exact ⟨0, by omega, rfl, bk, ck, _, rfl, Lib.hid (by simpa using HOO.out), hbk, HR3, HKK⟩
              case round =>
                obtain ⟨j, hj, rfl, bj, cj, Aj, rfl, HOj, hbj, HRj, HKj⟩ := hrel
                have hsj := HKj.out.size
                by_cases hjq : j < q
                · have hjI : (j : Int) < (y : Int) + 1 := by omega
                  go_wp2_with (at_builtin; refine wpList_app1 E_u64 rfl (.tmp 67) (.tmp 69) rfl rfl HOj.out rfl rfl (by omega) (by omega) ?_; intro b3 A3 c3 wa q1 q2 q3 q4; have Q1 := Lib.hid q1; have Q3 := Lib.hid q3; clear q1 q3 q4)
                  go_roundw
                  case rel =>
                    refine ⟨j + 1, by omega, by go_num, b3, c3, A3, rfl, Lib.hid ?_, by omega, Lib.hid (HRj.out.kp Q3.out (by omega) (by omega) (by omega) (by omega)), Lib.hid (HKj.out.trans Q3.out (by omega) (by omega))⟩
                    have hq := Q1.out
                    rw [rep_snoc]
                    unfold cN
                    rw [List.map_append]
                    exact hq
                  case measure => simp [intOf]; omega
                · have hjI : ¬ (j : Int) < (y : Int) + 1 := by omega
                  go_wp2
                  go_roundw
                  case rel =>
                    obtain rfl : j = q := by omega
                    refine ⟨m - j, f, x, j, L + j, bj, cj, Aj, rs ++ [(x, j)], (R.drop 64).drop 7, rfl, by refine congrArg (Value.int .i64) ?_; omega, by omega, by omega, by omega, hx, hq1.2.1, hbj, Lib.hid ?_, Lib.hid ?_, HRj, HKj, HX3, .inr ⟨by omega, Lib.hid ?_⟩⟩
                    · rw [unrun_snoc, List.length_append, List.length_replicate, HLN.out]
                    · rw [unrun_snoc]; exact HOj.out
                    · have hl := HLN.out
                      rw [unrun_snoc, List.getElem?_append_right (by omega), List.getElem?_replicate, if_pos (by omega)]
                  case measure => simp [lenOf]; omega
            · obtain ⟨o, rfl, HCW⟩ := HCL.out hL0
              have HCW := Lib.hid HCW
              have hL0I : (0 : Int) < (L : Int) := by omega
              have i0 : (0 : Int) ≤ (L : Int) - 1 := by omega
              have i1 : (L : Int) - 1 < (L : Int) := by omega
              have i2 : ((L : Int) - 1).toNat = L - 1 := by omega
              go_wp2_with (first
                | (go_at_call 58; refine (QBits_ok _ g b (R.drop 64) 7 HR2.out (by omega) hl7).mono ?_; rintro e w3 ⟨rfl, hR, hK⟩; rw [HYV.out]; have HR3 := Lib.hid hR; have HK3 := Lib.hid (HK2.out.trans hK (.inl rfl) (.inl rfl)); try have hcl := HCW.out _ HK3.out
                   clear hR hK)
                | (go_at_call 58; refine (QBits_ok _ g b R 64 HQ.out (by omega) hl64).mono ?_; rintro e w2 ⟨rfl, hR, hK⟩; rw [HXV.out]; have HR2 := Lib.hid hR; have HK2 := Lib.hid hK; clear hR hK))
              have hs3 := HK3.out.size
              have HOO := Lib.hid (HO.out.kp HK3.out (by omega) (by omega))
              have HKK := Lib.hid (HK.out.trans HK3.out (.inl rfl) (.inl rfl))
              go_loopw [6, 11] (fun vl vi wr => ∃ j : Nat, j ≤ q ∧ vi = .int .i64 j ∧ ∃ (bj cj : Nat) (Aj : Option Addr), vl = .slice Aj (L + j) cj ∧ Hid (Ow wr bj 25 1 Aj (L + j) cj (cN .u64 (unrun rs ++ List.replicate j x))) ∧ w.heap.size ≤ bj ∧ Hid (Qr wr g b ((R.drop 64).drop 7)) ∧ Hid (Kp g g w wr)) (fun _ vi _ => q - (intOf vi).toNat)
              case atStart => exact ⟨0, by omega, rfl, bk, ck, _, rfl, Lib.hid (by simpa using HOO.out), hbk, HR3, HKK⟩
              case round =>
                obtain ⟨j, hj, rfl, bj, cj, Aj, rfl, HOj, hbj, HRj, HKj⟩ := hrel
                have hsj := HKj.out.size
                by_cases hjq : j < q
                · have hjI : (j : Int) < (y : Int) + 1 := by omega
                  go_wp2_with (at_builtin; refine wpList_app1 E_u64 rfl (.tmp 67) (.tmp 69) rfl rfl HOj.out rfl rfl (by omega) (by omega) ?_; intro b3 A3 c3 wa q1 q2 q3 q4; have Q1 := Lib.hid q1; have Q3 := Lib.hid q3; clear q1 q3 q4)
                  go_roundw
                  case rel =>
                    refine ⟨j + 1, by omega, by go_num, b3, c3, A3, rfl, Lib.hid ?_, by omega, Lib.hid (HRj.out.kp Q3.out (by omega) (by omega) (by omega) (by omega)), Lib.hid (HKj.out.trans Q3.out (by omega) (by omega))⟩
                    have hq := Q1.out
                    rw [rep_snoc]
                    unfold cN
                    rw [List.map_append]
                    exact hq
                  case measure => simp [intOf]; omega
                · have hjI : ¬ (j : Int) < (y : Int) + 1 := by omega
                  go_wp2
                  go_roundw
                  case rel =>
                    obtain rfl : j = q := by omega
                    refine ⟨m - j, f, x, j, L + j, bj, cj, Aj, rs ++ [(x, j)], (R.drop 64).drop 7, rfl, by refine congrArg (Value.int .i64) ?_; omega, by omega, by omega, by omega, hx, hq1.2.1, hbj, Lib.hid ?_, Lib.hid ?_, HRj, HKj, HX3, .inr ⟨by omega, Lib.hid ?_⟩⟩
                    · rw [unrun_snoc, List.length_append, List.length_replicate, HLN.out]
                    · rw [unrun_snoc]; exact HOj.out
                    · have hl := HLN.out
                      rw [unrun_snoc, List.getElem?_append_right (by omega), List.getElem?_replicate, if_pos (by omega)]
                  case measure => simp [lenOf]; omega
            · have hLI : (L : Int) ≤ 0 := by omega
              clear hL0
              go_wp2_with (first
                | (go_at_call 58; refine (QBits_ok _ g b (R.drop 64) 7 HR2.out (by omega) hl7).mono ?_; rintro e w3 ⟨rfl, hR, hK⟩; rw [HYV.out]; have HR3 := Lib.hid hR; have HK3 := Lib.hid (HK2.out.trans hK (.inl rfl) (.inl rfl)); try have hcl := HCW.out _ HK3.out
                   clear hR hK)
                | (go_at_call 58; refine (QBits_ok _ g b R 64 HQ.out (by omega) hl64).mono ?_; rintro e w2 ⟨rfl, hR, hK⟩; rw [HXV.out]; have HR2 := Lib.hid hR; have HK2 := Lib.hid hK; clear hR hK))
              have hs3 := HK3.out.size
              have HOO := Lib.hid (HO.out.kp HK3.out (by omega) (by omega))
              have HKK := Lib.hid (HK.out.trans HK3.out (.inl rfl) (.inl rfl))
              go_loopw [6, 11] (fun vl vi wr => ∃ j : Nat, j ≤ q ∧ vi = .int .i64 j ∧ ∃ (bj cj : Nat) (Aj : Option Addr), vl = .slice Aj (L + j) cj ∧ Hid (Ow wr bj 25 1 Aj (L + j) cj (cN .u64 (unrun rs ++ List.replicate j x))) ∧ w.heap.size ≤ bj ∧ Hid (Qr wr g b ((R.drop 64).drop 7)) ∧ Hid (Kp g g w wr)) (fun _ vi _ => q - (intOf vi).toNat)
              case atStart => exact ⟨0, by omega, rfl, bk, ck, _, rfl, Lib.hid (by simpa using HOO.out), hbk, HR3, HKK⟩
              case round =>
                obtain ⟨j, hj, rfl, bj, cj, Aj, rfl, HOj, hbj, HRj, HKj⟩ := hrel
                have hsj := HKj.out.size
                by_cases hjq : j < q
                · have hjI : (j : Int) < (y : Int) + 1 := by omega
                  go_wp2_with (at_builtin; refine wpList_app1 E_u64 rfl (.tmp 67) (.tmp 69) rfl rfl HOj.out rfl rfl (by omega) (by omega) ?_; intro b3 A3 c3 wa q1 q2 q3 q4; have Q1 := Lib.hid q1; have Q3 := Lib.hid q3; clear q1 q3 q4)
                  go_roundw
                  case rel =>
                    refine ⟨j + 1, by omega, by go_num, b3, c3, A3, rfl, Lib.hid ?_, by omega, Lib.hid (HRj.out.kp Q3.out (by omega) (by omega) (by omega) (by omega)), Lib.hid (HKj.out.trans Q3.out (by omega) (by omega))⟩
                    have hq := Q1.out
                    rw [rep_snoc]
                    unfold cN
                    rw [List.map_append]
                    exact hq
                  case measure => simp [intOf]; omega
                · have hjI : ¬ (j : Int) < (y : Int) + 1 := by omega
                  go_wp2
                  go_roundw
                  case rel =>
                    obtain rfl : j = q := by omega
                    refine ⟨m - j, f, x, j, L + j, bj, cj, Aj, rs ++ [(x, j)], (R.drop 64).drop 7, rfl, by refine congrArg (Value.int .i64) ?_; omega, by omega, by omega, by omega, hx, hq1.2.1, hbj, Lib.hid ?_, Lib.hid ?_, HRj, HKj, HX3, .inr ⟨by omega, Lib.hid ?_⟩⟩
                    · rw [unrun_snoc, List.length_append, List.length_replicate, HLN.out]
                    · rw [unrun_snoc]; exact HOj.out
                    · have hl := HLN.out
                      rw [unrun_snoc, List.getElem?_append_right (by omega), List.getElem?_replicate, if_pos (by omega)]
                  case measure => simp [lenOf]; omega
end Go.Proofs.YtjepaneniodbpaaGreatDoor
