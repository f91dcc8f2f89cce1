/- The reference of times: Signed and Get. -/
import Derived.Test.YtjepaneniodbpaaGreatDoorRef5
import Derived.Test.YtjepaneniodbpaaGreatDoorTimGet
namespace Go.Proofs.YtjepaneniodbpaaGreatDoor
open Go Go.RowKit Go.Sort

theorem Signed_any (w : World) (x k : Nat) (hk : 1 ≤ k ∧ k ≤ 4) (hx : x < 2 ^ twid k) :
    Calls Tryz.prog 59 #[.int .u64 (x : Int), .int .i64 (twid k : Int)] w fun e w' => e = .returned (.int .i64 (sext x (twid k))) ∧ w = w' := by
  have hn : twid k = 7 ∨ twid k = 12 ∨ twid k = 32 ∨ twid k = 64 := by
    have : k = 1 ∨ k = 2 ∨ k = 3 ∨ k = 4 := by omega
    rcases this with rfl | rfl | rfl | rfl <;> simp [twid]
  clear hk
  generalize twid k = n at *
  have HS := Lib.hid (show ∀ P : Nat, P = 2 ^ (n - 1) → (P ≤ 9223372036854775808) ∧ sext x n = if P ≤ x then wrap64 (IntKind.u64.wrap ((x : Int) - P - P)) else (x : Int) from by
    rcases hn with rfl | rfl | rfl | rfl <;> simp only [sext, wrap64, IntKind.wrap_u64] at hx ⊢ <;> (rintro P rfl; refine ⟨by omega, ?_⟩) <;> split <;> split <;> omega)
  have hn64 : 1 ≤ n ∧ n ≤ 64 := by omega
  have hx64 : x < 18446744073709551616 := by rcases hn with rfl | rfl | rfl | rfl <;> omega
  generalize sext x n = S at *
  clear hx hn
  go_enter Tryz.func59, Tryz.ntmps59
  go_wp2
  go_loop [5, 6] (fun u i => ∃ j : Nat, 1 ≤ j ∧ j ≤ n ∧ i = .int .i64 j ∧ ∃ P : Nat, P ≤ 9223372036854775808 ∧ Hid (P = 2 ^ (j - 1)) ∧ u = .int .u64 (P : Int)) (fun _ i => n - (intOf i).toNat)
  case atStart => exact ⟨1, by omega, by omega, rfl, 1, by omega, Lib.hid rfl, rfl⟩
  case round =>
    obtain ⟨j, hj1, hj2, rfl, P, hP, HP, rfl⟩ := hrel
    by_cases hlt : j < n
    · have hP2 : P ≤ 4611686018427387904 := by
        have h := HP.out
        have : 2 ^ (j - 1) ≤ 2 ^ 62 := Nat.pow_le_pow_right (by omega) (by omega)
        have e : (2 : Nat) ^ 62 = 4611686018427387904 := by decide
        omega
      go_wp2
      go_round
      case rel => exact ⟨j + 1, by omega, by omega, by go_num, P * 2, by omega, Lib.hid (by rw [HP.out, ← Nat.pow_succ]; congr 1; omega), by go_num⟩
      case measure => simp [intOf]; omega
    · obtain rfl : j = n := by omega
      obtain ⟨_, hS⟩ := HS.out P HP.out
      by_cases hc : P ≤ x
      · rw [if_pos hc] at hS
        have hcI : (P : Int) ≤ (x : Int) := by omega
        have HSS := Lib.hid hS
        clear hS HS
        go_wp2
        go_ret
        rw [HSS.out]
        exact ⟨rfl, rfl⟩
      · rw [if_neg hc] at hS
        have hw : IntKind.i64.wrap (x : Int) = (x : Int) := IntWalk.i64_in _ (by omega)
        have hw2 : wrap64 (x : Int) = (x : Int) := IntWalk.wrap64_in _ (by omega)
        have HSS := Lib.hid hS
        clear hS HS
        go_wp2
        go_ret
        rw [HSS.out]
        exact ⟨rfl, rfl⟩

/-- what the reference's Get leaves: the times and the bits left, or the error -/
def QGotT (w : World) (g b : Nat) (X : Except Nat (List Int × List Bool)) (e : Ending) (w' : World) : Prop :=
  (match X with
   | .ok (l, r) => (∃ b' A c, e = .returned (.tuple #[.slice A l.length c, .int .i64 0]) ∧ Ow w' b' 2 1 A l.length c (cI .i64 l) ∧ w.heap.size ≤ b') ∧ Qr w' g b r
   | .error k => e = .returned (.tuple #[.slice none 0 0, .int .i64 (k : Int)]) ∧ k ≠ 0) ∧ Kp g g w w'

theorem wid_at {W : World} {g2 k : Nat} (T : W.heap[g2]? = some (.cells #[.int .i64 0, .int .i64 7, .int .i64 12, .int .i64 32, .int .i64 64] 102 (0, 0))) (hk : k ≤ 4) : W.cell? ⟨g2, k, none⟩ = some (.int .i64 (twid k : Int)) := by
  have : k = 0 ∨ k = 1 ∨ k = 2 ∨ k = 3 ∨ k = 4 := by omega
  rcases this with rfl | rfl | rfl | rfl | rfl <;> simp [World.cell?, T, twid]
theorem gchg_zero {R r : List Bool} (h : gform 4 0 R = some (0, r)) : gchg R = .ok (0, r) := by
  unfold gchg; rw [h]; rfl
theorem gchg_none {R : List Bool} (h : gform 4 0 R = none) : gchg R = .error 3 := by
  unfold gchg; rw [h]
theorem gchg_short {R r : List Bool} {k : Nat} (h : gform 4 0 R = some (k, r)) (hs : r.length < twid k) : gchg R = .error 3 := by
  unfold gchg; rw [h]; simp only []; rw [if_pos hs]
theorem gchg_bad {R r : List Bool} {k : Nat} (h : gform 4 0 R = some (k, r)) (hs : ¬ r.length < twid k) (hb : tform (sext (bv (r.take (twid k))) (twid k)) ≠ k) : gchg R = .error 8 := by
  unfold gchg; rw [h]; simp only []; rw [if_neg hs, if_neg hb]
theorem gchg_good {R r : List Bool} {k : Nat} (h : gform 4 0 R = some (k, r)) (hs : ¬ r.length < twid k) (hb : tform (sext (bv (r.take (twid k))) (twid k)) = k) : gchg R = .ok (sext (bv (r.take (twid k))) (twid k), r.drop (twid k)) := by
  unfold gchg; rw [h]; simp only []; rw [if_neg hs, if_pos hb]
theorem bv_one (x : Bool) (r : List Bool) : bv ((x :: r).take 1) = b2n x := by cases x <;> rfl

set_option maxRecDepth 100000 in
set_option maxHeartbeats 3200000 in
theorem RTGet_any (w : World) (g b : Nat) (R0 : List Bool) (n : Nat) (h : Qr w g b R0) (hbl : b < w.heap.size) (h1 : 1 ≤ n) (hn : n ≤ 10000) :
    Calls Tryz.prog 31 #[.pointer (some ⟨g, 0, none⟩), .int .i64 (n : Int)] w (QGotT w g b (tget n R0)) := by
  have hgl := h.lt
  obtain ⟨X, hX⟩ : ∃ X, X = tget n R0 := ⟨_, rfl⟩
  rw [← hX]
  have HX := Lib.hid hX
  have HQ0 := Lib.hid h
  clear h hX
  go_enter Tryz.func31, Tryz.ntmps31
  go_wp2_with fail
  have hT : (w.alloc (.cells #[.int .i64 0, .int .i64 7, .int .i64 12, .int .i64 32, .int .i64 64] 102)).heap[w.heap.size]? = some (.cells #[.int .i64 0, .int .i64 7, .int .i64 12, .int .i64 32, .int .i64 64] 102 (0, 0)) := heap_alloc_new _ _
  have hN : Nw w (w.alloc (.cells #[.int .i64 0, .int .i64 7, .int .i64 12, .int .i64 32, .int .i64 64] 102)) := (Nw.refl w).alloc' _
  generalize w.alloc (.cells #[.int .i64 0, .int .i64 7, .int .i64 12, .int .i64 32, .int .i64 64] 102) = w1 at *
  obtain ⟨g2, hg2⟩ : ∃ x, x = w.heap.size := ⟨_, rfl⟩
  rw [← hg2] at hT ⊢
  have hTl := lt_of_block hT
  have HT := Lib.hid hT
  have HN := Lib.hid hN
  have hgg : g ≠ g2 := by omega
  have hge : w.heap.size ≤ g2 := by omega
  have hbl1 : b < w1.heap.size := Nat.lt_of_lt_of_le hbl hN.size
  have hgl1 : g < w1.heap.size := Nat.lt_of_lt_of_le hgl hN.size
  have hs01 := hN.size
  clear hg2 hT hN
  go_loopw [7, 8, 9] (fun s vd i wr => ∃ k : Nat, k ≤ n ∧ i = .int .i64 k ∧ ∃ (ls : List Int) (t d : Int) (bk : Nat) (Ak : Option Addr) (ck : Nat) (R : List Bool), ls.length = k ∧ s = .slice Ak k ck ∧ vd = .int .i64 d ∧ Hid (Ow wr bk 2 1 Ak k ck (cI .i64 ls)) ∧ w1.heap.size ≤ bk ∧ Hid (Qr wr g b R) ∧ Hid (Kp g g w1 wr) ∧
    ((k = 0 ∧ ls = [] ∧ d = 0 ∧ Hid (R = R0)) ∨ (0 < k ∧ Hid (ls[k - 1]? = some t) ∧ Hid (X = glue ls (tgetF t d (n - k) R))))) (fun _ _ i _ => n - (intOf i).toNat)
  case atStart => exact ⟨0, by omega, rfl, [], 0, 0, w1.heap.size, none, 0, R0, rfl, rfl, rfl, Lib.hid (Ow.nil _ _ _ _), Nat.le_refl _, Lib.hid (HQ0.out.nw HN.out), Lib.hid (Kp.refl _ _ _), .inl ⟨rfl, rfl, rfl, Lib.hid rfl⟩⟩
  case round =>
    rename World => wo
    obtain ⟨k, hk, rfl, ls, t, d, bk, Ak, ck, R, hl, rfl, rfl, HO, hbk, HQ, HK, hE⟩ := hrel
    have HLS := Lib.hid hl
    clear hl
    have hsr := HK.out.size
    by_cases hlt : k < n
    · have hkI : (k : Int) < (n : Int) := by omega
      rcases hE with ⟨rfl, rfl, rfl, HR⟩ | ⟨hk0, HTt, HXX⟩
      · obtain ⟨m, hm⟩ : ∃ m, m = n - 1 := ⟨n - 1, rfl⟩
        have HXM := Lib.hid (show X = tget (m + 1) R0 from by rw [HX.out, hm]; congr 1; omega)
        have HM := Lib.hid (show n - 1 = m from hm.symm)
        clear hm HX
        have hrr := HR.out
        subst hrr
        by_cases hfit : R.length < 64
        · have HB := Lib.hid (QBits_eof wo g b R 64 HQ.out (by omega) hfit)
          have HX3 := Lib.hid (show X = .error 3 from by rw [HXM.out]; simp only [tget]; rw [if_pos hfit])
          go_wp2_with (go_at_call 58; refine HB.out.mono ?_; rintro e w2 ⟨rfl, hw2⟩; subst hw2)
          go_ret2
          rw [HX3.out]
          exact ⟨⟨rfl, by omega⟩, (HN.out.kp g g).trans HK.out (.inl rfl) (.inl rfl)⟩
        · have HB := Lib.hid (QBits_ok wo g b R 64 HQ.out (by omega) (by omega))
          obtain ⟨_, hu⟩ := bits_take (r := R) (n := 64) (by omega)
          rw [pow64] at hu
          have HX1 := Lib.hid (show X = glue [wrap64 (bv (R.take 64))] (tgetF (wrap64 (bv (R.take 64))) 0 m (R.drop 64)) from by
            rw [HXM.out]
            simp only [tget]
            rw [if_neg hfit]
            cases tgetF (wrap64 (bv (R.take 64))) 0 m (R.drop 64) with
            | error e => rfl
            | ok x => rfl)
          generalize bv (R.take 64) = u at *
          clear hfit HR HXM
          go_wp2_with (first
            | (go_at_call 58; refine HB.out.mono ?_; rintro e w2 ⟨rfl, hR2, hK2⟩; have HR2 := Lib.hid hR2; have HK2 := Lib.hid (HK.out.trans hK2 (.inl rfl) (.inl rfl)); have HOO := Lib.hid (HO.out.kp hK2 (by omega) (by omega)); have hs2 := hK2.size; clear hR2 hK2)
            | (at_builtin; refine wpList_app1 E_i64 rfl (.tmp 34) (.tmp 37) rfl rfl HOO.out rfl rfl (by omega) (by omega) ?_; intro b3 A3 c3 w3 q1 q2 q3 q4; have Q1 := Lib.hid q1; have Q3 := Lib.hid q3; clear q1 q3 q4))
          go_roundw
          case rel =>
            refine ⟨1, by omega, by go_num, [wrap64 u], wrap64 u, 0, b3, A3, c3, R.drop 64, rfl, rfl, rfl, Lib.hid ?_, by omega, Lib.hid (HR2.out.kp Q3.out (by omega) (by omega) (by omega) (by omega)), Lib.hid (HK2.out.trans Q3.out (by omega) (by omega)), .inr ⟨by omega, Lib.hid rfl, by rw [HM.out]; exact HX1⟩⟩
            simpa using Q1.out
          case measure => simp [intOf]; omega
      · have hk0' : ((k : Int) == 0) = false := by rw [beq_eq_false_iff_ne]; omega
        have i0 : (0 : Int) ≤ (k : Int) - 1 := by omega
        have i1 : (k : Int) - 1 < (k : Int) := by omega
        have i2 : ((k : Int) - 1).toNat = k - 1 := by omega
        have HXG := Lib.hid (show X = match gchg R with
            | .error e => .error e
            | .ok (x, r') => glue (ls ++ [wrap64 (t + wrap64 (d + x))]) (tgetF (wrap64 (t + wrap64 (d + x))) (wrap64 (d + x)) (n - (k + 1)) r') from by
          rw [HXX.out, show n - k = (n - (k + 1)) + 1 from by omega, tgetF_glue]
          rfl)
        obtain ⟨hAk, hbw, hcl0, _⟩ := HO.out.at_ (j := k - 1) (by omega)
        subst hAk
        rw [List.getElem?_map, HTt.out, Option.map_some] at hcl0
        have HCL := Lib.hid fun (W : World) (h : Kp g g wo W) => (World.cell?_of_block (a := ⟨bk, k - 1, none⟩) (h.block bk hbw (by omega) (by omega))).trans hcl0
        have HWid := Lib.hid fun (W : World) (h : Kp g g wo W) (j : Nat) (hj : j ≤ 4) => wid_at ((h.block g2 (by omega) (by omega) (by omega)).trans ((HK.out.block g2 hTl (by omega) (by omega)).trans HT.out)) hj
        clear HXX HX HQ0 hcl0
        go_wp2_with fail
        go_loopw [12] (fun vk wr => ∃ kk : Nat, kk ≤ 4 ∧ vk = .int .i64 kk ∧ ∃ r : List Bool, Hid (Qr wr g b r) ∧ Hid (Kp g g wo wr) ∧ Hid (gform 4 0 R = gform (4 - kk) kk r)) (fun v _ => 4 - (intOf v).toNat)
        case atStart => exact ⟨0, by omega, rfl, R, HQ, Lib.hid (Kp.refl _ _ _), Lib.hid rfl⟩
        case round =>
          obtain ⟨kk, hkk, rfl, r, HQi, HKi, HGi⟩ := hrel
          have hsi := HKi.out.size
          by_cases hlt2 : kk < 4
          · have hkkI : (kk : Int) < 4 := by omega
            cases r with
            | nil =>
              have HB := Lib.hid (QBits_eof wr g b [] 1 HQi.out (by omega) (by simp))
              have HX3 := Lib.hid (show X = .error 3 from by
                rw [HXG.out, gchg_none (by rw [HGi.out]; obtain ⟨f, hf⟩ : ∃ f, 4 - kk = f + 1 := ⟨4 - kk - 1, by omega⟩; rw [hf]; rfl)])
              go_wp2_with (go_at_call 58; refine HB.out.mono ?_; rintro e w2 ⟨rfl, hw2⟩; subst hw2)
              go_ret2
              rw [HX3.out]
              exact ⟨⟨rfl, by omega⟩, ((HN.out.kp g g).trans HK.out (.inl rfl) (.inl rfl)).trans HKi.out (.inl rfl) (.inl rfl)⟩
            | cons x r =>
              have hB := QBits_ok wr g b (x :: r) 1 HQi.out (by omega) (by simp)
              rw [bv_one] at hB
              cases x with
              | true =>
                have HB := Lib.hid hB
                have HG2 := Lib.hid (show gform 4 0 R = gform (4 - (kk + 1)) (kk + 1) r from by rw [HGi.out, show 4 - kk = (4 - (kk + 1)) + 1 from by omega]; rfl)
                clear hB
                go_wp2_with (go_at_call 58; refine HB.out.mono ?_; rintro e w2 ⟨rfl, hR2, hK2⟩; have HR2 := Lib.hid hR2; have HK2 := Lib.hid hK2; clear hR2 hK2; simp only [b2n, if_true])
                go_roundw
                case rel => exact ⟨kk + 1, by omega, by go_num, r, HR2, Lib.hid (HKi.out.trans HK2.out (.inl rfl) (.inl rfl)), HG2⟩
                case measure => simp [intOf]; omega
              | false =>
                have HB := Lib.hid hB
                have HG2 := Lib.hid (show gform 4 0 R = some (kk, r) from by rw [HGi.out, show 4 - kk = (4 - (kk + 1)) + 1 from by omega]; rfl)
                clear hB HGi HQi
                by_cases hkz : kk = 0
                · subst hkz
                  have hz := HXG.out
                  rw [gchg_zero HG2.out] at hz
                  have HXZ := Lib.hid (show X = glue (ls ++ [wrap64 (t + wrap64 (d + 0))]) (tgetF (wrap64 (t + wrap64 (d + 0))) (wrap64 (d + 0)) (n - (k + 1)) r) from hz)
                  have HF := Lib.hid fun W => form_any W 0
                  have h0 : tform 0 = 0 := rfl
                  rw [h0] at HF
                  rw [Int.add_zero] at HXZ
                  clear hz HXG h0 HWid
                  go_wp2_with (first
                    | (at_builtin; refine wpList_app1 E_i64 rfl (.tmp 78) (.tmp 86) rfl rfl HOO.out rfl rfl (by omega) (by omega) ?_; intro b3 A3 c3 w3 q1 q2 q3 q4; have Q1 := Lib.hid q1; have Q3 := Lib.hid q3; clear q1 q3 q4)
                    | (go_at_call 53; refine (HF.out _).mono ?_; rintro e w3 ⟨rfl, hw3⟩; subst hw3)
                    | (go_at_call 58; refine HB.out.mono ?_; rintro e w2 ⟨rfl, hR2, hK2⟩; have HR2 := Lib.hid hR2; have HK2 := Lib.hid (HKi.out.trans hK2 (.inl rfl) (.inl rfl)); have hs2 := HK2.out.size; clear hR2 hK2; simp only [b2n, if_false, Bool.false_eq_true]; have hclw := HCL.out _ HK2.out; have HOO := Lib.hid (HO.out.kp HK2.out (by omega) (by omega))))
                  go_roundw
                  case rel =>
                    refine ⟨k + 1, by omega, by go_num, ls ++ [wrap64 (t + wrap64 d)], wrap64 (t + wrap64 d), wrap64 d, b3, A3, c3, r, by rw [List.length_append, HLS.out]; rfl, rfl, rfl, Lib.hid ?_, by omega, Lib.hid (HR2.out.kp Q3.out (by omega) (by omega) (by omega) (by omega)), Lib.hid ((HK.out.trans HK2.out (.inl rfl) (.inl rfl)).trans Q3.out (by omega) (by omega)), .inr ⟨by omega, Lib.hid (by rw [Nat.add_sub_cancel]; simp [HLS.out]), HXZ⟩⟩
                    simpa using Q1.out
                  case measure => simp [intOf]; omega
                · have hkzI : (0 : Int) < (kk : Int) := by omega
                  have i5 : (kk : Int) < 5 := by omega
                  have hq64 : twid kk ≤ 64 := (tab_le hkk).2.2
                  have HWq := Lib.hid fun (W : World) (h : Kp g g wo W) => HWid.out W h kk hkk
                  have HSg := Lib.hid fun (W : World) (u : Nat) (hu : u < 2 ^ twid kk) => Signed_any W u kk (by omega) hu
                  by_cases hs : r.length < twid kk
                  · have hX3 := HXG.out
                    rw [gchg_short HG2.out hs] at hX3
                    have HX3 := Lib.hid (show X = .error 3 from hX3)
                    clear hX3 HXG HSg HG2
                    generalize twid kk = q at *
                    go_wp2_with (first
                    | (go_at_call 58; refine (QBits_eof _ g b r q HR2.out hq64 hs).mono ?_; rintro e w3 ⟨rfl, hw3⟩; subst hw3)
                    | (go_at_call 58; refine HB.out.mono ?_; rintro e w2 ⟨rfl, hR2, hK2⟩; have HR2 := Lib.hid hR2; have HK2 := Lib.hid (HKi.out.trans hK2 (.inl rfl) (.inl rfl)); have hs2 := HK2.out.size; clear hR2 hK2; simp only [b2n, if_false, Bool.false_eq_true]; have hwc := HWq.out _ HK2.out))
                    go_ret2
                    rw [HX3.out]
                    exact ⟨⟨rfl, by omega⟩, ((HN.out.kp g g).trans HK.out (.inl rfl) (.inl rfl)).trans HK2.out (.inl rfl) (.inl rfl)⟩
                  · obtain ⟨_, hu⟩ := bits_take (r := r) (n := twid kk) (by omega)
                    have HU := Lib.hid (rfl : bv (r.take (twid kk)) = bv (r.take (twid kk)))
                    by_cases hbad : tform (sext (bv (r.take (twid kk))) (twid kk)) = kk
                    · have hX3 := HXG.out
                      rw [gchg_good HG2.out hs hbad] at hX3
                      have HX3 := Lib.hid hX3
                      have HS2 := Lib.hid fun W => HSg.out W _ hu
                      have HF := Lib.hid fun W => form_any W (sext (bv (r.take (twid kk))) (twid kk))
                      rw [hbad] at HF
                      obtain ⟨x, hx⟩ : ∃ x, sext (bv (r.take (twid kk))) (twid kk) = x := ⟨_, rfl⟩
                      rw [hx] at HF HS2 HX3
                      obtain ⟨u, hu'⟩ : ∃ u, bv (r.take (twid kk)) = u := ⟨_, rfl⟩
                      rw [hu'] at HS2
                      have HU := Lib.hid hu'
                      clear hX3 HXG HSg HG2 hbad hx hu' hu
                      generalize twid kk = q at *
                      go_wp2_with (first
                      | (at_builtin; refine wpList_app1 E_i64 rfl (.tmp 78) (.tmp 86) rfl rfl HOO.out rfl rfl (by omega) (by omega) ?_; intro b3 A3 c3 w4 q1 q2 q3 q4; have Q1 := Lib.hid q1; have Q3 := Lib.hid q3; clear q1 q3 q4)
                      | (go_at_call 53; refine (HF.out _).mono ?_; rintro e w4 ⟨rfl, hw4⟩; subst hw4)
                      | (go_at_call 59; refine (HS2.out _).mono ?_; rintro e w4 ⟨rfl, hw4⟩; subst hw4)
                      | (go_at_call 58; refine (QBits_ok _ g b r q HR2.out hq64 (by omega)).mono ?_; rintro e w3 ⟨rfl, hR3, hK3⟩; rw [HU.out]; have HR3 := Lib.hid hR3; have HK3 := Lib.hid (HK2.out.trans hK3 (.inl rfl) (.inl rfl)); have hwc3 := HWq.out _ HK3.out; have hclw := HCL.out _ HK3.out; have HOO := Lib.hid (HO.out.kp HK3.out (by omega) (by omega)); have hs3 := hK3.size; clear hR3 hK3)
                      | (go_at_call 58; refine HB.out.mono ?_; rintro e w2 ⟨rfl, hR2, hK2⟩; have HR2 := Lib.hid hR2; have HK2 := Lib.hid (HKi.out.trans hK2 (.inl rfl) (.inl rfl)); have hs2 := HK2.out.size; clear hR2 hK2; simp only [b2n, if_false, Bool.false_eq_true]; have hwc := HWq.out _ HK2.out))
                      go_roundw
                      case rel =>
                        refine ⟨k + 1, by omega, by go_num, ls ++ [wrap64 (t + wrap64 (d + x))], wrap64 (t + wrap64 (d + x)), wrap64 (d + x), b3, A3, c3, r.drop q, by rw [List.length_append, HLS.out]; rfl, rfl, rfl, Lib.hid ?_, by omega, Lib.hid (HR3.out.kp Q3.out (by omega) (by omega) (by omega) (by omega)), Lib.hid ((HK.out.trans HK3.out (.inl rfl) (.inl rfl)).trans Q3.out (by omega) (by omega)), .inr ⟨by omega, Lib.hid (by rw [Nat.add_sub_cancel]; simp [HLS.out]), HX3⟩⟩
                        simpa using Q1.out
                      case measure => simp [intOf]; omega
                    · have hX3 := HXG.out
                      rw [gchg_bad HG2.out hs hbad] at hX3
                      have HX3 := Lib.hid (show X = .error 8 from hX3)
                      have HS2 := Lib.hid fun W => HSg.out W _ hu
                      have HF := Lib.hid fun W => form_any W (sext (bv (r.take (twid kk))) (twid kk))
                      obtain ⟨f, hf⟩ : ∃ f, tform (sext (bv (r.take (twid kk))) (twid kk)) = f := ⟨_, rfl⟩
                      rw [hf] at HF
                      have hfk : ((f : Int) == (kk : Int)) = false := by rw [beq_eq_false_iff_ne]; intro h; exact hbad (by rw [hf]; omega)
                      have hfk2 : ((f : Int) != (kk : Int)) = true := by rw [bne_iff_ne]; intro h; exact hbad (by rw [hf]; omega)
                      obtain ⟨x, hx⟩ : ∃ x, sext (bv (r.take (twid kk))) (twid kk) = x := ⟨_, rfl⟩
                      rw [hx] at HF HS2
                      obtain ⟨u, hu'⟩ : ∃ u, bv (r.take (twid kk)) = u := ⟨_, rfl⟩
                      rw [hu'] at HS2
                      have HU := Lib.hid hu'
                      clear hX3 HXG HSg HG2 hbad hx hu' hf hu
                      generalize twid kk = q at *
                      go_wp2_with (first
                      | (go_at_call 53; refine (HF.out _).mono ?_; rintro e w4 ⟨rfl, hw4⟩; subst hw4)
                      | (go_at_call 59; refine (HS2.out _).mono ?_; rintro e w4 ⟨rfl, hw4⟩; subst hw4)
                      | (go_at_call 58; refine (QBits_ok _ g b r q HR2.out hq64 (by omega)).mono ?_; rintro e w3 ⟨rfl, hR3, hK3⟩; rw [HU.out]; have HR3 := Lib.hid hR3; have HK3 := Lib.hid (HK2.out.trans hK3 (.inl rfl) (.inl rfl)); have hwc3 := HWq.out _ HK3.out; have hclw := HCL.out _ HK3.out; have HOO := Lib.hid (HO.out.kp HK3.out (by omega) (by omega)); have hs3 := hK3.size; clear hR3 hK3)
                      | (go_at_call 58; refine HB.out.mono ?_; rintro e w2 ⟨rfl, hR2, hK2⟩; have HR2 := Lib.hid hR2; have HK2 := Lib.hid (HKi.out.trans hK2 (.inl rfl) (.inl rfl)); have hs2 := HK2.out.size; clear hR2 hK2; simp only [b2n, if_false, Bool.false_eq_true]; have hwc := HWq.out _ HK2.out))
                      go_ret2
                      rw [HX3.out]
                      exact ⟨⟨rfl, by omega⟩, ((HN.out.kp g g).trans HK.out (.inl rfl) (.inl rfl)).trans HK3.out (.inl rfl) (.inl rfl)⟩
          · have hlt2I : ¬ (kk : Int) < 4 := by omega
            have HG2 := Lib.hid (show gform 4 0 R = some (kk, r) from by rw [HGi.out, show 4 - kk = 0 from by omega]; rfl)
            have HR2 := HQi
            have HK2 := HKi
            have hkz : kk ≠ 0 := by omega
            have hs2 := hsi
            have hwc := HWid.out _ HK2.out kk hkk
            clear HGi HQi HKi
            have hkzI : (0 : Int) < (kk : Int) := by omega
            have i5 : (kk : Int) < 5 := by omega
            have hq64 : twid kk ≤ 64 := (tab_le hkk).2.2
            have HWq := Lib.hid fun (W : World) (h : Kp g g wo W) => HWid.out W h kk hkk
            have HSg := Lib.hid fun (W : World) (u : Nat) (hu : u < 2 ^ twid kk) => Signed_any W u kk (by omega) hu
            by_cases hs : r.length < twid kk
            · have hX3 := HXG.out
              rw [gchg_short HG2.out hs] at hX3
              have HX3 := Lib.hid (show X = .error 3 from hX3)
              clear hX3 HXG HSg HG2
              generalize twid kk = q at *
              go_wp2_with (first
              | (go_at_call 58; refine (QBits_eof _ g b r q HR2.out hq64 hs).mono ?_; rintro e w3 ⟨rfl, hw3⟩; subst hw3))
              go_ret2
              rw [HX3.out]
              exact ⟨⟨rfl, by omega⟩, ((HN.out.kp g g).trans HK.out (.inl rfl) (.inl rfl)).trans HK2.out (.inl rfl) (.inl rfl)⟩
            · obtain ⟨_, hu⟩ := bits_take (r := r) (n := twid kk) (by omega)
              have HU := Lib.hid (rfl : bv (r.take (twid kk)) = bv (r.take (twid kk)))
              by_cases hbad : tform (sext (bv (r.take (twid kk))) (twid kk)) = kk
              · have hX3 := HXG.out
                rw [gchg_good HG2.out hs hbad] at hX3
                have HX3 := Lib.hid hX3
                have HS2 := Lib.hid fun W => HSg.out W _ hu
                have HF := Lib.hid fun W => form_any W (sext (bv (r.take (twid kk))) (twid kk))
                rw [hbad] at HF
                obtain ⟨x, hx⟩ : ∃ x, sext (bv (r.take (twid kk))) (twid kk) = x := ⟨_, rfl⟩
                rw [hx] at HF HS2 HX3
                obtain ⟨u, hu'⟩ : ∃ u, bv (r.take (twid kk)) = u := ⟨_, rfl⟩
                rw [hu'] at HS2
                have HU := Lib.hid hu'
                clear hX3 HXG HSg HG2 hbad hx hu' hu
                generalize twid kk = q at *
                go_wp2_with (first
                | (at_builtin; refine wpList_app1 E_i64 rfl (.tmp 78) (.tmp 86) rfl rfl HOO.out rfl rfl (by omega) (by omega) ?_; intro b3 A3 c3 w4 q1 q2 q3 q4; have Q1 := Lib.hid q1; have Q3 := Lib.hid q3; clear q1 q3 q4)
                | (go_at_call 53; refine (HF.out _).mono ?_; rintro e w4 ⟨rfl, hw4⟩; subst hw4)
                | (go_at_call 59; refine (HS2.out _).mono ?_; rintro e w4 ⟨rfl, hw4⟩; subst hw4)
                | (go_at_call 58; refine (QBits_ok _ g b r q HR2.out hq64 (by omega)).mono ?_; rintro e w3 ⟨rfl, hR3, hK3⟩; rw [HU.out]; have HR3 := Lib.hid hR3; have HK3 := Lib.hid (HK2.out.trans hK3 (.inl rfl) (.inl rfl)); have hwc3 := HWq.out _ HK3.out; have hclw := HCL.out _ HK3.out; have HOO := Lib.hid (HO.out.kp HK3.out (by omega) (by omega)); have hs3 := hK3.size; clear hR3 hK3))
                go_roundw
                case rel =>
                  refine ⟨k + 1, by omega, by go_num, ls ++ [wrap64 (t + wrap64 (d + x))], wrap64 (t + wrap64 (d + x)), wrap64 (d + x), b3, A3, c3, r.drop q, by rw [List.length_append, HLS.out]; rfl, rfl, rfl, Lib.hid ?_, by omega, Lib.hid (HR3.out.kp Q3.out (by omega) (by omega) (by omega) (by omega)), Lib.hid ((HK.out.trans HK3.out (.inl rfl) (.inl rfl)).trans Q3.out (by omega) (by omega)), .inr ⟨by omega, Lib.hid (by rw [Nat.add_sub_cancel]; simp [HLS.out]), HX3⟩⟩
                  simpa using Q1.out
                case measure => simp [intOf]; omega
              · have hX3 := HXG.out
                rw [gchg_bad HG2.out hs hbad] at hX3
                have HX3 := Lib.hid (show X = .error 8 from hX3)
                have HS2 := Lib.hid fun W => HSg.out W _ hu
                have HF := Lib.hid fun W => form_any W (sext (bv (r.take (twid kk))) (twid kk))
                obtain ⟨f, hf⟩ : ∃ f, tform (sext (bv (r.take (twid kk))) (twid kk)) = f := ⟨_, rfl⟩
                rw [hf] at HF
                have hfk : ((f : Int) == (kk : Int)) = false := by rw [beq_eq_false_iff_ne]; intro h; exact hbad (by rw [hf]; omega)
                have hfk2 : ((f : Int) != (kk : Int)) = true := by rw [bne_iff_ne]; intro h; exact hbad (by rw [hf]; omega)
                obtain ⟨x, hx⟩ : ∃ x, sext (bv (r.take (twid kk))) (twid kk) = x := ⟨_, rfl⟩
                rw [hx] at HF HS2
                obtain ⟨u, hu'⟩ : ∃ u, bv (r.take (twid kk)) = u := ⟨_, rfl⟩
                rw [hu'] at HS2
                have HU := Lib.hid hu'
                clear hX3 HXG HSg HG2 hbad hx hu' hf hu
                generalize twid kk = q at *
                go_wp2_with (first
                | (go_at_call 53; refine (HF.out _).mono ?_; rintro e w4 ⟨rfl, hw4⟩; subst hw4)
                | (go_at_call 59; refine (HS2.out _).mono ?_; rintro e w4 ⟨rfl, hw4⟩; subst hw4)
                | (go_at_call 58; refine (QBits_ok _ g b r q HR2.out hq64 (by omega)).mono ?_; rintro e w3 ⟨rfl, hR3, hK3⟩; rw [HU.out]; have HR3 := Lib.hid hR3; have HK3 := Lib.hid (HK2.out.trans hK3 (.inl rfl) (.inl rfl)); have hwc3 := HWq.out _ HK3.out; have hclw := HCL.out _ HK3.out; have HOO := Lib.hid (HO.out.kp HK3.out (by omega) (by omega)); have hs3 := hK3.size; clear hR3 hK3))
                go_ret2
                rw [HX3.out]
                exact ⟨⟨rfl, by omega⟩, ((HN.out.kp g g).trans HK.out (.inl rfl) (.inl rfl)).trans HK3.out (.inl rfl) (.inl rfl)⟩
    · obtain rfl : k = n := by omega
      rcases hE with ⟨rfl, _⟩ | ⟨hk0, HTt, HXX⟩
      · omega
      have HX2 := Lib.hid (show X = .ok (ls, R) from by rw [HXX.out, Nat.sub_self]; simp [tgetF, glue])
      go_wp2
      go_ret2
      rw [HX2.out]
      have hl := HLS.out
      exact ⟨⟨⟨bk, Ak, ck, by rw [hl]; rfl, by rw [hl]; exact HO.out, by omega⟩, HQ.out⟩, (HN.out.kp g g).trans HK.out (.inl rfl) (.inl rfl)⟩
end Go.Proofs.YtjepaneniodbpaaGreatDoor

