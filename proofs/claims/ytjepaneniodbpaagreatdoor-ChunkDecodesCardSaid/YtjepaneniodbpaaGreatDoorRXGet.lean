/- The reference of xorval: outside and Get. -/
import Derived.Test.YtjepaneniodbpaaGreatDoorRTGet
import Derived.Test.YtjepaneniodbpaaGreatDoorXGet
namespace Go.Proofs.YtjepaneniodbpaaGreatDoor
open Go Go.RowKit Go.Sort

theorem outside_int (w : World) (x t q : Nat) (T : Int) (hT : T = (t : Int)) (ht : t ≤ 64) (hq : q = x * 2 ^ t) (hx : q < 18446744073709551616) :
    Calls Tryz.prog 86 #[.int .u64 (x : Int), .int .i64 T] w fun e w' => e = .returned (.int .u64 (q : Int)) ∧ w = w' := by
  subst hT
  have HQ := Lib.hid hq
  have HB := Lib.hid (show ∀ k, k < t → x * 2 ^ k * 2 < 18446744073709551616 from fun k hk => by
    have : x * 2 ^ k * 2 ≤ x * 2 ^ t := by
      rw [Nat.mul_assoc, ← Nat.pow_succ]
      exact Nat.mul_le_mul_left _ (Nat.pow_le_pow_right (by omega) hk)
    omega)
  clear hq
  go_enter Tryz.func86, Tryz.ntmps86
  go_wp2
  go_loop [0, 5] (fun y i => ∃ k : Nat, k ≤ t ∧ i = .int .i64 k ∧ ∃ z : Nat, y = .int .u64 (z : Int) ∧ Hid (z = x * 2 ^ k)) (fun _ i => t - (intOf i).toNat)
  case atStart => exact ⟨0, by omega, rfl, x, rfl, Lib.hid (by simp)⟩
  case round =>
    obtain ⟨k, hk, rfl, z, rfl, HZ⟩ := hrel
    by_cases hlt : k < t
    · have hz := HB.out k hlt
      rw [← HZ.out] at hz
      go_wp2
      go_round
      case rel => exact ⟨k + 1, by omega, by go_num, z * 2, by go_num, Lib.hid (by rw [HZ.out, Nat.mul_assoc, ← Nat.pow_succ])⟩
      case measure => simp [intOf]; omega
    · obtain rfl : k = t := by omega
      obtain rfl : z = q := by rw [HZ.out, HQ.out]
      go_wp2
      go_ret
      exact ⟨rfl, rfl⟩

theorem QBits_int (w : World) (g b : Nat) (l : List Bool) (N : Int) (n : Nat) (hN : N = (n : Int)) (h : Qr w g b l) (hn : n ≤ 64) (hl : n ≤ l.length) :
    Calls Tryz.prog 58 #[.pointer (some ⟨g, 0, none⟩), .int .i64 N] w fun e w' =>
      e = .returned (.tuple #[.int .u64 (bv (l.take n) : Nat), .int .i64 0]) ∧ Qr w' g b (l.drop n) ∧ Kp g g w w' := by
  subst hN
  exact QBits_ok w g b l n h hn hl
theorem QEof_int (w : World) (g b : Nat) (l : List Bool) (N : Int) (n : Nat) (hN : N = (n : Int)) (h : Qr w g b l) (hn : n ≤ 64) (hl : l.length < n) :
    Calls Tryz.prog 58 #[.pointer (some ⟨g, 0, none⟩), .int .i64 N] w fun e w' => e = .returned (.tuple #[.int .u64 0, .int .i64 3]) ∧ w = w' := by
  subst hN
  exact QBits_eof w g b l n h hn hl
theorem QBit_T (w : World) (g b : Nat) (r : List Bool) (h : Qr w g b (true :: r)) :
    Calls Tryz.prog 58 #[.pointer (some ⟨g, 0, none⟩), .int .i64 1] w fun e w' => e = .returned (.tuple #[.int .u64 1, .int .i64 0]) ∧ Qr w' g b r ∧ Kp g g w w' :=
  QBits_ok w g b (true :: r) 1 h (by omega) (by simp)
theorem QBit_F (w : World) (g b : Nat) (r : List Bool) (h : Qr w g b (false :: r)) :
    Calls Tryz.prog 58 #[.pointer (some ⟨g, 0, none⟩), .int .i64 1] w fun e w' => e = .returned (.tuple #[.int .u64 0, .int .i64 0]) ∧ Qr w' g b r ∧ Kp g g w w' :=
  QBits_ok w g b (false :: r) 1 h (by omega) (by simp)

/-- what the reference's Get leaves: the values and the bits left, or the error -/
def QGotX (w : World) (g b : Nat) (X : Except Nat (List Nat × List Bool)) (e : Ending) (w' : World) : Prop :=
  (match X with
   | .ok (l, r) => (∃ b' A c, e = .returned (.tuple #[.slice A l.length c, .int .i64 0]) ∧ Ow w' b' 25 1 A l.length c (cN .u64 l) ∧ w.heap.size ≤ b') ∧ Qr w' g b r
   | .error k => e = .returned (.tuple #[.slice none 0 0, .int .i64 (k : Int)]) ∧ k ≠ 0) ∧ Kp g g w w'
/-- a word that was read, as what it says -/
theorem body_pow {a b u : Nat} (h : a + b ≤ 63) (hu : u < 2 ^ (64 - a - b)) : u * 2 ^ b < 18446744073709551616 := by
  have h1 : u * 2 ^ b < 2 ^ (64 - a - b) * 2 ^ b := Nat.mul_lt_mul_of_pos_right hu (Nat.pow_pos (by omega))
  rw [← Nat.pow_add] at h1
  have h2 : 2 ^ (64 - a - b + b) ≤ 2 ^ 64 := Nat.pow_le_pow_right (by omega) (by omega)
  rw [pow64] at h2
  omega

set_option maxRecDepth 100000 in
set_option maxHeartbeats 6400000 in
theorem RXGet_any (w : World) (g b : Nat) (R0 : List Bool) (n : Nat) (h : Qr w g b R0) (hbl : b < w.heap.size) (h1 : 1 ≤ n) (hn : n ≤ 10000) :
    Calls Tryz.prog 60 #[.pointer (some ⟨g, 0, none⟩), .int .i64 (n : Int)] w (QGotX w g b (xget n R0)) := by
  have hgl := h.lt
  obtain ⟨X, hX⟩ : ∃ X, X = xget n R0 := ⟨_, rfl⟩
  rw [← hX]
  have HX := Lib.hid hX
  have HQ0 := Lib.hid h
  clear h hX
  go_enter Tryz.func60, Tryz.ntmps60
  go_wp2
  go_loopw [6, 7, 8, 9] (fun s vl vt i wr => ∃ k : Nat, k ≤ n ∧ i = .int .i64 k ∧ ∃ (ls : List Nat) (last : Nat) (win : Win) (bk : Nat) (Ak : Option Addr) (ck : Nat) (R : List Bool), ls.length = k ∧ s = .slice Ak k ck ∧ vl = .int .i64 (leadOf win) ∧ vt = .int .i64 (trailOf win) ∧ last < 18446744073709551616 ∧ Hid (WinOk win) ∧
    Hid (Ow wr bk 25 1 Ak k ck (cN .u64 ls)) ∧ w.heap.size ≤ bk ∧ Hid (Qr wr g b R) ∧ Hid (Kp g g w wr) ∧
    ((k = 0 ∧ ls = [] ∧ Hid (win = none) ∧ Hid (R = R0)) ∨ (0 < k ∧ Hid (ls[k - 1]? = some last) ∧ Hid (X = glue ls (xgetF last win (n - k) R))))) (fun _ _ _ i _ => n - (intOf i).toNat)
  case atStart => exact ⟨0, by omega, rfl, [], 0, none, w.heap.size, none, 0, R0, rfl, rfl, rfl, rfl, by omega, Lib.hid trivial, Lib.hid (Ow.nil _ _ _ _), Nat.le_refl _, HQ0, Lib.hid (Kp.refl _ _ _), .inl ⟨rfl, rfl, Lib.hid rfl, Lib.hid rfl⟩⟩
  case round =>
    obtain ⟨k, hk, rfl, ls, last, win, bk, Ak, ck, R, hl, rfl, rfl, rfl, hlast, HWin, HO, hbk, HQ, HK, hE⟩ := hrel
    have HLS := Lib.hid hl
    clear hl
    have hsr := HK.out.size
    by_cases hlt : k < n
    · have hkI : (k : Int) < (n : Int) := by omega
      rcases hE with ⟨rfl, rfl, HW0, HR⟩ | ⟨hk0, HTt, HXX⟩
      · obtain ⟨m, hm⟩ : ∃ m, m = n - 1 := ⟨n - 1, rfl⟩
        have HXM := Lib.hid (show X = xget (m + 1) R0 from by rw [HX.out, hm]; congr 1; omega)
        have HM := Lib.hid (show n - 1 = m from hm.symm)
        clear hm HX
        have hrr := HR.out
        subst hrr
        by_cases hfit : R.length < 64
        · have HB := Lib.hid (QBits_eof wr g b R 64 HQ.out (by omega) hfit)
          have HX3 := Lib.hid (show X = .error 3 from by rw [HXM.out]; simp only [xget]; rw [if_pos hfit])
          go_wp2_with (go_at_call 58; refine HB.out.mono ?_; rintro e w2 ⟨rfl, hw2⟩; subst hw2)
          go_ret2
          rw [HX3.out]
          exact ⟨⟨rfl, by omega⟩, HK.out⟩
        · have HB := Lib.hid (QBits_ok wr g b R 64 HQ.out (by omega) (by omega))
          obtain ⟨_, hu⟩ := bits_take (r := R) (n := 64) (by omega)
          rw [pow64] at hu
          have HX1 := Lib.hid (show X = glue [bv (R.take 64)] (xgetF (bv (R.take 64)) win m (R.drop 64)) from by
            rw [HXM.out, HW0.out]
            simp only [xget]
            rw [if_neg hfit]
            cases xgetF (bv (R.take 64)) none m (R.drop 64) with
            | error e => rfl
            | ok x => rfl)
          generalize bv (R.take 64) = u at *
          clear hfit HR HXM
          go_wp2_with (first
            | (at_builtin; refine wpList_app1 E_u64 rfl (.tmp 39) (.tmp 41) rfl rfl HOO.out rfl rfl (by omega) (by omega) ?_; intro b3 A3 c3 w3 q1 q2 q3 q4; have Q1 := Lib.hid q1; have Q3 := Lib.hid q3; clear q1 q3 q4)
            | (go_at_call 58; refine HB.out.mono ?_; rintro e w2 ⟨rfl, hR2, hK2⟩; have HR2 := Lib.hid hR2; have HK2 := Lib.hid (HK.out.trans hK2 (.inl rfl) (.inl rfl)); have HOO := Lib.hid (HO.out.kp hK2 (by omega) (by omega)); have hs2 := hK2.size; clear hR2 hK2))
          go_roundw
          case rel =>
            refine ⟨1, by omega, by go_num, [u], u, win, b3, A3, c3, R.drop 64, rfl, rfl, rfl, rfl, hu, HWin, Lib.hid ?_, by omega, Lib.hid (HR2.out.kp Q3.out (by omega) (by omega) (by omega) (by omega)), Lib.hid (HK2.out.trans Q3.out (by omega) (by omega)), .inr ⟨by omega, Lib.hid rfl, by rw [HM.out]; exact HX1⟩⟩
            simpa using Q1.out
          case measure => simp [intOf]; omega
      · have hk0' : ((k : Int) == 0) = false := by rw [beq_eq_false_iff_ne]; omega
        have i0 : (0 : Int) ≤ (k : Int) - 1 := by omega
        have i1 : (k : Int) - 1 < (k : Int) := by omega
        have i2 : ((k : Int) - 1).toNat = k - 1 := by omega
        have HXG := Lib.hid (show X = match xget1 last win R with
            | .error e => .error e
            | .ok (v, win', r') => glue (ls ++ [v]) (xgetF v win' (n - (k + 1)) r') from by
          rw [HXX.out, show n - k = (n - (k + 1)) + 1 from by omega, xgetF_glue]
          rfl)
        obtain ⟨hAk, hbw, hcl0, _⟩ := HO.out.at_ (j := k - 1) (by omega)
        subst hAk
        rw [List.getElem?_map, HTt.out, Option.map_some] at hcl0
        have HCL := Lib.hid fun (W : World) (h : Kp g g wr W) => (World.cell?_of_block (a := ⟨bk, k - 1, none⟩) (h.block bk hbw (by omega) (by omega))).trans hcl0
        have HOK := Lib.hid fun (W : World) (h : Kp g g wr W) => HO.out.kp h (by omega) (by omega)
        clear HXX HX HQ0 hcl0 HO
        have hX3 := HXG.out
        cases R with
        | nil =>
          have HX3 := Lib.hid (show X = .error 3 from hX3)
          clear hX3 HXG
          go_wp2_with (first
            | (go_at_call 58; refine (QBits_eof _ g b [] 1 HQ.out (by omega) (by simp)).mono ?_; rintro e wz ⟨rfl, hwz⟩; subst hwz))
          go_ret2
          rw [HX3.out]
          exact ⟨⟨rfl, by omega⟩, HK.out⟩
        | cons x1 r1 =>
          cases x1 with
          | false =>
            have HX3 := Lib.hid (show X = glue (ls ++ [last]) (xgetF last win (n - (k + 1)) r1) from hX3)
            clear hX3 HXG
            go_wp2_with (first
              | (at_builtin; refine wpList_app1 E_u64 rfl (.tmp 53) (.tmp 59) rfl rfl (HOK.out _ HK2.out) rfl rfl (by omega) (by omega) ?_; intro b3 A3 c3 wa q1 q2 q3 q4; have Q1 := Lib.hid q1; have Q3 := Lib.hid q3; clear q1 q3 q4)
              | (go_at_call 58; refine (QBit_F _ g b _ HQ.out).mono ?_; rintro e w2 ⟨rfl, hR, hK⟩; have HR2 := Lib.hid hR; have HK2 := Lib.hid hK; have hs2 := HK2.out.size; clear hR hK; have hcl := HCL.out _ HK2.out))
            go_roundw
            case rel =>
              refine ⟨k + 1, by omega, by go_num, ls ++ [last], last, win, b3, A3, c3, r1, by rw [List.length_append, HLS.out]; rfl, rfl, rfl, rfl, hlast, HWin, Lib.hid ?_, by omega, Lib.hid (HR2.out.kp Q3.out (by omega) (by omega) (by omega) (by omega)), Lib.hid ((HK.out.trans HK2.out (.inl rfl) (.inl rfl)).trans Q3.out (by omega) (by omega)), .inr ⟨by omega, Lib.hid (by rw [Nat.add_sub_cancel]; simp [HLS.out]), HX3⟩⟩
              simpa using Q1.out
            case measure => simp [intOf]; omega
          | true =>
            cases r1 with
            | nil =>
              have HX3 := Lib.hid (show X = .error 3 from hX3)
              clear hX3 HXG
              go_wp2_with (first
                | (go_at_call 58; refine (QBits_eof _ g b [] 1 HR2.out (by omega) (by simp)).mono ?_; rintro e wz ⟨rfl, hwz⟩; subst hwz)
                | (go_at_call 58; refine (QBit_T _ g b _ HQ.out).mono ?_; rintro e w2 ⟨rfl, hR, hK⟩; have HR2 := Lib.hid hR; have HK2 := Lib.hid hK; have hs2 := HK2.out.size; clear hR hK))
              go_ret2
              rw [HX3.out]
              exact ⟨⟨rfl, by omega⟩, HK.out.trans HK2.out (.inl rfl) (.inl rfl)⟩
            | cons x2 r2 =>
              cases x2 with
              | false =>
                cases win with
                | none =>
                  have HX3 := Lib.hid (show X = .error 8 from hX3)
                  have g3 : leadOf none = -1 := rfl
                  have g4 : trailOf none = 0 := rfl
                  rw [g3, g4]
                  clear hX3 HXG g3 g4
                  go_wp2_with (first
                    | (go_at_call 58; refine (QBit_F _ g b _ HR2.out).mono ?_; rintro e w3 ⟨rfl, hR, hK⟩; have HR3 := Lib.hid hR; have HK3 := Lib.hid (HK2.out.trans hK (.inl rfl) (.inl rfl)); have hs3 := HK3.out.size; clear hR hK)
                    | (go_at_call 58; refine (QBit_T _ g b _ HQ.out).mono ?_; rintro e w2 ⟨rfl, hR, hK⟩; have HR2 := Lib.hid hR; have HK2 := Lib.hid hK; have hs2 := HK2.out.size; clear hR hK))
                  go_ret2
                  rw [HX3.out]
                  exact ⟨⟨rfl, by omega⟩, HK.out.trans HK3.out (.inl rfl) (.inl rfl)⟩
                | some at_ =>
                  obtain ⟨a, t⟩ := at_
                  have hab : a + t ≤ 63 := HWin.out
                  have g3 : leadOf (some (a, t)) = (a : Int) := rfl
                  have g4 : trailOf (some (a, t)) = (t : Int) := rfl
                  have g5 : decide ((a : Int) < 0) = false := by rw [decide_eq_false_iff_not]; omega
                  rw [g3, g4]
                  rw [show xget1 last (some (a, t)) (true :: false :: r2) = xbody last (some (a, t)) false a t r2 from rfl] at hX3
                  unfold xbody at hX3
                  clear g3 g4 HXG
                  have HXG := Lib.hid hX3
                  by_cases hs : r2.length < 64 - a - t
                  · rw [if_pos hs] at hX3
                    have HX3 := Lib.hid (show X = .error 3 from hX3)
                    clear hX3 HXG
                    go_wp2_with (first
                      | (go_at_call 58; refine (QEof_int _ g b r2 _ (64 - a - t) (by omega) HR3.out (by omega) hs).mono ?_; rintro e wz ⟨rfl, hwz⟩; subst hwz)
                      | (go_at_call 58; refine (QBit_F _ g b _ HR2.out).mono ?_; rintro e w3 ⟨rfl, hR, hK⟩; have HR3 := Lib.hid hR; have HK3 := Lib.hid (HK2.out.trans hK (.inl rfl) (.inl rfl)); have hs3 := HK3.out.size; clear hR hK)
                      | (go_at_call 58; refine (QBit_T _ g b _ HQ.out).mono ?_; rintro e w2 ⟨rfl, hR, hK⟩; have HR2 := Lib.hid hR; have HK2 := Lib.hid hK; have hs2 := HK2.out.size; clear hR hK))
                    go_ret2
                    rw [HX3.out]
                    exact ⟨⟨rfl, by omega⟩, HK.out.trans HK3.out (.inl rfl) (.inl rfl)⟩
                  rw [if_neg hs] at hX3
                  obtain ⟨_, hu⟩ := bits_take (r := r2) (n := 64 - a - t) (by omega)
                  have hp := body_pow hab hu
                  obtain ⟨u, hU⟩ : ∃ u, bv (r2.take (64 - a - t)) = u := ⟨_, rfl⟩
                  have HU := Lib.hid hU
                  rw [hU] at hX3 hp
                  obtain ⟨v, hV⟩ : ∃ v, v = u * 2 ^ t := ⟨_, rfl⟩
                  rw [← hV] at hX3 hp
                  have HV := Lib.hid hV
                  clear hu hU hV HXG
                  by_cases hv0 : v = 0
                  · rw [if_pos hv0] at hX3
                    have HX3 := Lib.hid (show X = .error 8 from hX3)
                    have hv0' : ((v : Int) == 0) = true := by rw [beq_iff_eq]; omega
                    clear hX3 hv0
                    go_wp2_with (first
                      | (go_at_call 86; refine (outside_int _ u t v _ (by omega) (by omega) HV.out hp).mono ?_; rintro e wz ⟨rfl, hwz⟩; subst hwz)
                      | (go_at_call 58; refine (QBits_int _ g b r2 _ (64 - a - t) (by omega) HR3.out (by omega) (by omega)).mono ?_; rintro e w4 ⟨rfl, hR, hK⟩; have HR4 := Lib.hid hR; have HK4 := Lib.hid (HK3.out.trans hK (.inl rfl) (.inl rfl)); have hs4 := HK4.out.size; clear hR hK; rw [HU.out])
                      | (go_at_call 58; refine (QBit_F _ g b _ HR2.out).mono ?_; rintro e w3 ⟨rfl, hR, hK⟩; have HR3 := Lib.hid hR; have HK3 := Lib.hid (HK2.out.trans hK (.inl rfl) (.inl rfl)); have hs3 := HK3.out.size; clear hR hK)
                      | (go_at_call 58; refine (QBit_T _ g b _ HQ.out).mono ?_; rintro e w2 ⟨rfl, hR, hK⟩; have HR2 := Lib.hid hR; have HK2 := Lib.hid hK; have hs2 := HK2.out.size; clear hR hK))
                    go_ret2
                    rw [HX3.out]
                    exact ⟨⟨rfl, by omega⟩, HK.out.trans HK4.out (.inl rfl) (.inl rfl)⟩
                  rw [if_neg hv0] at hX3
                  have hv0' : ((v : Int) == 0) = false := by rw [beq_eq_false_iff_ne]; omega
                  have hxor := u64_xor_nat last v hlast hp
                  have hxl := xor_lt64 hlast hp
                  rw [if_neg (by simp)] at hX3
                  have HX3 := Lib.hid (show X = glue (ls ++ [last ^^^ v]) (xgetF (last ^^^ v) (some (a, t)) (n - (k + 1)) (r2.drop (64 - a - t))) from hX3)
                  generalize last ^^^ v = xv at *
                  clear hX3
                  go_wp2_with (first
                    | (at_builtin; refine wpList_app1 E_u64 rfl (.tmp 152) (.tmp 160) rfl rfl (HOK.out _ HK4.out) rfl rfl (by omega) (by omega) ?_; intro b3 A3 c3 wa q1 q2 q3 q4; have Q1 := Lib.hid q1; have Q3 := Lib.hid q3; clear q1 q3 q4)
                    | (go_at_call 86; refine (outside_int _ u t v _ (by omega) (by omega) HV.out hp).mono ?_; rintro e wz ⟨rfl, hwz⟩; subst hwz)
                    | (go_at_call 58; refine (QBits_int _ g b r2 _ (64 - a - t) (by omega) HR3.out (by omega) (by omega)).mono ?_; rintro e w4 ⟨rfl, hR, hK⟩; have HR4 := Lib.hid hR; have HK4 := Lib.hid (HK3.out.trans hK (.inl rfl) (.inl rfl)); have hs4 := HK4.out.size; clear hR hK; rw [HU.out]; have hcl := HCL.out _ HK4.out)
                    | (go_at_call 58; refine (QBit_F _ g b _ HR2.out).mono ?_; rintro e w3 ⟨rfl, hR, hK⟩; have HR3 := Lib.hid hR; have HK3 := Lib.hid (HK2.out.trans hK (.inl rfl) (.inl rfl)); have hs3 := HK3.out.size; clear hR hK)
                    | (go_at_call 58; refine (QBit_T _ g b _ HQ.out).mono ?_; rintro e w2 ⟨rfl, hR, hK⟩; have HR2 := Lib.hid hR; have HK2 := Lib.hid hK; have hs2 := HK2.out.size; clear hR hK))
                  go_roundw
                  case rel =>
                    refine ⟨k + 1, by omega, by go_num, ls ++ [xv], xv, some (a, t), b3, A3, c3, r2.drop (64 - a - t), by rw [List.length_append, HLS.out]; rfl, rfl, rfl, rfl, hxl, HWin, Lib.hid ?_, by omega, Lib.hid (HR4.out.kp Q3.out (by omega) (by omega) (by omega) (by omega)), Lib.hid ((HK.out.trans HK4.out (.inl rfl) (.inl rfl)).trans Q3.out (by omega) (by omega)), .inr ⟨by omega, Lib.hid (by rw [Nat.add_sub_cancel]; simp [HLS.out]), HX3⟩⟩
                    simpa using Q1.out
                  case measure => simp [intOf]; omega
              | true =>
                obtain ⟨r3, hr3⟩ : ∃ r3, r2 = r3 := ⟨_, rfl⟩
                subst hr3
                clear HXG
                rw [show xget1 last win (true :: true :: r2) = (if r2.length < 12 then .error 3 else if 63 < bv (r2.take 6) + bv ((r2.drop 6).take 6) then .error 8 else xbody last win true (bv (r2.take 6)) (63 - bv (r2.take 6) - bv ((r2.drop 6).take 6)) (r2.drop 12)) from rfl] at hX3
                by_cases h12 : r2.length < 12
                · rw [if_pos h12] at hX3
                  have HX3 := Lib.hid (show X = .error 3 from hX3)
                  clear hX3
                  by_cases h6 : r2.length < 6
                  · go_wp2_with (first
                      | (go_at_call 58; refine (QBits_eof _ g b r2 6 HR3.out (by omega) h6).mono ?_; rintro e wz ⟨rfl, hwz⟩; subst hwz)
                      | (go_at_call 58; refine (QBit_T _ g b _ HR2.out).mono ?_; rintro e w3 ⟨rfl, hR, hK⟩; have HR3 := Lib.hid hR; have HK3 := Lib.hid (HK2.out.trans hK (.inl rfl) (.inl rfl)); have hs3 := HK3.out.size; clear hR hK)
                      | (go_at_call 58; refine (QBit_T _ g b _ HQ.out).mono ?_; rintro e w2 ⟨rfl, hR, hK⟩; have HR2 := Lib.hid hR; have HK2 := Lib.hid hK; have hs2 := HK2.out.size; clear hR hK))
                    go_ret2
                    rw [HX3.out]
                    exact ⟨⟨rfl, by omega⟩, HK.out.trans HK3.out (.inl rfl) (.inl rfl)⟩
                  · have HAA := Lib.hid (rfl : bv (r2.take 6) = bv (r2.take 6))
                    obtain ⟨_, hu6⟩ := bits_take (r := r2) (n := 6) (by omega)
                    obtain ⟨a, ha⟩ : ∃ a, bv (r2.take 6) = a := ⟨_, rfl⟩
                    have HA := Lib.hid ha
                    clear ha hu6 HAA
                    go_wp2_with (first
                      | (go_at_call 58; refine (QBits_eof _ g b (r2.drop 6) 6 HR4.out (by omega) (by rw [List.length_drop]; omega)).mono ?_; rintro e wz ⟨rfl, hwz⟩; subst hwz)
                      | (go_at_call 58; refine (QBits_ok _ g b r2 6 HR3.out (by omega) (by omega)).mono ?_; rintro e w4 ⟨rfl, hR, hK⟩; have HR4 := Lib.hid hR; have HK4 := Lib.hid (HK3.out.trans hK (.inl rfl) (.inl rfl)); have hs4 := HK4.out.size; clear hR hK; rw [HA.out])
                      | (go_at_call 58; refine (QBit_T _ g b _ HR2.out).mono ?_; rintro e w3 ⟨rfl, hR, hK⟩; have HR3 := Lib.hid hR; have HK3 := Lib.hid (HK2.out.trans hK (.inl rfl) (.inl rfl)); have hs3 := HK3.out.size; clear hR hK)
                      | (go_at_call 58; refine (QBit_T _ g b _ HQ.out).mono ?_; rintro e w2 ⟨rfl, hR, hK⟩; have HR2 := Lib.hid hR; have HK2 := Lib.hid hK; have hs2 := HK2.out.size; clear hR hK))
                    go_ret2
                    rw [HX3.out]
                    exact ⟨⟨rfl, by omega⟩, HK.out.trans HK4.out (.inl rfl) (.inl rfl)⟩
                · rw [if_neg h12] at hX3
                  have hl6 : 6 ≤ (r2.drop 6).length := by rw [List.length_drop]; omega
                  obtain ⟨_, hu6⟩ := bits_take (r := r2) (n := 6) (by omega)
                  obtain ⟨_, hy6⟩ := bits_take (r := r2.drop 6) (n := 6) hl6
                  obtain ⟨a, ha⟩ : ∃ a, bv (r2.take 6) = a := ⟨_, rfl⟩
                  obtain ⟨y, hy⟩ : ∃ y, bv ((r2.drop 6).take 6) = y := ⟨_, rfl⟩
                  rw [ha] at hX3 hu6
                  rw [hy] at hX3 hy6
                  simp only [Nat.reducePow] at hu6 hy6
                  have HAA := Lib.hid ha
                  have HYY := Lib.hid hy
                  clear ha hy
                  obtain ⟨r5, hr5⟩ : ∃ r5, r2.drop 6 = r5 := ⟨_, rfl⟩
                  have hl12 : 6 ≤ r2.length := by omega
                  have hd12 : r2.drop 12 = r5.drop 6 := by rw [← hr5, List.drop_drop]
                  rw [hd12] at hX3
                  rw [hr5] at HYY hl6
                  have HR5D := Lib.hid hr5
                  clear hr5 hd12 h12
                  by_cases h63 : 63 < a + y
                  · rw [if_pos h63] at hX3
                    have HX3 := Lib.hid (show X = .error 8 from hX3)
                    have hneg : 63 - (a : Int) - (y : Int) < 0 := by omega
                    clear hX3
                    go_wp2_with (first
                      | (go_at_call 58; refine (QBits_ok _ g b r5 6 HR4.out (by omega) hl6).mono ?_; rintro e w5 ⟨rfl, hR, hK⟩; have HR5 := Lib.hid hR; have HK5 := Lib.hid (HK4.out.trans hK (.inl rfl) (.inl rfl)); have hs5 := HK5.out.size; clear hR hK; rw [HYY.out])
                      | (go_at_call 58; refine (QBits_ok _ g b r2 6 HR3.out (by omega) hl12).mono ?_; rintro e w4 ⟨rfl, hR, hK⟩; have HR4 := Lib.hid hR; have HK4 := Lib.hid (HK3.out.trans hK (.inl rfl) (.inl rfl)); have hs4 := HK4.out.size; clear hR hK; rw [HAA.out]; rw [HR5D.out] at HR4)
                      | (go_at_call 58; refine (QBit_T _ g b _ HR2.out).mono ?_; rintro e w3 ⟨rfl, hR, hK⟩; have HR3 := Lib.hid hR; have HK3 := Lib.hid (HK2.out.trans hK (.inl rfl) (.inl rfl)); have hs3 := HK3.out.size; clear hR hK)
                      | (go_at_call 58; refine (QBit_T _ g b _ HQ.out).mono ?_; rintro e w2 ⟨rfl, hR, hK⟩; have HR2 := Lib.hid hR; have HK2 := Lib.hid hK; have hs2 := HK2.out.size; clear hR hK))
                    go_ret2
                    rw [HX3.out]
                    exact ⟨⟨rfl, by omega⟩, HK.out.trans HK5.out (.inl rfl) (.inl rfl)⟩
                  · rw [if_neg h63] at hX3
                    have hneg : ¬ 63 - (a : Int) - (y : Int) < 0 := by omega
                    obtain ⟨t, ht⟩ : ∃ t, t = 63 - a - y := ⟨_, rfl⟩
                    rw [← ht] at hX3
                    have hab : a + t ≤ 63 := by omega
                    have hy1 : (t : Int) ≤ 63 - (a : Int) - (y : Int) := by omega
                    have hy2 : 63 - (a : Int) - (y : Int) ≤ (t : Int) := by omega
                    clear ht
                    unfold xbody at hX3
                    obtain ⟨rr, hrr⟩ : ∃ rr, r5.drop 6 = rr := ⟨_, rfl⟩
                    rw [hrr] at hX3
                    have HRR := Lib.hid hrr
                    have HXG := Lib.hid hX3
                    clear hrr
                    by_cases hs : rr.length < 64 - a - t
                    · rw [if_pos hs] at hX3
                      have HX3 := Lib.hid (show X = .error 3 from hX3)
                      clear hX3 HXG
                      go_wp2_with (first
                        | (go_at_call 58; refine (QEof_int _ g b rr _ (64 - a - t) (by omega) HR5.out (by omega) hs).mono ?_; rintro e wz ⟨rfl, hwz⟩; subst hwz)
                        | (go_at_call 58; refine (QBits_ok _ g b r5 6 HR4.out (by omega) hl6).mono ?_; rintro e w5 ⟨rfl, hR, hK⟩; have HR5 := Lib.hid hR; have HK5 := Lib.hid (HK4.out.trans hK (.inl rfl) (.inl rfl)); have hs5 := HK5.out.size; clear hR hK; rw [HYY.out]; rw [HRR.out] at HR5)
                        | (go_at_call 58; refine (QBits_ok _ g b r2 6 HR3.out (by omega) hl12).mono ?_; rintro e w4 ⟨rfl, hR, hK⟩; have HR4 := Lib.hid hR; have HK4 := Lib.hid (HK3.out.trans hK (.inl rfl) (.inl rfl)); have hs4 := HK4.out.size; clear hR hK; rw [HAA.out]; rw [HR5D.out] at HR4)
                        | (go_at_call 58; refine (QBit_T _ g b _ HR2.out).mono ?_; rintro e w3 ⟨rfl, hR, hK⟩; have HR3 := Lib.hid hR; have HK3 := Lib.hid (HK2.out.trans hK (.inl rfl) (.inl rfl)); have hs3 := HK3.out.size; clear hR hK)
                        | (go_at_call 58; refine (QBit_T _ g b _ HQ.out).mono ?_; rintro e w2 ⟨rfl, hR, hK⟩; have HR2 := Lib.hid hR; have HK2 := Lib.hid hK; have hs2 := HK2.out.size; clear hR hK))
                      go_ret2
                      rw [HX3.out]
                      exact ⟨⟨rfl, by omega⟩, HK.out.trans HK5.out (.inl rfl) (.inl rfl)⟩
                    rw [if_neg hs] at hX3
                    obtain ⟨_, hu⟩ := bits_take (r := rr) (n := 64 - a - t) (by omega)
                    have hp := body_pow hab hu
                    obtain ⟨u, hU⟩ : ∃ u, bv (rr.take (64 - a - t)) = u := ⟨_, rfl⟩
                    have HU := Lib.hid hU
                    rw [hU] at hX3 hp
                    obtain ⟨v, hV⟩ : ∃ v, v = u * 2 ^ t := ⟨_, rfl⟩
                    rw [← hV] at hX3 hp
                    have HV := Lib.hid hV
                    clear hu hU hV HXG
                    by_cases hv0 : v = 0
                    · rw [if_pos hv0] at hX3
                      have HX3 := Lib.hid (show X = .error 8 from hX3)
                      have hv0' : ((v : Int) == 0) = true := by rw [beq_iff_eq]; omega
                      clear hX3 hv0
                      go_wp2_with (first
                        | (go_at_call 86; refine (outside_int _ u t v _ (by omega) (by omega) HV.out hp).mono ?_; rintro e wz ⟨rfl, hwz⟩; subst hwz)
                        | (go_at_call 58; refine (QBits_int _ g b rr _ (64 - a - t) (by omega) HR5.out (by omega) (by omega)).mono ?_; rintro e w6 ⟨rfl, hR, hK⟩; have HR6 := Lib.hid hR; have HK6 := Lib.hid (HK5.out.trans hK (.inl rfl) (.inl rfl)); have hs6 := HK6.out.size; clear hR hK; rw [HU.out])
                        | (go_at_call 58; refine (QBits_ok _ g b r5 6 HR4.out (by omega) hl6).mono ?_; rintro e w5 ⟨rfl, hR, hK⟩; have HR5 := Lib.hid hR; have HK5 := Lib.hid (HK4.out.trans hK (.inl rfl) (.inl rfl)); have hs5 := HK5.out.size; clear hR hK; rw [HYY.out]; rw [HRR.out] at HR5)
                        | (go_at_call 58; refine (QBits_ok _ g b r2 6 HR3.out (by omega) hl12).mono ?_; rintro e w4 ⟨rfl, hR, hK⟩; have HR4 := Lib.hid hR; have HK4 := Lib.hid (HK3.out.trans hK (.inl rfl) (.inl rfl)); have hs4 := HK4.out.size; clear hR hK; rw [HAA.out]; rw [HR5D.out] at HR4)
                        | (go_at_call 58; refine (QBit_T _ g b _ HR2.out).mono ?_; rintro e w3 ⟨rfl, hR, hK⟩; have HR3 := Lib.hid hR; have HK3 := Lib.hid (HK2.out.trans hK (.inl rfl) (.inl rfl)); have hs3 := HK3.out.size; clear hR hK)
                        | (go_at_call 58; refine (QBit_T _ g b _ HQ.out).mono ?_; rintro e w2 ⟨rfl, hR, hK⟩; have HR2 := Lib.hid hR; have HK2 := Lib.hid hK; have hs2 := HK2.out.size; clear hR hK))
                      go_ret2
                      rw [HX3.out]
                      exact ⟨⟨rfl, by omega⟩, HK.out.trans HK6.out (.inl rfl) (.inl rfl)⟩
                    rw [if_neg hv0] at hX3
                    have hv0' : ((v : Int) == 0) = false := by rw [beq_eq_false_iff_ne]; omega
                    have hxor := u64_xor_nat last v hlast hp
                    have hxl := xor_lt64 hlast hp
                    have HZ := Lib.hid fun W => zeros_any W v hv0 hp
                    have HFT := Lib.hid (show fits win v ↔ (∃ a0 b0, win = some (a0, b0) ∧ a0 ≤ lz v ∧ b0 ≤ tz v) from by
                      cases win with
                      | none => simp [fits]
                      | some ab => exact ⟨fun h => ⟨ab.1, ab.2, rfl, h⟩, fun ⟨a0, b0, e, h⟩ => by injection e with e; subst e; exact h⟩)
                    obtain ⟨p, hpz⟩ : ∃ p, lz v = p := ⟨_, rfl⟩
                    obtain ⟨q, hqz⟩ : ∃ q, tz v = q := ⟨_, rfl⟩
                    rw [hpz, hqz] at HZ HFT hX3
                    by_cases hpa : p = a
                    · by_cases hqt : q = t
                      · have f1 : ((p : Int) != (a : Int)) = false := by rw [bne_eq_false_iff_eq]; omega
                        have f2 : ((q : Int) != 63 - (a : Int) - (y : Int)) = false := by rw [bne_eq_false_iff_eq]; omega
                        by_cases hfit : fits win v
                        · rw [if_pos ⟨rfl, .inr (.inr hfit)⟩] at hX3
                          have HX3 := Lib.hid (show X = .error 8 from hX3)
                          obtain ⟨a0, b0, hw, h5, h6⟩ := HFT.out.1 hfit
                          subst hw
                          have g1 : (0 : Int) ≤ leadOf (some (a0, b0)) := Int.natCast_nonneg _
                          have g2 : leadOf (some (a0, b0)) ≤ (p : Int) := by show (a0 : Int) ≤ _; omega
                          have g3 : trailOf (some (a0, b0)) ≤ (q : Int) := by show (b0 : Int) ≤ _; omega
                          generalize leadOf (some (a0, b0)) = ld at *
                          generalize trailOf (some (a0, b0)) = tr at *
                          clear hX3 hfit HFT hpz hqz hpa hqt
                          go_wp2_with (first
                            | (go_at_call 79; refine (HZ.out _).mono ?_; rintro e w7 ⟨rfl, hN⟩; have HR7 := Lib.hid (HR6.out.nw hN); have HK7 := Lib.hid (HK6.out.nw' hN); have hs7 := HK7.out.size; clear hN; have hcl := HCL.out _ HK7.out)
                            | (go_at_call 86; refine (outside_int _ u t v _ (by omega) (by omega) HV.out hp).mono ?_; rintro e wz ⟨rfl, hwz⟩; subst hwz)
                            | (go_at_call 58; refine (QBits_int _ g b rr _ (64 - a - t) (by omega) HR5.out (by omega) (by omega)).mono ?_; rintro e w6 ⟨rfl, hR, hK⟩; have HR6 := Lib.hid hR; have HK6 := Lib.hid (HK5.out.trans hK (.inl rfl) (.inl rfl)); have hs6 := HK6.out.size; clear hR hK; rw [HU.out])
                            | (go_at_call 58; refine (QBits_ok _ g b r5 6 HR4.out (by omega) hl6).mono ?_; rintro e w5 ⟨rfl, hR, hK⟩; have HR5 := Lib.hid hR; have HK5 := Lib.hid (HK4.out.trans hK (.inl rfl) (.inl rfl)); have hs5 := HK5.out.size; clear hR hK; rw [HYY.out]; rw [HRR.out] at HR5)
                            | (go_at_call 58; refine (QBits_ok _ g b r2 6 HR3.out (by omega) hl12).mono ?_; rintro e w4 ⟨rfl, hR, hK⟩; have HR4 := Lib.hid hR; have HK4 := Lib.hid (HK3.out.trans hK (.inl rfl) (.inl rfl)); have hs4 := HK4.out.size; clear hR hK; rw [HAA.out]; rw [HR5D.out] at HR4)
                            | (go_at_call 58; refine (QBit_T _ g b _ HR2.out).mono ?_; rintro e w3 ⟨rfl, hR, hK⟩; have HR3 := Lib.hid hR; have HK3 := Lib.hid (HK2.out.trans hK (.inl rfl) (.inl rfl)); have hs3 := HK3.out.size; clear hR hK)
                            | (go_at_call 58; refine (QBit_T _ g b _ HQ.out).mono ?_; rintro e w2 ⟨rfl, hR, hK⟩; have HR2 := Lib.hid hR; have HK2 := Lib.hid hK; have hs2 := HK2.out.size; clear hR hK))
                          go_ret2
                          rw [HX3.out]
                          exact ⟨⟨rfl, by omega⟩, HK.out.trans HK7.out (.inl rfl) (.inl rfl)⟩
                        · rw [if_neg (by rintro ⟨_, h | h | h⟩; exact h hpa; exact h hqt; exact hfit h)] at hX3
                          have HX3 := Lib.hid (show X = glue (ls ++ [last ^^^ v]) (xgetF (last ^^^ v) (some (a, t)) (n - (k + 1)) (rr.drop (64 - a - t))) from hX3)
                          have hW : ∃ ld tr : Int, leadOf win = ld ∧ trailOf win = tr ∧ (ld = -1 ∨ (0 ≤ ld ∧ decide (ld ≤ (p : Int)) = false) ∨ (0 ≤ ld ∧ ld ≤ (p : Int) ∧ decide (tr ≤ (q : Int)) = false)) := by
                            cases win with
                            | none => exact ⟨_, _, rfl, rfl, .inl rfl⟩
                            | some ab =>
                              by_cases h : ab.1 ≤ p
                              · refine ⟨_, _, rfl, rfl, .inr (.inr ⟨Int.natCast_nonneg _, by show (ab.1 : Int) ≤ _; omega, ?_⟩)⟩
                                rw [decide_eq_false_iff_not]
                                intro h'
                                have h2 : (ab.2 : Int) ≤ (q : Int) := h'
                                exact hfit (HFT.out.2 ⟨ab.1, ab.2, rfl, h, by omega⟩)
                              · refine ⟨_, _, rfl, rfl, .inr (.inl ⟨Int.natCast_nonneg _, ?_⟩)⟩
                                rw [decide_eq_false_iff_not]
                                intro h'
                                have h2 : (ab.1 : Int) ≤ (p : Int) := h'
                                omega
                          obtain ⟨ld, tr, g3, g4, hW⟩ := hW
                          rw [g3, g4]
                          generalize last ^^^ v = xv at *
                          clear hX3 hfit HFT hpz hqz g3 g4 hpa hqt
                          rcases hW with rfl | ⟨g0, g1⟩ | ⟨g0, g1, g2⟩
                          all_goals
                            go_wp2_with (first
                              | (at_builtin; refine wpList_app1 E_u64 rfl (.tmp 152) (.tmp 160) rfl rfl (HOK.out _ HK7.out) rfl rfl (by omega) (by omega) ?_; intro b3 A3 c3 wa q1 q2 q3 q4; have Q1 := Lib.hid q1; have Q3 := Lib.hid q3; clear q1 q3 q4)
                              | (go_at_call 79; refine (HZ.out _).mono ?_; rintro e w7 ⟨rfl, hN⟩; have HR7 := Lib.hid (HR6.out.nw hN); have HK7 := Lib.hid (HK6.out.nw' hN); have hs7 := HK7.out.size; clear hN; have hcl := HCL.out _ HK7.out)
                              | (go_at_call 86; refine (outside_int _ u t v _ (by omega) (by omega) HV.out hp).mono ?_; rintro e wz ⟨rfl, hwz⟩; subst hwz)
                              | (go_at_call 58; refine (QBits_int _ g b rr _ (64 - a - t) (by omega) HR5.out (by omega) (by omega)).mono ?_; rintro e w6 ⟨rfl, hR, hK⟩; have HR6 := Lib.hid hR; have HK6 := Lib.hid (HK5.out.trans hK (.inl rfl) (.inl rfl)); have hs6 := HK6.out.size; clear hR hK; rw [HU.out])
                              | (go_at_call 58; refine (QBits_ok _ g b r5 6 HR4.out (by omega) hl6).mono ?_; rintro e w5 ⟨rfl, hR, hK⟩; have HR5 := Lib.hid hR; have HK5 := Lib.hid (HK4.out.trans hK (.inl rfl) (.inl rfl)); have hs5 := HK5.out.size; clear hR hK; rw [HYY.out]; rw [HRR.out] at HR5)
                              | (go_at_call 58; refine (QBits_ok _ g b r2 6 HR3.out (by omega) hl12).mono ?_; rintro e w4 ⟨rfl, hR, hK⟩; have HR4 := Lib.hid hR; have HK4 := Lib.hid (HK3.out.trans hK (.inl rfl) (.inl rfl)); have hs4 := HK4.out.size; clear hR hK; rw [HAA.out]; rw [HR5D.out] at HR4)
                              | (go_at_call 58; refine (QBit_T _ g b _ HR2.out).mono ?_; rintro e w3 ⟨rfl, hR, hK⟩; have HR3 := Lib.hid hR; have HK3 := Lib.hid (HK2.out.trans hK (.inl rfl) (.inl rfl)); have hs3 := HK3.out.size; clear hR hK)
                              | (go_at_call 58; refine (QBit_T _ g b _ HQ.out).mono ?_; rintro e w2 ⟨rfl, hR, hK⟩; have HR2 := Lib.hid hR; have HK2 := Lib.hid hK; have hs2 := HK2.out.size; clear hR hK))
                            go_roundw
                            case rel =>
                              refine ⟨k + 1, by omega, by go_num, ls ++ [xv], xv, some (a, t), b3, A3, c3, rr.drop (64 - a - t), by rw [List.length_append, HLS.out]; rfl, rfl, rfl, by refine congrArg (Value.int .i64) ?_; show _ = (t : Int); omega, hxl, Lib.hid hab, Lib.hid ?_, by omega, Lib.hid (HR7.out.kp Q3.out (by omega) (by omega) (by omega) (by omega)), Lib.hid ((HK.out.trans HK7.out (.inl rfl) (.inl rfl)).trans Q3.out (by omega) (by omega)), .inr ⟨by omega, Lib.hid (by rw [Nat.add_sub_cancel]; simp [HLS.out]), HX3⟩⟩
                              simpa using Q1.out
                            case measure => simp [intOf]; omega
                      · rw [if_pos ⟨rfl, .inr (.inl hqt)⟩] at hX3
                        have HX3 := Lib.hid (show X = .error 8 from hX3)
                        have f1 : ((p : Int) != (a : Int)) = false := by rw [bne_eq_false_iff_eq]; omega
                        have f2 : ((q : Int) != 63 - (a : Int) - (y : Int)) = true := by rw [bne_iff_ne]; omega
                        clear hX3 HFT hpz hqz hqt hpa
                        go_wp2_with (first
                          | (go_at_call 79; refine (HZ.out _).mono ?_; rintro e w7 ⟨rfl, hN⟩; have HR7 := Lib.hid (HR6.out.nw hN); have HK7 := Lib.hid (HK6.out.nw' hN); have hs7 := HK7.out.size; clear hN; have hcl := HCL.out _ HK7.out)
                          | (go_at_call 86; refine (outside_int _ u t v _ (by omega) (by omega) HV.out hp).mono ?_; rintro e wz ⟨rfl, hwz⟩; subst hwz)
                          | (go_at_call 58; refine (QBits_int _ g b rr _ (64 - a - t) (by omega) HR5.out (by omega) (by omega)).mono ?_; rintro e w6 ⟨rfl, hR, hK⟩; have HR6 := Lib.hid hR; have HK6 := Lib.hid (HK5.out.trans hK (.inl rfl) (.inl rfl)); have hs6 := HK6.out.size; clear hR hK; rw [HU.out])
                          | (go_at_call 58; refine (QBits_ok _ g b r5 6 HR4.out (by omega) hl6).mono ?_; rintro e w5 ⟨rfl, hR, hK⟩; have HR5 := Lib.hid hR; have HK5 := Lib.hid (HK4.out.trans hK (.inl rfl) (.inl rfl)); have hs5 := HK5.out.size; clear hR hK; rw [HYY.out]; rw [HRR.out] at HR5)
                          | (go_at_call 58; refine (QBits_ok _ g b r2 6 HR3.out (by omega) hl12).mono ?_; rintro e w4 ⟨rfl, hR, hK⟩; have HR4 := Lib.hid hR; have HK4 := Lib.hid (HK3.out.trans hK (.inl rfl) (.inl rfl)); have hs4 := HK4.out.size; clear hR hK; rw [HAA.out]; rw [HR5D.out] at HR4)
                          | (go_at_call 58; refine (QBit_T _ g b _ HR2.out).mono ?_; rintro e w3 ⟨rfl, hR, hK⟩; have HR3 := Lib.hid hR; have HK3 := Lib.hid (HK2.out.trans hK (.inl rfl) (.inl rfl)); have hs3 := HK3.out.size; clear hR hK)
                          | (go_at_call 58; refine (QBit_T _ g b _ HQ.out).mono ?_; rintro e w2 ⟨rfl, hR, hK⟩; have HR2 := Lib.hid hR; have HK2 := Lib.hid hK; have hs2 := HK2.out.size; clear hR hK))
                        go_ret2
                        rw [HX3.out]
                        exact ⟨⟨rfl, by omega⟩, HK.out.trans HK7.out (.inl rfl) (.inl rfl)⟩
                    · rw [if_pos ⟨rfl, .inl hpa⟩] at hX3
                      have HX3 := Lib.hid (show X = .error 8 from hX3)
                      have f1 : ((p : Int) != (a : Int)) = true := by rw [bne_iff_ne]; omega
                      clear hX3 HFT hpz hqz hpa
                      go_wp2_with (first
                        | (go_at_call 79; refine (HZ.out _).mono ?_; rintro e w7 ⟨rfl, hN⟩; have HR7 := Lib.hid (HR6.out.nw hN); have HK7 := Lib.hid (HK6.out.nw' hN); have hs7 := HK7.out.size; clear hN; have hcl := HCL.out _ HK7.out)
                        | (go_at_call 86; refine (outside_int _ u t v _ (by omega) (by omega) HV.out hp).mono ?_; rintro e wz ⟨rfl, hwz⟩; subst hwz)
                        | (go_at_call 58; refine (QBits_int _ g b rr _ (64 - a - t) (by omega) HR5.out (by omega) (by omega)).mono ?_; rintro e w6 ⟨rfl, hR, hK⟩; have HR6 := Lib.hid hR; have HK6 := Lib.hid (HK5.out.trans hK (.inl rfl) (.inl rfl)); have hs6 := HK6.out.size; clear hR hK; rw [HU.out])
                        | (go_at_call 58; refine (QBits_ok _ g b r5 6 HR4.out (by omega) hl6).mono ?_; rintro e w5 ⟨rfl, hR, hK⟩; have HR5 := Lib.hid hR; have HK5 := Lib.hid (HK4.out.trans hK (.inl rfl) (.inl rfl)); have hs5 := HK5.out.size; clear hR hK; rw [HYY.out]; rw [HRR.out] at HR5)
                        | (go_at_call 58; refine (QBits_ok _ g b r2 6 HR3.out (by omega) hl12).mono ?_; rintro e w4 ⟨rfl, hR, hK⟩; have HR4 := Lib.hid hR; have HK4 := Lib.hid (HK3.out.trans hK (.inl rfl) (.inl rfl)); have hs4 := HK4.out.size; clear hR hK; rw [HAA.out]; rw [HR5D.out] at HR4)
                        | (go_at_call 58; refine (QBit_T _ g b _ HR2.out).mono ?_; rintro e w3 ⟨rfl, hR, hK⟩; have HR3 := Lib.hid hR; have HK3 := Lib.hid (HK2.out.trans hK (.inl rfl) (.inl rfl)); have hs3 := HK3.out.size; clear hR hK)
                        | (go_at_call 58; refine (QBit_T _ g b _ HQ.out).mono ?_; rintro e w2 ⟨rfl, hR, hK⟩; have HR2 := Lib.hid hR; have HK2 := Lib.hid hK; have hs2 := HK2.out.size; clear hR hK))
                      go_ret2
                      rw [HX3.out]
                      exact ⟨⟨rfl, by omega⟩, HK.out.trans HK7.out (.inl rfl) (.inl rfl)⟩
    · obtain rfl : k = n := by omega
      rcases hE with ⟨rfl, _⟩ | ⟨hk0, HTt, HXX⟩
      · omega
      have HX2 := Lib.hid (show X = .ok (ls, R) from by rw [HXX.out, Nat.sub_self]; simp [xgetF, glue])
      go_wp2
      go_ret2
      rw [HX2.out]
      have hl := HLS.out
      exact ⟨⟨⟨bk, Ak, ck, by rw [hl]; rfl, by rw [hl]; exact HO.out, hbk⟩, HQ.out⟩, HK.out⟩
end Go.Proofs.YtjepaneniodbpaaGreatDoor

