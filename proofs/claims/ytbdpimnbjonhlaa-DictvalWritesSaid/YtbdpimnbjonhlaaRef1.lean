/- The reference of bitio: Write, Unpack, Pack, the Reader's Bits. -/
import Derived.Test.YtbdpimnbjonhlaaWriter
namespace Go.Proofs.Ytbdpimnbjonhlaa
open Go Go.RowKit

theorem pow_bits (n k : Nat) (h : k < n) : 2 ^ (n - 1) / 2 ^ k = 2 ^ (n - 1 - k) := by
  rw [Nat.pow_div (by omega) (by omega)]

/-- from a nil slice on, nothing old has turned -/
theorem nn_step {w wr w1 : World} {A Ak A1 : Option Addr} {bk b1 : Nat} (hnn : A = none → Nw w wr ∧ (w.heap.size ≤ bk ∨ Ak = none)) (h2 : b1 = bk ∨ wr.heap.size ≤ b1) (h3 : Kp bk bk wr w1)
    (h4 : Ak = none → Nw wr w1 ∧ (wr.heap.size ≤ b1 ∨ A1 = none)) : A = none → Nw w w1 ∧ (w.heap.size ≤ b1 ∨ A1 = none) := by
  intro e
  obtain ⟨h5, h6⟩ := hnn e
  have h7 := h5.size
  rcases h6 with h6 | h6
  · exact ⟨Kp.nw h5 h3 h6 h6, .inl (by omega)⟩
  · obtain ⟨h8, h9⟩ := h4 h6
    exact ⟨h5.trans h8, by rcases h9 with h9 | h9; exact .inl (by omega); exact .inr h9⟩

theorem Write_any (w : World) (b : Nat) (A : Option Addr) (m c : Nat) (bs : List Bool) (x n : Nat) (hO : Ow w b 4 1 A m c (cB bs)) (hn : n ≤ 64) (hx : x < 18446744073709551616) (hs : m + n ≤ 1099511627776) :
    Calls Try.prog 42 #[.slice A m c, .int .u64 (x : Int), .int .i64 (n : Int)] w fun e w' =>
      ∃ b' A' c', e = .returned (.slice A' (m + n) c') ∧ Ow w' b' 4 1 A' (m + n) c' (cB (bs ++ bitsOf x n)) ∧ (b' = b ∨ w.heap.size ≤ b') ∧ Kp b b w w' ∧ (A = none → Nw w w' ∧ (w.heap.size ≤ b' ∨ A' = none)) := by
  have HO := Lib.hid hO
  have HX := Lib.hid hx
  clear hO hx
  go_enter Try.func42, Try.ntmps42
  go_wp2
  go_loop [7, 8] (fun u i => ∃ k : Nat, 1 ≤ k ∧ (k ≤ n ∨ k = 1) ∧ i = .int .i64 k ∧ u = .int .u64 (2 ^ (k - 1) : Nat)) (fun _ i => n - (intOf i).toNat)
  case atStart => exact ⟨1, by omega, by omega, rfl, rfl⟩
  case round =>
    obtain ⟨k, hk1, hk2, rfl, rfl⟩ := hrel
    by_cases hlt : k < n
    · have hb : 2 ^ (k - 1) ≤ 2 ^ 62 := Nat.pow_le_pow_right (by omega) (by omega)
      have hb2 : (2 : Nat) ^ 62 = 4611686018427387904 := by decide
      have HP := Lib.hid (show 2 ^ (k + 1 - 1) = 2 ^ (k - 1) * 2 from by rw [← Nat.pow_succ]; congr 1; omega)
      rw [hb2] at hb
      clear hb2
      generalize 2 ^ (k - 1) = p at *
      go_wp2
      go_round
      case rel => exact ⟨k + 1, by omega, by omega, by go_num, by rw [HP.out]; go_num⟩
      case measure => simp [intOf]; omega
    · have hk3 : 2 ^ (k - 1) = 2 ^ (n - 1) := by congr 1; omega
      rw [hk3]
      clear hk3
      go_wp2
      go_loopw [0, 7, 9] (fun s u i wr => ∃ j : Nat, j ≤ n ∧ i = .int .i64 j ∧ u = .int .u64 (2 ^ (n - 1) / 2 ^ j : Nat) ∧ ∃ bk Ak ck, s = .slice Ak (m + j) ck ∧ Ow wr bk 4 1 Ak (m + j) ck (cB (bs ++ (bitsOf x n).take j)) ∧ (bk = b ∨ w.heap.size ≤ bk) ∧ Kp b b w wr ∧ Hid (A = none → Nw w wr ∧ (w.heap.size ≤ bk ∨ Ak = none))) (fun _ _ i _ => n - (intOf i).toNat)
      case atStart => exact ⟨0, by omega, rfl, by simp, b, A, c, rfl, by simpa using HO.out, .inl rfl, Kp.refl _ _ _, Lib.hid fun e => ⟨Nw.refl _, .inr e⟩⟩
      case round =>
        obtain ⟨j, hj, rfl, rfl, bk, Ak, ck, rfl, hO, hbk, hK, hnn⟩ := hrel
        by_cases hlt2 : j < n
        · have hp := pow_bits n j hlt2
          have HN := Lib.hid (show 2 ^ (n - 1) / 2 ^ (j + 1) = 2 ^ (n - 1 - j) / 2 from by rw [Nat.pow_succ, ← Nat.div_div_eq_div_mul, hp])
          rw [hp]
          clear hp
          have hpos : 0 < 2 ^ (n - 1 - j) := Nat.pow_pos (by omega)
          generalize hpp : 2 ^ (n - 1 - j) = p at *
          have hp0 : (((p : Nat) : Int) == 0) = false := by rw [beq_eq_false_iff_ne]; omega
          have HPP := Lib.hid hpp
          clear hpp
          go_wp2_with (at_builtin; refine wpList_app1 E_bool rfl (.tmp 22) (.tmp 28) rfl rfl hO rfl rfl (by omega) (by omega) ?_; intro b1 A1 c1 w1 h1 h2 h3 h4)
          go_roundw
          case rel =>
            have hx := HX.out
            have hp' : x / p ≤ x := Nat.div_le_self _ _
            have hsz := hK.size
            have hpp := HPP.out
            refine ⟨j + 1, by omega, by go_num, ?_, b1, A1, c1, rfl, ?_, ?_, hK.trans h3 ?_ ?_, Lib.hid (nn_step hnn.out h2 h3 fun e => ⟨(h4 e).1, .inl (h4 e).2⟩)⟩
            · have hpb : p ≤ 2 ^ 63 := by rw [← hpp]; exact Nat.pow_le_pow_right (by omega) (by omega)
              have h63 : (2 : Nat) ^ 63 = 9223372036854775808 := by decide
              rw [HN.out, IntWalk.u64_in _ (by omega)]
              go_num
            · have e : ((IntKind.u64.wrap ((x : Int) / (p : Int))).tmod 2 == 1) = decide (x / 2 ^ (n - 1 - j) % 2 = 1) := by
                rw [hpp, show (x : Int) / (p : Int) = ((x / p : Nat) : Int) from by simp]
                generalize x / p = q at hp'
                rw [IntWalk.u64_in _ (by omega), Int.tmod_eq_emod_of_nonneg (by omega), Bool.eq_iff_iff, beq_iff_eq, decide_eq_true_iff]
                omega
              rw [e] at h1
              rw [bits_next rfl hlt2, ← Nat.add_assoc]
              simpa using h1
            · rcases h2 with rfl | h2
              · exact hbk
              · right; omega
            · rcases hbk with h | h <;> simp [h]
            · rcases hbk with h | h <;> simp [h]
          case measure => simp [intOf]; omega
        · go_wp2
          go_ret
          obtain rfl : j = n := by omega
          exact ⟨bk, Ak, ck, rfl, by rwa [List.take_of_length_le (by rw [bitsOf_length]; omega)] at hO, hbk, hK, hnn.out⟩

theorem Unpack_any (w : World) (b : Nat) (A : Option Addr) (n c : Nat) (bytes : List Nat) (hn : n = bytes.length) (hm : n ≤ 100000000000) (hr : Rd w b A (cN .u8 bytes)) (hby : ∀ x ∈ bytes, x < 256) :
    Calls Try.prog 19 #[.slice A n c] w fun e w' => ∃ b' A' c', e = .returned (.slice A' (8 * bytes.length) c') ∧ Ow w' b' 4 1 A' (8 * bytes.length) c' (cB (up bytes)) ∧ w.heap.size ≤ b' ∧ Nw w w' := by
  subst hn
  have HBY := Lib.hid hby
  clear hby
  go_enter Try.func19, Try.ntmps19
  go_wp2
  go_loopw [3, 4] (fun s i wr => ∃ k : Nat, k ≤ bytes.length ∧ i = .int .i64 k ∧ ∃ bk Ak ck, s = .slice Ak (8 * k) ck ∧ Ow wr bk 4 1 Ak (8 * k) ck (cB (up (bytes.take k))) ∧ w.heap.size ≤ bk ∧ Nw w wr) (fun _ i _ => bytes.length - (intOf i).toNat)
  case atStart => exact ⟨0, by omega, rfl, w.heap.size, none, 0, rfl, Ow.nil _ _ _ _, Nat.le_refl _, Nw.refl w⟩
  case round =>
    obtain ⟨k, hk, rfl, bk, Ak, ck, rfl, hO, hbk, hN⟩ := hrel
    by_cases hlt : k < bytes.length
    · obtain ⟨o, rfl, _, hc⟩ := (hr.nw hN).get (k := k) (by simpa using hlt)
      rw [List.getElem_map] at hc
      have hx : bytes[k] < 256 := HBY.out _ (List.getElem_mem _)
      have HW := Lib.hid (Write_any wr bk Ak (8 * k) ck (up (bytes.take k)) bytes[k] 8 hO (by omega) (by omega) (by omega))
      clear hO
      have e1 : IntKind.u64.wrap ((bytes[k] : Nat) : Int) = ((bytes[k] : Nat) : Int) := IntWalk.u64_in _ (by omega)
      go_wp2_with (go_at_call 42; refine HW.out.mono ?_; rintro e w1 ⟨b1, A1, c1, rfl, h1, h2, h3, _⟩)
      go_roundw
      case rel =>
        have hsz := hN.size
        refine ⟨k + 1, by omega, by go_num, b1, A1, c1, by rw [Nat.mul_add], ?_, ?_, Kp.nw hN h3 hbk hbk⟩
        · rw [Nat.mul_add, List.take_succ_eq_append_getElem hlt, up_append]
          simpa [up] using h1
        · rcases h2 with rfl | h2
          · exact hbk
          · omega
      case measure => simp [intOf]; omega
    · go_wp2
      go_ret
      obtain rfl : k = bytes.length := by omega
      exact ⟨bk, Ak, ck, rfl, by simpa using hO, hbk, hN⟩
end Go.Proofs.Ytbdpimnbjonhlaa
