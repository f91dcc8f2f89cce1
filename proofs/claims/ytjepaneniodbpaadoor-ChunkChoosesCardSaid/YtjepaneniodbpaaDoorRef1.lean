import Derived.Test.YtjepaneniodbpaaDoorWriter

/- The reference of bitio: Write, Unpack, Pack, the Reader's Bits. -/
namespace Go.Proofs.YtjepaneniodbpaaDoor
open Go Go.RowKit

theorem pow_bits (n k : Nat) (h : k < n) : 2 ^ (n - 1) / 2 ^ k = 2 ^ (n - 1 - k) := by
  rw [Nat.pow_div (by omega) (by omega)]

/-- from a nil slice on, nothing old has turned -/
theorem nn_step {w wr w1 : World} {A Ak A1 : Option Addr} {bk b1 : Nat} (hnn : A = none → Nw w wr ∧ (w.heap.size ≤ bk ∨ Ak = none)) (h2 : b1 = bk ∨ wr.heap.size ≤ b1) (h3 : Kp bk bk wr w1)
    (h4 : Ak = none → Nw wr w1 ∧ (wr.heap.size ≤ b1 ∨ A1 = none)) : A = none → Nw w w1 ∧ (w.heap.size ≤ b1 ∨ A1 = none) := by
  intro e
  obtain ⟨h5, h6⟩ := hnn e
  have h7 := h5.size
  rcases h6 with h6 | h6
  · exact ⟨Kp.nw h5 h3 h6 h6, .inl (by omega)⟩
  · obtain ⟨h8, h9⟩ := h4 h6
    exact ⟨h5.trans h8, by rcases h9 with h9 | h9; exact .inl (by omega); exact .inr h9⟩

theorem Write_any (w : World) (b : Nat) (A : Option Addr) (m c : Nat) (bs : List Bool) (x n : Nat) (hO : Ow w b 4 1 A m c (cB bs)) (hn : n ≤ 64) (hx : x < 18446744073709551616) (hs : m + n ≤ 1099511627776) :
    Calls Tryd.prog 53 #[.slice A m c, .int .u64 (x : Int), .int .i64 (n : Int)] w fun e w' =>
      ∃ b' A' c', e = .returned (.slice A' (m + n) c') ∧ Ow w' b' 4 1 A' (m + n) c' (cB (bs ++ bitsOf x n)) ∧ (b' = b ∨ w.heap.size ≤ b') ∧ Kp b b w w' ∧ (A = none → Nw w w' ∧ (w.heap.size ≤ b' ∨ A' = none)) := by
  have HO := Lib.hid hO
  have HX := Lib.hid hx
  clear hO hx
  go_enter Tryd.func53, Tryd.ntmps53
  go_wp2
  go_loop [7, 8] (fun u i => ∃ k : Nat, 1 ≤ k ∧ (k ≤ n ∨ k = 1) ∧ i = .int .i64 k ∧ u = .int .u64 (2 ^ (k - 1) : Nat)) (fun _ i => n - (intOf i).toNat)
  case atStart => exact ⟨1, by omega, by omega, rfl, rfl⟩
  case round =>
    obtain ⟨k, hk1, hk2, rfl, rfl⟩ := hrel
    by_cases hlt : k < n
    · have hb : 2 ^ (k - 1) ≤ 2 ^ 62 := Nat.pow_le_pow_right (by omega) (by omega)
      have hb2 : (2 : Nat) ^ 62 = 4611686018427387904 := by decide
      have HP := Lib.hid (show 2 ^ (k + 1 - 1) = 2 ^ (k - 1) * 2 from by rw [← Nat.pow_succ]; congr 1; omega)
      rw [hb2] at hb
      clear hb2
      generalize 2 ^ (k - 1) = p at *
      go_wp2
      go_round
      case rel => exact ⟨k + 1, by omega, by omega, by go_num, by rw [HP.out]; go_num⟩
      case measure => simp [intOf]; omega
    · have hk3 : 2 ^ (k - 1) = 2 ^ (n - 1) := by congr 1; omega
      rw [hk3]
      clear hk3
      go_wp2
      go_loopw [0, 7, 9] (fun s u i wr => ∃ j : Nat, j ≤ n ∧ i = .int .i64 j ∧ u = .int .u64 (2 ^ (n - 1) / 2 ^ j : Nat) ∧ ∃ bk Ak ck, s = .slice Ak (m + j) ck ∧ Ow wr bk 4 1 Ak (m + j) ck (cB (bs ++ (bitsOf x n).take j)) ∧ (bk = b ∨ w.heap.size ≤ bk) ∧ Kp b b w wr ∧ Hid (A = none → Nw w wr ∧ (w.heap.size ≤ bk ∨ Ak = none))) (fun _ _ i _ => n - (intOf i).toNat)
      case atStart => exact ⟨0, by omega, rfl, by simp, b, A, c, rfl, by simpa using HO.out, .inl rfl, Kp.refl _ _ _, Lib.hid fun e => ⟨Nw.refl _, .inr e⟩⟩
      case round =>
        obtain ⟨j, hj, rfl, rfl, bk, Ak, ck, rfl, hO, hbk, hK, hnn⟩ := hrel
        by_cases hlt2 : j < n
        · have hp := pow_bits n j hlt2
          have HN := Lib.hid (show 2 ^ (n - 1) / 2 ^ (j + 1) = 2 ^ (n - 1 - j) / 2 from by rw [Nat.pow_succ, ← Nat.div_div_eq_div_mul, hp])
          rw [hp]
          clear hp
          have hpos : 0 < 2 ^ (n - 1 - j) := Nat.pow_pos (by omega)
          generalize hpp : 2 ^ (n - 1 - j) = p at *
          have hp0 : (((p : Nat) : Int) == 0) = false := by rw [beq_eq_false_iff_ne]; omega
          have HPP := Lib.hid hpp
          clear hpp
          go_wp2_with (at_builtin; refine wpList_app1 E_bool rfl (.tmp 22) (.tmp 28) rfl rfl hO rfl rfl (by omega) (by omega) ?_; intro b1 A1 c1 w1 h1 h2 h3 h4)
          go_roundw
          case rel =>
            have hx := HX.out
            have hp' : x / p ≤ x := Nat.div_le_self _ _
            have hsz := hK.size
            have hpp := HPP.out
            refine ⟨j + 1, by omega, by go_num, ?_, b1, A1, c1, rfl, ?_, ?_, hK.trans h3 ?_ ?_, Lib.hid (nn_step hnn.out h2 h3 fun e => ⟨(h4 e).1, .inl (h4 e).2⟩)⟩
            · have hpb : p ≤ 2 ^ 63 := by rw [← hpp]; exact Nat.pow_le_pow_right (by omega) (by omega)
              have h63 : (2 : Nat) ^ 63 = 9223372036854775808 := by decide
              rw [HN.out, IntWalk.u64_in _ (by omega)]
              go_num
            · have e : ((IntKind.u64.wrap ((x : Int) / (p : Int))).tmod 2 == 1) = decide (x / 2 ^ (n - 1 - j) % 2 = 1) := by
                rw [hpp, show (x : Int) / (p : Int) = ((x / p : Nat) : Int) from by simp]
                generalize x / p = q at hp'
                rw [IntWalk.u64_in _ (by omega), Int.tmod_eq_emod_of_nonneg (by omega), Bool.eq_iff_iff, beq_iff_eq, decide_eq_true_iff]
                omega
              rw [e] at h1
              rw [bits_next rfl hlt2, ← Nat.add_assoc]
              simpa using h1
            · rcases h2 with rfl | h2
              · exact hbk
              · right; omega
            · rcases hbk with h | h <;> simp [h]
            · rcases hbk with h | h <;> simp [h]
          case measure => simp [intOf]; omega
        · go_wp2
          go_ret
          obtain rfl : j = n := by omega
          exact ⟨bk, Ak, ck, rfl, by rwa [List.take_of_length_le (by rw [bitsOf_length]; omega)] at hO, hbk, hK, hnn.out⟩

end Go.Proofs.YtjepaneniodbpaaDoor

/- The reference of bitio: the Reader's Bits; Pack. -/
namespace Go.Proofs.YtjepaneniodbpaaDoor
open Go Go.RowKit

section
variable {w w' : World} {g b : Nat} {l : List Bool}
end

/-- the first k bits of byte j -/
def byteTo (bs : List Bool) (j : Nat) : Nat → Nat
  | 0 => 0
  | k + 1 => 2 * byteTo bs j k + bitN bs (8 * j + k)
theorem byteTo_succ (bs : List Bool) (j k : Nat) : byteTo bs j (k + 1) = 2 * byteTo bs j k + bitN bs (8 * j + k) := rfl
theorem byteTo_lt (bs : List Bool) (j k : Nat) : byteTo bs j k < 2 ^ k := by
  induction k with
  | zero => simp [byteTo]
  | succ k ih =>
    have := bitN_lt bs (8 * j + k)
    rw [byteTo_succ, Nat.pow_succ]
    omega
theorem byteTo_all (bs : List Bool) (j : Nat) : byteTo bs j 8 = byteAt bs j := by
  simp only [byteTo, byteAt, Nat.add_zero]
  omega
theorem pow_le8 (k : Nat) (h : k ≤ 8) : 2 ^ k ≤ 256 := by
  have := Nat.pow_le_pow_right (n := 2) (by omega) h
  simpa using this

end Go.Proofs.YtjepaneniodbpaaDoor
