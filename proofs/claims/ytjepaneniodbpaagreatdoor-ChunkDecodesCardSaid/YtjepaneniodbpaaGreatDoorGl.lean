/- What the two package-level variables hold, and bits.TrailingZeros64. -/
import Derived.Test.YtjepaneniodbpaaGreatDoorXorLaw
import Derived.Test.YtjepaneniodbpaaGreatDoorMem
import Derived.Test.YtjepaneniodbpaaGreatDoorShelf
import Derived.Test.YtjepaneniodbpaaGreatDoorRows
namespace Go.Proofs.YtjepaneniodbpaaGreatDoor
open Go Go.RowKit

/-- the table of bits.TrailingZeros64 -/
def deB : List Nat := [0, 1, 56, 2, 57, 49, 28, 3, 61, 58, 42, 50, 38, 29, 17, 4, 62, 47, 59, 36, 45, 43, 51, 22, 53, 39, 33, 30, 24, 18, 12, 5, 63, 55, 48, 27, 60, 41, 37, 16, 46, 35, 44, 21, 52, 32, 23, 11, 54, 26, 40, 15, 34, 20, 31, 10, 25, 14, 19, 9, 13, 8, 7, 6]
/-- the cells of the forms of times -/
def formCells : List Value := [.int .u64 0, .int .i64 1, .int .i64 0, .int .u64 2, .int .i64 2, .int .i64 7, .int .u64 6, .int .i64 3, .int .i64 12, .int .u64 14, .int .i64 4, .int .i64 32, .int .u64 15, .int .i64 4, .int .i64 64]

/-- the variables hold what their initialisers lay -/
structure Gl (w : World) : Prop where
  forms : ∀ (k : Nat) v, formCells[k]? = some v → w.cell? ⟨0, k, none⟩ = some v
  tab : ∀ (k : Nat) v, (cN .u8 deB)[k]? = some v → w.cell? ⟨1, k, none⟩ = some v
  lt : 2 ≤ w.heap.size
theorem Gl.kp {w w' : World} {g g' : Nat} (h : Gl w) (hk : Kp g g' w w') (h1 : 2 ≤ g) (h2 : 2 ≤ g') : Gl w' :=
  ⟨fun k v e => (World.cell?_of_block (hk.block _ (by have := h.lt; simp only; omega) (by simp only; omega) (by simp only; omega))).trans (h.forms k v e), fun k v e => (World.cell?_of_block (hk.block _ (by have := h.lt; simp only; omega) (by simp only; omega) (by simp only; omega))).trans (h.tab k v e), Nat.le_trans h.lt hk.size⟩
theorem Gl.nw {w w' : World} (h : Gl w) (hk : Nw w w') : Gl w' := h.kp (hk.kp 2 2) (Nat.le_refl _) (Nat.le_refl _)

theorem land_neg {x t m : Nat} (hx : x < 18446744073709551616) (e : x = 2 ^ t * (2 * m + 1)) : x &&& (18446744073709551616 - x) = 2 ^ t := by
  have h64 : t ≤ 63 := by
    by_cases h : t ≤ 63
    · exact h
    · have h1 : 2 ^ 64 ≤ 2 ^ t := Nat.pow_le_pow_right (by omega) (by omega)
      have h2 : 2 ^ t ≤ 2 ^ t * (2 * m + 1) := Nat.le_mul_of_pos_right _ (by omega)
      rw [pow64] at h1
      omega
  have hp : 18446744073709551616 = 2 ^ t * (2 * 2 ^ (63 - t)) := by
    rw [← pow64, ← Nat.pow_succ', ← Nat.pow_add]
    congr 1; omega
  have hm : m < 2 ^ (63 - t) := by
    rw [e, hp] at hx
    have := Nat.lt_of_mul_lt_mul_left hx
    omega
  have e2 : 18446744073709551616 - x = 2 ^ t * (2 * (2 ^ (63 - t) - 1 - m) + 1) := by
    rw [e, hp, ← Nat.mul_sub]
    congr 1
    omega
  have hz : m &&& (2 ^ (63 - t) - 1 - m) = 0 := by
    apply Nat.eq_of_testBit_eq
    intro i
    rw [Nat.testBit_and, Nat.zero_testBit]
    have h1 : 2 ^ (63 - t) - 1 - m = 2 ^ (63 - t) - (m + 1) := by omega
    rw [h1, Nat.testBit_two_pow_sub_succ hm]
    cases m.testBit i <;> simp
  rw [e2, e]
  apply Nat.eq_of_testBit_eq
  intro i
  rw [Nat.testBit_and, Nat.testBit_two_pow_mul, Nat.testBit_two_pow_mul, Nat.testBit_two_pow]
  by_cases hi : t ≤ i
  · simp only [hi, decide_true, Bool.true_and]
    obtain ⟨j, rfl⟩ : ∃ j, i = t + j := ⟨i - t, by omega⟩
    rw [Nat.add_sub_cancel_left]
    cases j with
    | zero => simp [Nat.testBit_zero]
    | succ j =>
      rw [Nat.testBit_succ, Nat.testBit_succ, show (2 * m + 1) / 2 = m from by omega, show (2 * (2 ^ (63 - t) - 1 - m) + 1) / 2 = 2 ^ (63 - t) - 1 - m from by omega]
      have := congrArg (fun n => Nat.testBit n j) hz
      simp only [Nat.testBit_and, Nat.zero_testBit] at this
      rw [this]
      simp
  · simp [hi]; omega

theorem u64_and_nat (a b : Nat) (ha : a < 18446744073709551616) (hb : b < 18446744073709551616) : bits .and .u64 (a : Int) (b : Int) = ((a &&& b : Nat) : Int) := by
  have h : bits .and .u64 (a : Int) (b : Int) = IntKind.u64.wrap (BitVec.ofInt 64 a &&& BitVec.ofInt 64 b).toNat := rfl
  rw [h, BitVec.toNat_and, BitVec.ofInt_natCast, BitVec.ofInt_natCast, BitVec.toNat_ofNat, BitVec.toNat_ofNat, pow64, Nat.mod_eq_of_lt ha, Nat.mod_eq_of_lt hb]
  have : a &&& b ≤ a := Nat.and_le_left
  rw [IntWalk.u64_in _ (by omega)]
theorem u64_xor_nat (a b : Nat) (ha : a < 18446744073709551616) (hb : b < 18446744073709551616) : bits .xor .u64 (a : Int) (b : Int) = ((a ^^^ b : Nat) : Int) := by
  have h : bits .xor .u64 (a : Int) (b : Int) = IntKind.u64.wrap (BitVec.ofInt 64 a ^^^ BitVec.ofInt 64 b).toNat := rfl
  rw [h, BitVec.toNat_xor, BitVec.ofInt_natCast, BitVec.ofInt_natCast, BitVec.toNat_ofNat, BitVec.toNat_ofNat, pow64, Nat.mod_eq_of_lt ha, Nat.mod_eq_of_lt hb]
  have := xor_lt64 ha hb
  rw [IntWalk.u64_in _ (by omega)]
theorem deB_at : ∀ t : Fin 64, (2 ^ t.val * 285870213051353865 % 18446744073709551616 / 288230376151711744) < 64 ∧ (cN .u8 deB)[2 ^ t.val * 285870213051353865 % 18446744073709551616 / 288230376151711744]? = some (.int .u8 (t.val : Int)) := by
  have key : ∀ t : Fin 64, (2 ^ t.val * 285870213051353865 % 18446744073709551616 / 288230376151711744) < 64 ∧ deB[2 ^ t.val * 285870213051353865 % 18446744073709551616 / 288230376151711744]? = some t.val := by decide +kernel
  intro t
  exact ⟨(key t).1, by rw [List.getElem?_map, (key t).2]; rfl⟩

theorem tz_mul (p : Nat) : IntKind.u64.wrap ((p : Int) * 285870213051353865) = ((p * 285870213051353865 % 18446744073709551616 : Nat) : Int) := by rw [IntKind.wrap_u64]; omega
theorem tz_div (q : Nat) : (q : Int) / 288230376151711744 = ((q / 288230376151711744 : Nat) : Int) := by omega
theorem tz_and {x t m : Nat} (hx : x < 18446744073709551616) (h0 : x ≠ 0) (e : x = 2 ^ t * (2 * m + 1)) : bits .and .u64 (x : Int) (IntKind.u64.wrap (-(x : Int))) = ((2 ^ t : Nat) : Int) := by
  have h3 : IntKind.u64.wrap (-(x : Int)) = ((18446744073709551616 - x : Nat) : Int) := by rw [IntKind.wrap_u64]; omega
  rw [h3, u64_and_nat _ _ hx (by omega), land_neg hx e]

theorem tz_walk (w : World) (x p q i t : Nat) (h2 : ((x : Int) == 0) = false) (h4 : bits .and .u64 (x : Int) (IntKind.u64.wrap (-(x : Int))) = (p : Int)) (h5 : IntKind.u64.wrap ((p : Int) * 285870213051353865) = (q : Int)) (h6 : (q : Int) / 288230376151711744 = (i : Int)) (hi : i < 64) (ht : t < 64)
    (hcell : w.cell? ⟨1, i, none⟩ = some (.int .u8 (t : Int))) : Calls Tryz.prog 99 #[.int .u64 (x : Int)] w fun e w' => e = .returned (.int .i64 (t : Int)) ∧ w = w' := by
  go_enter Tryz.func99, Tryz.ntmps99
  go_wp2
  go_ret
  exact ⟨rfl, rfl⟩

theorem TrailingZeros64_any (w : World) (x : Nat) (hG : Gl w) (h0 : x ≠ 0) (hx : x < 18446744073709551616) : Calls Tryz.prog 99 #[.int .u64 (x : Int)] w fun e w' => e = .returned (.int .i64 (tz x : Int)) ∧ w = w' := by
  obtain ⟨m, e, h63⟩ := tz_spec h0 hx
  obtain ⟨hi, hc⟩ := deB_at ⟨tz x, by omega⟩
  exact tz_walk w x _ _ _ (tz x) (by rw [beq_eq_false_iff_ne]; omega) (tz_and hx h0 e) (tz_mul _) (tz_div _) hi (by omega) (hG.tab _ _ hc)
end Go.Proofs.YtjepaneniodbpaaGreatDoor
