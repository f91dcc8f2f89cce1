import Derived.Test.YtjepaneniodbpaaGreatDoorGl
import Derived.Test.YtjepaneniodbpaaGreatDoorGrown
import Derived.Test.YtjepaneniodbpaaGreatDoorTimLaw
import Derived.Test.YtjepaneniodbpaaGreatDoorReader
import Derived.Test.YtjepaneniodbpaaGreatDoorXGet

/- times: extend, formOf, and the reading of a change. -/
namespace Go.Proofs.YtjepaneniodbpaaGreatDoor
open Go Go.RowKit Go.Sort

theorem ext7 (u : Nat) : wrap64 (IntKind.u64.wrap ((u : Int) * 144115188075855872)) / 144115188075855872 = sext (u % 2 ^ 7) 7 := by
  rw [IntKind.wrap_u64]
  unfold wrap64 sext
  simp only [Nat.reducePow, Nat.reduceSub]
  rw [if_neg (by omega)]
  split <;> omega
theorem ext12 (u : Nat) : wrap64 (IntKind.u64.wrap ((u : Int) * 4503599627370496)) / 4503599627370496 = sext (u % 2 ^ 12) 12 := by
  rw [IntKind.wrap_u64]
  unfold wrap64 sext
  simp only [Nat.reducePow, Nat.reduceSub]
  rw [if_neg (by omega)]
  split <;> omega
theorem ext32 (u : Nat) : wrap64 (IntKind.u64.wrap ((u : Int) * 4294967296)) / 4294967296 = sext (u % 2 ^ 32) 32 := by
  rw [IntKind.wrap_u64]
  unfold wrap64 sext
  simp only [Nat.reducePow, Nat.reduceSub]
  rw [if_neg (by omega)]
  split <;> omega
theorem ext64 (u : Nat) : wrap64 (u : Int) = sext (u % 2 ^ 64) 64 := by
  unfold wrap64 sext
  simp only [Nat.reducePow, Nat.reduceSub]
  rw [if_neg (by omega)]
  split <;> omega
set_option maxRecDepth 100000 in
theorem extend_any (w : World) (u k : Nat) (hu : u < 18446744073709551616) (hk : k ≤ 4) :
    Calls Tryz.prog 66 #[.int .u64 (u : Int), .int .i64 (twid k : Int)] w fun e w' => e = .returned (.int .i64 (sext (u % 2 ^ twid k) (twid k))) ∧ w = w' := by
  have : k = 0 ∨ k = 1 ∨ k = 2 ∨ k = 3 ∨ k = 4 := by omega
  rcases this with rfl | rfl | rfl | rfl | rfl
  · simp only [twid]
    go_enter Tryz.func66, Tryz.ntmps66
    go_wp2
    go_ret
    exact ⟨by simp [sext], rfl⟩
  · simp only [twid]
    go_enter Tryz.func66, Tryz.ntmps66
    go_wp2
    go_ret
    refine ⟨congrArg Ending.returned (congrArg (Value.int IntKind.i64) ?_), rfl⟩
    show wrap64 (IntKind.u64.wrap ((u : Int) * 144115188075855872)) / 144115188075855872 = _
    exact ext7 u
  · simp only [twid]
    go_enter Tryz.func66, Tryz.ntmps66
    go_wp2
    go_ret
    refine ⟨congrArg Ending.returned (congrArg (Value.int IntKind.i64) ?_), rfl⟩
    show wrap64 (IntKind.u64.wrap ((u : Int) * 4503599627370496)) / 4503599627370496 = _
    exact ext12 u
  · simp only [twid]
    go_enter Tryz.func66, Tryz.ntmps66
    go_wp2
    go_ret
    refine ⟨congrArg Ending.returned (congrArg (Value.int IntKind.i64) ?_), rfl⟩
    show wrap64 (IntKind.u64.wrap ((u : Int) * 4294967296)) / 4294967296 = _
    exact ext32 u
  · simp only [twid]
    go_enter Tryz.func66, Tryz.ntmps66
    go_wp2
    go_ret
    refine ⟨congrArg Ending.returned (congrArg (Value.int IntKind.i64) ?_), rfl⟩
    show wrap64 (u : Int) = _
    exact ext64 u

theorem tform_1 {x : Int} (h : -64 ≤ x ∧ x ≤ 63) : tform x ≤ 1 := by
  unfold tform; repeat' split
  all_goals omega
theorem tform_2 {x : Int} (h : -2048 ≤ x ∧ x ≤ 2047) : tform x ≤ 2 := by
  unfold tform; repeat' split
  all_goals omega
theorem tform_3 {x : Int} (h : -2147483648 ≤ x ∧ x ≤ 2147483647) : tform x ≤ 3 := by
  unfold tform; repeat' split
  all_goals omega
theorem sext_form {u k : Nat} (hk : k ≤ 4) (h : u < 2 ^ twid k) : tform (sext u (twid k)) ≤ k := by
  have : k = 0 ∨ k = 1 ∨ k = 2 ∨ k = 3 ∨ k = 4 := by omega
  rcases this with rfl | rfl | rfl | rfl | rfl <;> simp only [twid] at h ⊢
  · simp [sext, tform]
  · refine tform_1 ?_
    unfold sext
    simp only [Nat.reducePow, Nat.reduceSub] at h ⊢
    rw [if_neg (by omega)]
    split <;> omega
  · refine tform_2 ?_
    unfold sext
    simp only [Nat.reducePow, Nat.reduceSub] at h ⊢
    rw [if_neg (by omega)]
    split <;> omega
  · refine tform_3 ?_
    unfold sext
    simp only [Nat.reducePow, Nat.reduceSub] at h ⊢
    rw [if_neg (by omega)]
    split <;> omega
  · exact tform_le _
theorem form_test {x : Int} {k : Nat} (hI : I6 x) (hk : k ≤ tform x) : sext (uw x % 2 ^ twid k) (twid k) = x ↔ k = tform x := by
  have h4 := tform_le x
  constructor
  · intro h
    have := sext_form (k := k) (u := uw x % 2 ^ twid k) (by omega) (Nat.mod_lt _ (Nat.pow_pos (by omega)))
    rw [h] at this
    omega
  · rintro rfl
    exact sext_uw hI

set_option maxRecDepth 100000 in
set_option maxHeartbeats 2000000 in
theorem formOf_any (w : World) (x : Int) (hI : I6 x) (hG : Gl w) : Calls Tryz.prog 37 #[.int .i64 x] w fun e w' => e = .returned (.int .i64 (tform x : Int)) ∧ Gr w w' := by
  have hux : IntKind.u64.wrap x = ((uw x : Nat) : Int) := by rw [IntKind.wrap_u64]; unfold uw; omega
  have h4 := tform_le x
  have c0 : w.cell? ⟨0, 0, none⟩ = some (.int .u64 0) := hG.forms 0 _ rfl
  have c1 : w.cell? ⟨0, 1, none⟩ = some (.int .i64 1) := hG.forms 1 _ rfl
  have c2 : w.cell? ⟨0, 2, none⟩ = some (.int .i64 0) := hG.forms 2 _ rfl
  have c3 : w.cell? ⟨0, 3, none⟩ = some (.int .u64 2) := hG.forms 3 _ rfl
  have c4 : w.cell? ⟨0, 4, none⟩ = some (.int .i64 2) := hG.forms 4 _ rfl
  have c5 : w.cell? ⟨0, 5, none⟩ = some (.int .i64 7) := hG.forms 5 _ rfl
  have c6 : w.cell? ⟨0, 6, none⟩ = some (.int .u64 6) := hG.forms 6 _ rfl
  have c7 : w.cell? ⟨0, 7, none⟩ = some (.int .i64 3) := hG.forms 7 _ rfl
  have c8 : w.cell? ⟨0, 8, none⟩ = some (.int .i64 12) := hG.forms 8 _ rfl
  have c9 : w.cell? ⟨0, 9, none⟩ = some (.int .u64 14) := hG.forms 9 _ rfl
  have c10 : w.cell? ⟨0, 10, none⟩ = some (.int .i64 4) := hG.forms 10 _ rfl
  have c11 : w.cell? ⟨0, 11, none⟩ = some (.int .i64 32) := hG.forms 11 _ rfl
  have c12 : w.cell? ⟨0, 12, none⟩ = some (.int .u64 15) := hG.forms 12 _ rfl
  have c13 : w.cell? ⟨0, 13, none⟩ = some (.int .i64 4) := hG.forms 13 _ rfl
  have c14 : w.cell? ⟨0, 14, none⟩ = some (.int .i64 64) := hG.forms 14 _ rfl
  have i0 : ∀ W, (Instr.index 95 (.agg #[.int .u64 0, .int .i64 1, .int .i64 0, .int .u64 2, .int .i64 2, .int .i64 7, .int .u64 6, .int .i64 3, .int .i64 12, .int .u64 14, .int .i64 4, .int .i64 32, .int .u64 15, .int .i64 4, .int .i64 64]) (.int .i64 0)).run Tryz.prog W = .ok (.agg #[.int .u64 0, .int .i64 1, .int .i64 0]) W := fun _ => by kernel_rfl
  have i1 : ∀ W, (Instr.index 95 (.agg #[.int .u64 0, .int .i64 1, .int .i64 0, .int .u64 2, .int .i64 2, .int .i64 7, .int .u64 6, .int .i64 3, .int .i64 12, .int .u64 14, .int .i64 4, .int .i64 32, .int .u64 15, .int .i64 4, .int .i64 64]) (.int .i64 1)).run Tryz.prog W = .ok (.agg #[.int .u64 2, .int .i64 2, .int .i64 7]) W := fun _ => by kernel_rfl
  have i2 : ∀ W, (Instr.index 95 (.agg #[.int .u64 0, .int .i64 1, .int .i64 0, .int .u64 2, .int .i64 2, .int .i64 7, .int .u64 6, .int .i64 3, .int .i64 12, .int .u64 14, .int .i64 4, .int .i64 32, .int .u64 15, .int .i64 4, .int .i64 64]) (.int .i64 2)).run Tryz.prog W = .ok (.agg #[.int .u64 6, .int .i64 3, .int .i64 12]) W := fun _ => by kernel_rfl
  have i3 : ∀ W, (Instr.index 95 (.agg #[.int .u64 0, .int .i64 1, .int .i64 0, .int .u64 2, .int .i64 2, .int .i64 7, .int .u64 6, .int .i64 3, .int .i64 12, .int .u64 14, .int .i64 4, .int .i64 32, .int .u64 15, .int .i64 4, .int .i64 64]) (.int .i64 3)).run Tryz.prog W = .ok (.agg #[.int .u64 14, .int .i64 4, .int .i64 32]) W := fun _ => by kernel_rfl
  have i4 : ∀ W, (Instr.index 95 (.agg #[.int .u64 0, .int .i64 1, .int .i64 0, .int .u64 2, .int .i64 2, .int .i64 7, .int .u64 6, .int .i64 3, .int .i64 12, .int .u64 14, .int .i64 4, .int .i64 32, .int .u64 15, .int .i64 4, .int .i64 64]) (.int .i64 4)).run Tryz.prog W = .ok (.agg #[.int .u64 15, .int .i64 4, .int .i64 64]) W := fun _ => by kernel_rfl
  clear hG
  go_enter Tryz.func37, Tryz.ntmps37
  go_wp2
  go_loopw [6] (fun i wr => ∃ k : Nat, k ≤ tform x ∧ i = .int .i64 k ∧ Gr w wr) (fun i _ => 5 - (intOf i).toNat)
  case atStart => exact ⟨0, by omega, rfl, Gr.refl _⟩
  case round =>
    obtain ⟨k, hk, rfl, hgr⟩ := hrel
    have hk5 : k = 0 ∨ k = 1 ∨ k = 2 ∨ k = 3 ∨ k = 4 := by omega
    rcases hk5 with rfl | rfl | rfl | rfl | rfl
    · have HE := Lib.hid fun W : World => extend_any W (uw x) 0 (uw_lt x) (by omega)
      simp only [twid] at HE
      by_cases hx : 0 = tform x
      · have hq : ((sext (uw x % 2 ^ twid 0) (twid 0)) == x) = true := by rw [beq_iff_eq]; exact (form_test hI hk).2 hx
        simp only [twid] at hq
        generalize sext (uw x % 2 ^ 0) 0 = y at *
        have HXX := Lib.hid hx
        clear hx
        go_wp2_with (go_at_call 66; refine (HE.out _).mono ?_; rintro e w1 ⟨rfl, rfl⟩)
        go_ret
        exact ⟨by rw [← HXX.out]; rfl, hgr.trans (Gr.alloc _ _)⟩
      · have hq : ((sext (uw x % 2 ^ twid 0) (twid 0)) == x) = false := by rw [beq_eq_false_iff_ne]; exact fun h => hx ((form_test hI hk).1 h)
        simp only [twid] at hq
        generalize sext (uw x % 2 ^ 0) 0 = y at *
        have HXX := Lib.hid hx
        clear hx
        go_wp2_with (go_at_call 66; refine (HE.out _).mono ?_; rintro e w1 ⟨rfl, rfl⟩)
        go_roundw
        case rel => exact ⟨1, by have := HXX.out; omega, by simp, hgr.trans (Gr.alloc _ _)⟩
        case measure => simp [intOf]
    · have HE := Lib.hid fun W : World => extend_any W (uw x) 1 (uw_lt x) (by omega)
      simp only [twid] at HE
      by_cases hx : 1 = tform x
      · have hq : ((sext (uw x % 2 ^ twid 1) (twid 1)) == x) = true := by rw [beq_iff_eq]; exact (form_test hI hk).2 hx
        simp only [twid] at hq
        generalize sext (uw x % 2 ^ 7) 7 = y at *
        have HXX := Lib.hid hx
        clear hx
        go_wp2_with (go_at_call 66; refine (HE.out _).mono ?_; rintro e w1 ⟨rfl, rfl⟩)
        go_ret
        exact ⟨by rw [← HXX.out]; rfl, hgr.trans (Gr.alloc _ _)⟩
      · have hq : ((sext (uw x % 2 ^ twid 1) (twid 1)) == x) = false := by rw [beq_eq_false_iff_ne]; exact fun h => hx ((form_test hI hk).1 h)
        simp only [twid] at hq
        generalize sext (uw x % 2 ^ 7) 7 = y at *
        have HXX := Lib.hid hx
        clear hx
        go_wp2_with (go_at_call 66; refine (HE.out _).mono ?_; rintro e w1 ⟨rfl, rfl⟩)
        go_roundw
        case rel => exact ⟨2, by have := HXX.out; omega, by simp, hgr.trans (Gr.alloc _ _)⟩
        case measure => simp [intOf]
    · have HE := Lib.hid fun W : World => extend_any W (uw x) 2 (uw_lt x) (by omega)
      simp only [twid] at HE
      by_cases hx : 2 = tform x
      · have hq : ((sext (uw x % 2 ^ twid 2) (twid 2)) == x) = true := by rw [beq_iff_eq]; exact (form_test hI hk).2 hx
        simp only [twid] at hq
        generalize sext (uw x % 2 ^ 12) 12 = y at *
        have HXX := Lib.hid hx
        clear hx
        go_wp2_with (go_at_call 66; refine (HE.out _).mono ?_; rintro e w1 ⟨rfl, rfl⟩)
        go_ret
        exact ⟨by rw [← HXX.out]; rfl, hgr.trans (Gr.alloc _ _)⟩
      · have hq : ((sext (uw x % 2 ^ twid 2) (twid 2)) == x) = false := by rw [beq_eq_false_iff_ne]; exact fun h => hx ((form_test hI hk).1 h)
        simp only [twid] at hq
        generalize sext (uw x % 2 ^ 12) 12 = y at *
        have HXX := Lib.hid hx
        clear hx
        go_wp2_with (go_at_call 66; refine (HE.out _).mono ?_; rintro e w1 ⟨rfl, rfl⟩)
        go_roundw
        case rel => exact ⟨3, by have := HXX.out; omega, by simp, hgr.trans (Gr.alloc _ _)⟩
        case measure => simp [intOf]
    · have HE := Lib.hid fun W : World => extend_any W (uw x) 3 (uw_lt x) (by omega)
      simp only [twid] at HE
      by_cases hx : 3 = tform x
      · have hq : ((sext (uw x % 2 ^ twid 3) (twid 3)) == x) = true := by rw [beq_iff_eq]; exact (form_test hI hk).2 hx
        simp only [twid] at hq
        generalize sext (uw x % 2 ^ 32) 32 = y at *
        have HXX := Lib.hid hx
        clear hx
        go_wp2_with (go_at_call 66; refine (HE.out _).mono ?_; rintro e w1 ⟨rfl, rfl⟩)
        go_ret
        exact ⟨by rw [← HXX.out]; rfl, hgr.trans (Gr.alloc _ _)⟩
      · have hq : ((sext (uw x % 2 ^ twid 3) (twid 3)) == x) = false := by rw [beq_eq_false_iff_ne]; exact fun h => hx ((form_test hI hk).1 h)
        simp only [twid] at hq
        generalize sext (uw x % 2 ^ 32) 32 = y at *
        have HXX := Lib.hid hx
        clear hx
        go_wp2_with (go_at_call 66; refine (HE.out _).mono ?_; rintro e w1 ⟨rfl, rfl⟩)
        go_roundw
        case rel => exact ⟨4, by have := HXX.out; omega, by simp, hgr.trans (Gr.alloc _ _)⟩
        case measure => simp [intOf]
    · have HE := Lib.hid fun W : World => extend_any W (uw x) 4 (uw_lt x) (by omega)
      simp only [twid] at HE
      by_cases hx : 4 = tform x
      · have hq : ((sext (uw x % 2 ^ twid 4) (twid 4)) == x) = true := by rw [beq_iff_eq]; exact (form_test hI hk).2 hx
        simp only [twid] at hq
        generalize sext (uw x % 2 ^ 64) 64 = y at *
        have HXX := Lib.hid hx
        clear hx
        go_wp2_with (go_at_call 66; refine (HE.out _).mono ?_; rintro e w1 ⟨rfl, rfl⟩)
        go_ret
        exact ⟨by rw [← HXX.out]; rfl, hgr.trans (Gr.alloc _ _)⟩
      · have hq : ((sext (uw x % 2 ^ twid 4) (twid 4)) == x) = false := by rw [beq_eq_false_iff_ne]; exact fun h => hx ((form_test hI hk).1 h)
        simp only [twid] at hq
        generalize sext (uw x % 2 ^ 64) 64 = y at *
        have HXX := Lib.hid hx
        clear hx
        go_wp2_with (go_at_call 66; refine (HE.out _).mono ?_; rintro e w1 ⟨rfl, rfl⟩)
        go_roundw
        case rel => exact ⟨5, by have := HXX.out; omega, by simp, hgr.trans (Gr.alloc _ _)⟩
        case measure => simp [intOf]
end Go.Proofs.YtjepaneniodbpaaGreatDoor

/- times: getForm, getChange, Get. -/
namespace Go.Proofs.YtjepaneniodbpaaGreatDoor
open Go Go.RowKit Go.Sort

theorem rest_take {bytes : List Nat} {pos : Nat} {r : List Bool} {n : Nat} (h : rest bytes pos = r) : rest bytes (pos + n) = r.drop n := by rw [← h]; simp [rest]

/-- what a reader's call says -/
def RGot {α : Type} (w : World) (gr b : Nat) (bytes : List Nat) (V : α → Nat → Ending) (X : Except Nat (α × List Bool)) (e : Ending) (w' : World) : Prop :=
  (match X with
   | .ok (x, r) => e = V x 0 ∧ ∃ pos, Rdr w' gr b bytes pos ∧ rest bytes pos = r
   | .error k => k ≠ 0 ∧ ∃ x, e = V x k) ∧ Kp gr gr w w'

def formX (X : Option (Nat × List Bool)) : Except Nat (Nat × List Bool) := match X with | none => .error 3 | some y => .ok y

theorem getForm_any (w : World) (gr b : Nat) (bytes : List Nat) (pos : Nat) (h : Rdr w gr b bytes pos) :
    Calls Tryz.prog 85 #[.pointer (some ⟨gr, 0, none⟩)] w (RGot w gr b bytes (fun k e => .returned (.tuple #[.int .i64 ((k : Nat) : Int), .int .i64 (e : Int)])) (formX (gform 4 0 (rest bytes pos)))) := by
  obtain ⟨X, hX⟩ : ∃ X, X = formX (gform 4 0 (rest bytes pos)) := ⟨_, rfl⟩
  have hX0 := Lib.hid (show X = formX (gform 4 0 (rest bytes pos)) from hX)
  rw [← hX]
  have HR := Lib.hid h
  clear hX h
  go_enter Tryz.func85, Tryz.ntmps85
  go_wp2
  go_loopw [7] (fun i wr => ∃ k : Nat, k ≤ 4 ∧ i = .int .i64 k ∧ Kp gr gr w wr ∧ ∃ p, Rdr wr gr b bytes p ∧ X = formX (gform (4 - k) k (rest bytes p))) (fun i _ => 4 - (intOf i).toNat)
  case atStart => exact ⟨0, by omega, rfl, Kp.refl _ _ _, pos, HR.out, hX0.out⟩
  case round =>
    obtain ⟨k, hk, rfl, hK, p, hR, hX⟩ := hrel
    have HX := Lib.hid hX
    have HK := Lib.hid hK
    clear hX hK
    by_cases hlt : k < 4
    · have hwi := hR.within
      have hlen := rest_length bytes p
      have e4 : 4 - k = (3 - k) + 1 := by omega
      cases hr : rest bytes p with
      | nil =>
        rw [hr] at hlen
        have H := Lib.hid (RBits_eof wr gr b bytes p 1 hR (by omega) (by simp at hlen; omega))
        have HX2 := Lib.hid (show X = .error 3 from by rw [HX.out, hr, e4]; rfl)
        clear hR e4 hlen hr
        go_wp2_with (go_at_call 54; refine H.out.mono ?_; rintro e w1 ⟨rfl, hD⟩)
        go_ret2
        rw [HX2.out]
        exact ⟨⟨by omega, _, rfl⟩, HK.out.nw' hD.nw⟩
      | cons x r =>
        rw [hr] at hlen
        have H := RBits_ok wr gr b bytes p 1 hR (by omega) (by simp at hlen; omega)
        rw [hr] at H
        have hr1 := rest_take (n := 1) hr
        cases x with
        | false =>
          have HX2 := Lib.hid (show X = .ok (k, r) from by rw [HX.out, hr, e4]; rfl)
          have H := Lib.hid H
          have HR1 := Lib.hid hr1
          clear hR e4 hlen hr hr1
          go_wp2_with (go_at_call 54; refine H.out.mono ?_; rintro e w1 ⟨rfl, hR1, hK1⟩)
          go_ret2
          rw [HX2.out]
          exact ⟨⟨rfl, p + 1, hR1, HR1.out⟩, HK.out.trans hK1 (.inl rfl) (.inl rfl)⟩
        | true =>
          have HX2 := Lib.hid (show X = formX (gform (4 - (k + 1)) (k + 1) r) from by rw [HX.out, hr, e4, show 4 - (k + 1) = 3 - k from by omega]; rfl)
          have H := Lib.hid H
          have HR1 := Lib.hid hr1
          clear hR e4 hlen hr hr1
          go_wp2_with (go_at_call 54; refine H.out.mono ?_; rintro e w1 ⟨rfl, hR1, hK1⟩)
          go_roundw
          case rel => exact ⟨k + 1, by omega, by go_num, HK.out.trans hK1 (.inl rfl) (.inl rfl), p + 1, hR1, by rw [HX2.out, HR1.out]; rfl⟩
          case measure => simp [intOf]; omega
    · obtain rfl : k = 4 := by omega
      go_wp2
      go_ret2
      rw [HX.out]
      exact ⟨⟨rfl, p, hR, rfl⟩, HK.out⟩

set_option maxRecDepth 100000 in
theorem getChange_0 (w : World) (gr b : Nat) (bytes : List Nat) (pos : Nat) (h : Rdr w gr b bytes pos) (hG : Gl w) (hgr2 : 2 ≤ gr) (r : List Bool) (hX : gform 4 0 (rest bytes pos) = some (0, r)) :
    Calls Tryz.prog 55 #[.pointer (some ⟨gr, 0, none⟩)] w (RGot w gr b bytes (fun x e => .returned (.tuple #[.int .i64 x, .int .i64 (e : Int)])) (gchg (rest bytes pos))) := by
  have HF := getForm_any w gr b bytes pos h
  have hgx : gchg (rest bytes pos) = if r.length < 0 then .error 3 else if tform (sext (bv (r.take 0)) 0) = 0 then .ok (sext (bv (r.take 0)) 0, r.drop 0) else .error 8 := by
    unfold gchg
    rw [hX]
    rfl
  rw [hX] at HF
  generalize gchg (rest bytes pos) = X at *
  have HXE := Lib.hid hgx
  have HF := Lib.hid HF
  have HG := Lib.hid hG
  clear h hG hgx
  go_enter Tryz.func55, Tryz.ntmps55
  go_wp2_with (go_at_call 85; refine HF.out.mono ?_; rintro e w1 ⟨⟨rfl, p, hR, hr⟩, hK⟩; have hc1 : w1.cell? ⟨0, 2, none⟩ = some (.int .i64 0) := (HG.out.kp hK hgr2 hgr2).forms 2 _ rfl)
  have hG1 := HG.out.kp hK hgr2 hgr2
  have hwi := hR.within
  have hlen := rest_length bytes p
  rw [hr] at hlen
  by_cases hfit : r.length < 0
  · omega
  · have HXE := Lib.hid (show X = if tform (sext (bv (r.take 0)) 0) = 0 then .ok (sext (bv (r.take 0)) 0, r.drop 0) else .error 8 from by rw [HXE.out, if_neg hfit])
    have hB := RBits_ok w1 gr b bytes p 0 hR (by omega) (by omega)
    rw [hr] at hB
    have hr2 := rest_take (n := 0) hr
    obtain ⟨hb1, hb2⟩ := bits_take (r := r) (n := 0) (by omega)
    generalize bv (r.take 0) = u at *
    have hu : u < 18446744073709551616 := by
      have h64 : 2 ^ 0 ≤ 2 ^ 64 := Nat.pow_le_pow_right (by omega) (by omega)
      rw [pow64] at h64
      omega
    have hE0 : ∀ W : World, Calls Tryz.prog 66 #[.int .u64 (u : Int), .int .i64 0] W fun e w' => e = .returned (.int .i64 (sext u 0)) ∧ W = w' := by
      intro W
      have h := extend_any W u 0 hu (by omega)
      simp only [twid] at h
      rwa [Nat.mod_eq_of_lt hb2] at h
    have hxI : I6 (sext u 0) := sext_in (k := 0) (by omega) (by simpa [twid] using hb2)
    generalize sext u 0 = x at *
    have HB := Lib.hid hB
    have HE := Lib.hid hE0
    have HR2 := Lib.hid hr2
    have HK := Lib.hid hK
    have HFo := Lib.hid fun W (hN : Kp gr gr w1 W) => formOf_any W x hxI (hG1.kp hN hgr2 hgr2)
    have HG1 := Lib.hid hG1
    clear hB hE0 hr2 hK hR hr hb1 hb2 hG1
    by_cases hf : tform x = 0
    · have hfq : ((tform x : Int) != 0) = false := by simp; omega
      have HXF := Lib.hid (show X = .ok (x, r.drop 0) from by rw [HXE.out, if_pos hf])
      have HFF := Lib.hid hf
      generalize tform x = f at *
      clear hf
      go_wp2_with (first
        | (go_at_call 54; refine HB.out.mono ?_; rintro e w2 ⟨rfl, hR2, hK2⟩; have hc2 := (HG1.out.kp hK2 hgr2 hgr2).forms 2 _ rfl)
        | (go_at_call 66; refine (HE.out _).mono ?_; rintro e w3 ⟨rfl, rfl⟩)
        | (go_at_call 37; refine (HFo.out _ hK2).mono ?_; rintro e w4 ⟨rfl, hgr4⟩))
      go_ret2
      rw [HXF.out]
      exact ⟨⟨rfl, p + 0, hR2.nw hgr4.nw, HR2.out⟩, (HK.out.trans hK2 (.inl rfl) (.inl rfl)).nw' hgr4.nw⟩
    · have hfq : ((tform x : Int) != 0) = true := by simp; omega
      have HXF := Lib.hid (show X = .error 8 from by rw [HXE.out, if_neg hf])
      have HFF := Lib.hid hf
      generalize tform x = f at *
      clear hf
      go_wp2_with (first
        | (go_at_call 54; refine HB.out.mono ?_; rintro e w2 ⟨rfl, hR2, hK2⟩; have hc2 := (HG1.out.kp hK2 hgr2 hgr2).forms 2 _ rfl)
        | (go_at_call 66; refine (HE.out _).mono ?_; rintro e w3 ⟨rfl, rfl⟩)
        | (go_at_call 37; refine (HFo.out _ hK2).mono ?_; rintro e w4 ⟨rfl, hgr4⟩))
      go_ret2
      rw [HXF.out]
      exact ⟨⟨by omega, _, rfl⟩, (HK.out.trans hK2 (.inl rfl) (.inl rfl)).nw' hgr4.nw⟩

set_option maxRecDepth 100000 in
theorem getChange_1 (w : World) (gr b : Nat) (bytes : List Nat) (pos : Nat) (h : Rdr w gr b bytes pos) (hG : Gl w) (hgr2 : 2 ≤ gr) (r : List Bool) (hX : gform 4 0 (rest bytes pos) = some (1, r)) :
    Calls Tryz.prog 55 #[.pointer (some ⟨gr, 0, none⟩)] w (RGot w gr b bytes (fun x e => .returned (.tuple #[.int .i64 x, .int .i64 (e : Int)])) (gchg (rest bytes pos))) := by
  have HF := getForm_any w gr b bytes pos h
  have hgx : gchg (rest bytes pos) = if r.length < 7 then .error 3 else if tform (sext (bv (r.take 7)) 7) = 1 then .ok (sext (bv (r.take 7)) 7, r.drop 7) else .error 8 := by
    unfold gchg
    rw [hX]
    rfl
  rw [hX] at HF
  generalize gchg (rest bytes pos) = X at *
  have HXE := Lib.hid hgx
  have HF := Lib.hid HF
  have HG := Lib.hid hG
  clear h hG hgx
  go_enter Tryz.func55, Tryz.ntmps55
  go_wp2_with (go_at_call 85; refine HF.out.mono ?_; rintro e w1 ⟨⟨rfl, p, hR, hr⟩, hK⟩; have hc1 : w1.cell? ⟨0, 5, none⟩ = some (.int .i64 7) := (HG.out.kp hK hgr2 hgr2).forms 5 _ rfl)
  have hG1 := HG.out.kp hK hgr2 hgr2
  have hwi := hR.within
  have hlen := rest_length bytes p
  rw [hr] at hlen
  by_cases hfit : r.length < 7
  · have HXE := Lib.hid (show X = .error 3 from by rw [HXE.out, if_pos hfit])
    have HB := Lib.hid (RBits_eof w1 gr b bytes p 7 hR (by omega) (by omega))
    have HE := Lib.hid fun W : World => extend_any W 0 1 (by omega) (by omega)
    simp only [twid] at HE
    have HK := Lib.hid hK
    clear hR hG1 hK hr
    go_wp2_with (first
      | (go_at_call 54; refine HB.out.mono ?_; rintro e w2 ⟨rfl, hD⟩; have hc2 := cell_old (v := .int .i64 7) (a := ⟨0, 5, none⟩) hD.nw (by have := HG.out.lt; have := HK.out.size; simp only; omega) hc1)
      | (go_at_call 66; refine (HE.out _).mono ?_; rintro e w3 ⟨rfl, rfl⟩))
    go_ret2
    rw [HXE.out]
    exact ⟨⟨by omega, _, rfl⟩, HK.out.nw' hD.nw⟩
  · have HXE := Lib.hid (show X = if tform (sext (bv (r.take 7)) 7) = 1 then .ok (sext (bv (r.take 7)) 7, r.drop 7) else .error 8 from by rw [HXE.out, if_neg hfit])
    have hB := RBits_ok w1 gr b bytes p 7 hR (by omega) (by omega)
    rw [hr] at hB
    have hr2 := rest_take (n := 7) hr
    obtain ⟨hb1, hb2⟩ := bits_take (r := r) (n := 7) (by omega)
    generalize bv (r.take 7) = u at *
    have hu : u < 18446744073709551616 := by
      have h64 : 2 ^ 7 ≤ 2 ^ 64 := Nat.pow_le_pow_right (by omega) (by omega)
      rw [pow64] at h64
      omega
    have hE0 : ∀ W : World, Calls Tryz.prog 66 #[.int .u64 (u : Int), .int .i64 7] W fun e w' => e = .returned (.int .i64 (sext u 7)) ∧ W = w' := by
      intro W
      have h := extend_any W u 1 hu (by omega)
      simp only [twid] at h
      rwa [Nat.mod_eq_of_lt hb2] at h
    have hxI : I6 (sext u 7) := sext_in (k := 1) (by omega) (by simpa [twid] using hb2)
    generalize sext u 7 = x at *
    have HB := Lib.hid hB
    have HE := Lib.hid hE0
    have HR2 := Lib.hid hr2
    have HK := Lib.hid hK
    have HFo := Lib.hid fun W (hN : Kp gr gr w1 W) => formOf_any W x hxI (hG1.kp hN hgr2 hgr2)
    have HG1 := Lib.hid hG1
    clear hB hE0 hr2 hK hR hr hb1 hb2 hG1
    by_cases hf : tform x = 1
    · have hfq : ((tform x : Int) != 1) = false := by simp; omega
      have HXF := Lib.hid (show X = .ok (x, r.drop 7) from by rw [HXE.out, if_pos hf])
      have HFF := Lib.hid hf
      generalize tform x = f at *
      clear hf
      go_wp2_with (first
        | (go_at_call 54; refine HB.out.mono ?_; rintro e w2 ⟨rfl, hR2, hK2⟩; have hc2 := (HG1.out.kp hK2 hgr2 hgr2).forms 5 _ rfl)
        | (go_at_call 66; refine (HE.out _).mono ?_; rintro e w3 ⟨rfl, rfl⟩)
        | (go_at_call 37; refine (HFo.out _ hK2).mono ?_; rintro e w4 ⟨rfl, hgr4⟩))
      go_ret2
      rw [HXF.out]
      exact ⟨⟨rfl, p + 7, hR2.nw hgr4.nw, HR2.out⟩, (HK.out.trans hK2 (.inl rfl) (.inl rfl)).nw' hgr4.nw⟩
    · have hfq : ((tform x : Int) != 1) = true := by simp; omega
      have HXF := Lib.hid (show X = .error 8 from by rw [HXE.out, if_neg hf])
      have HFF := Lib.hid hf
      generalize tform x = f at *
      clear hf
      go_wp2_with (first
        | (go_at_call 54; refine HB.out.mono ?_; rintro e w2 ⟨rfl, hR2, hK2⟩; have hc2 := (HG1.out.kp hK2 hgr2 hgr2).forms 5 _ rfl)
        | (go_at_call 66; refine (HE.out _).mono ?_; rintro e w3 ⟨rfl, rfl⟩)
        | (go_at_call 37; refine (HFo.out _ hK2).mono ?_; rintro e w4 ⟨rfl, hgr4⟩))
      go_ret2
      rw [HXF.out]
      exact ⟨⟨by omega, _, rfl⟩, (HK.out.trans hK2 (.inl rfl) (.inl rfl)).nw' hgr4.nw⟩

set_option maxRecDepth 100000 in
theorem getChange_2 (w : World) (gr b : Nat) (bytes : List Nat) (pos : Nat) (h : Rdr w gr b bytes pos) (hG : Gl w) (hgr2 : 2 ≤ gr) (r : List Bool) (hX : gform 4 0 (rest bytes pos) = some (2, r)) :
    Calls Tryz.prog 55 #[.pointer (some ⟨gr, 0, none⟩)] w (RGot w gr b bytes (fun x e => .returned (.tuple #[.int .i64 x, .int .i64 (e : Int)])) (gchg (rest bytes pos))) := by
  have HF := getForm_any w gr b bytes pos h
  have hgx : gchg (rest bytes pos) = if r.length < 12 then .error 3 else if tform (sext (bv (r.take 12)) 12) = 2 then .ok (sext (bv (r.take 12)) 12, r.drop 12) else .error 8 := by
    unfold gchg
    rw [hX]
    rfl
  rw [hX] at HF
  generalize gchg (rest bytes pos) = X at *
  have HXE := Lib.hid hgx
  have HF := Lib.hid HF
  have HG := Lib.hid hG
  clear h hG hgx
  go_enter Tryz.func55, Tryz.ntmps55
  go_wp2_with (go_at_call 85; refine HF.out.mono ?_; rintro e w1 ⟨⟨rfl, p, hR, hr⟩, hK⟩; have hc1 : w1.cell? ⟨0, 8, none⟩ = some (.int .i64 12) := (HG.out.kp hK hgr2 hgr2).forms 8 _ rfl)
  have hG1 := HG.out.kp hK hgr2 hgr2
  have hwi := hR.within
  have hlen := rest_length bytes p
  rw [hr] at hlen
  by_cases hfit : r.length < 12
  · have HXE := Lib.hid (show X = .error 3 from by rw [HXE.out, if_pos hfit])
    have HB := Lib.hid (RBits_eof w1 gr b bytes p 12 hR (by omega) (by omega))
    have HE := Lib.hid fun W : World => extend_any W 0 2 (by omega) (by omega)
    simp only [twid] at HE
    have HK := Lib.hid hK
    clear hR hG1 hK hr
    go_wp2_with (first
      | (go_at_call 54; refine HB.out.mono ?_; rintro e w2 ⟨rfl, hD⟩; have hc2 := cell_old (v := .int .i64 12) (a := ⟨0, 8, none⟩) hD.nw (by have := HG.out.lt; have := HK.out.size; simp only; omega) hc1)
      | (go_at_call 66; refine (HE.out _).mono ?_; rintro e w3 ⟨rfl, rfl⟩))
    go_ret2
    rw [HXE.out]
    exact ⟨⟨by omega, _, rfl⟩, HK.out.nw' hD.nw⟩
  · have HXE := Lib.hid (show X = if tform (sext (bv (r.take 12)) 12) = 2 then .ok (sext (bv (r.take 12)) 12, r.drop 12) else .error 8 from by rw [HXE.out, if_neg hfit])
    have hB := RBits_ok w1 gr b bytes p 12 hR (by omega) (by omega)
    rw [hr] at hB
    have hr2 := rest_take (n := 12) hr
    obtain ⟨hb1, hb2⟩ := bits_take (r := r) (n := 12) (by omega)
    generalize bv (r.take 12) = u at *
    have hu : u < 18446744073709551616 := by
      have h64 : 2 ^ 12 ≤ 2 ^ 64 := Nat.pow_le_pow_right (by omega) (by omega)
      rw [pow64] at h64
      omega
    have hE0 : ∀ W : World, Calls Tryz.prog 66 #[.int .u64 (u : Int), .int .i64 12] W fun e w' => e = .returned (.int .i64 (sext u 12)) ∧ W = w' := by
      intro W
      have h := extend_any W u 2 hu (by omega)
      simp only [twid] at h
      rwa [Nat.mod_eq_of_lt hb2] at h
    have hxI : I6 (sext u 12) := sext_in (k := 2) (by omega) (by simpa [twid] using hb2)
    generalize sext u 12 = x at *
    have HB := Lib.hid hB
    have HE := Lib.hid hE0
    have HR2 := Lib.hid hr2
    have HK := Lib.hid hK
    have HFo := Lib.hid fun W (hN : Kp gr gr w1 W) => formOf_any W x hxI (hG1.kp hN hgr2 hgr2)
    have HG1 := Lib.hid hG1
    clear hB hE0 hr2 hK hR hr hb1 hb2 hG1
    by_cases hf : tform x = 2
    · have hfq : ((tform x : Int) != 2) = false := by simp; omega
      have HXF := Lib.hid (show X = .ok (x, r.drop 12) from by rw [HXE.out, if_pos hf])
      have HFF := Lib.hid hf
      generalize tform x = f at *
      clear hf
      go_wp2_with (first
        | (go_at_call 54; refine HB.out.mono ?_; rintro e w2 ⟨rfl, hR2, hK2⟩; have hc2 := (HG1.out.kp hK2 hgr2 hgr2).forms 8 _ rfl)
        | (go_at_call 66; refine (HE.out _).mono ?_; rintro e w3 ⟨rfl, rfl⟩)
        | (go_at_call 37; refine (HFo.out _ hK2).mono ?_; rintro e w4 ⟨rfl, hgr4⟩))
      go_ret2
      rw [HXF.out]
      exact ⟨⟨rfl, p + 12, hR2.nw hgr4.nw, HR2.out⟩, (HK.out.trans hK2 (.inl rfl) (.inl rfl)).nw' hgr4.nw⟩
    · have hfq : ((tform x : Int) != 2) = true := by simp; omega
      have HXF := Lib.hid (show X = .error 8 from by rw [HXE.out, if_neg hf])
      have HFF := Lib.hid hf
      generalize tform x = f at *
      clear hf
      go_wp2_with (first
        | (go_at_call 54; refine HB.out.mono ?_; rintro e w2 ⟨rfl, hR2, hK2⟩; have hc2 := (HG1.out.kp hK2 hgr2 hgr2).forms 8 _ rfl)
        | (go_at_call 66; refine (HE.out _).mono ?_; rintro e w3 ⟨rfl, rfl⟩)
        | (go_at_call 37; refine (HFo.out _ hK2).mono ?_; rintro e w4 ⟨rfl, hgr4⟩))
      go_ret2
      rw [HXF.out]
      exact ⟨⟨by omega, _, rfl⟩, (HK.out.trans hK2 (.inl rfl) (.inl rfl)).nw' hgr4.nw⟩

set_option maxRecDepth 100000 in
theorem getChange_3 (w : World) (gr b : Nat) (bytes : List Nat) (pos : Nat) (h : Rdr w gr b bytes pos) (hG : Gl w) (hgr2 : 2 ≤ gr) (r : List Bool) (hX : gform 4 0 (rest bytes pos) = some (3, r)) :
    Calls Tryz.prog 55 #[.pointer (some ⟨gr, 0, none⟩)] w (RGot w gr b bytes (fun x e => .returned (.tuple #[.int .i64 x, .int .i64 (e : Int)])) (gchg (rest bytes pos))) := by
  have HF := getForm_any w gr b bytes pos h
  have hgx : gchg (rest bytes pos) = if r.length < 32 then .error 3 else if tform (sext (bv (r.take 32)) 32) = 3 then .ok (sext (bv (r.take 32)) 32, r.drop 32) else .error 8 := by
    unfold gchg
    rw [hX]
    rfl
  rw [hX] at HF
  generalize gchg (rest bytes pos) = X at *
  have HXE := Lib.hid hgx
  have HF := Lib.hid HF
  have HG := Lib.hid hG
  clear h hG hgx
  go_enter Tryz.func55, Tryz.ntmps55
  go_wp2_with (go_at_call 85; refine HF.out.mono ?_; rintro e w1 ⟨⟨rfl, p, hR, hr⟩, hK⟩; have hc1 : w1.cell? ⟨0, 11, none⟩ = some (.int .i64 32) := (HG.out.kp hK hgr2 hgr2).forms 11 _ rfl)
  have hG1 := HG.out.kp hK hgr2 hgr2
  have hwi := hR.within
  have hlen := rest_length bytes p
  rw [hr] at hlen
  by_cases hfit : r.length < 32
  · have HXE := Lib.hid (show X = .error 3 from by rw [HXE.out, if_pos hfit])
    have HB := Lib.hid (RBits_eof w1 gr b bytes p 32 hR (by omega) (by omega))
    have HE := Lib.hid fun W : World => extend_any W 0 3 (by omega) (by omega)
    simp only [twid] at HE
    have HK := Lib.hid hK
    clear hR hG1 hK hr
    go_wp2_with (first
      | (go_at_call 54; refine HB.out.mono ?_; rintro e w2 ⟨rfl, hD⟩; have hc2 := cell_old (v := .int .i64 32) (a := ⟨0, 11, none⟩) hD.nw (by have := HG.out.lt; have := HK.out.size; simp only; omega) hc1)
      | (go_at_call 66; refine (HE.out _).mono ?_; rintro e w3 ⟨rfl, rfl⟩))
    go_ret2
    rw [HXE.out]
    exact ⟨⟨by omega, _, rfl⟩, HK.out.nw' hD.nw⟩
  · have HXE := Lib.hid (show X = if tform (sext (bv (r.take 32)) 32) = 3 then .ok (sext (bv (r.take 32)) 32, r.drop 32) else .error 8 from by rw [HXE.out, if_neg hfit])
    have hB := RBits_ok w1 gr b bytes p 32 hR (by omega) (by omega)
    rw [hr] at hB
    have hr2 := rest_take (n := 32) hr
    obtain ⟨hb1, hb2⟩ := bits_take (r := r) (n := 32) (by omega)
    generalize bv (r.take 32) = u at *
    have hu : u < 18446744073709551616 := by
      have h64 : 2 ^ 32 ≤ 2 ^ 64 := Nat.pow_le_pow_right (by omega) (by omega)
      rw [pow64] at h64
      omega
    have hE0 : ∀ W : World, Calls Tryz.prog 66 #[.int .u64 (u : Int), .int .i64 32] W fun e w' => e = .returned (.int .i64 (sext u 32)) ∧ W = w' := by
      intro W
      have h := extend_any W u 3 hu (by omega)
      simp only [twid] at h
      rwa [Nat.mod_eq_of_lt hb2] at h
    have hxI : I6 (sext u 32) := sext_in (k := 3) (by omega) (by simpa [twid] using hb2)
    generalize sext u 32 = x at *
    have HB := Lib.hid hB
    have HE := Lib.hid hE0
    have HR2 := Lib.hid hr2
    have HK := Lib.hid hK
    have HFo := Lib.hid fun W (hN : Kp gr gr w1 W) => formOf_any W x hxI (hG1.kp hN hgr2 hgr2)
    have HG1 := Lib.hid hG1
    clear hB hE0 hr2 hK hR hr hb1 hb2 hG1
    by_cases hf : tform x = 3
    · have hfq : ((tform x : Int) != 3) = false := by simp; omega
      have HXF := Lib.hid (show X = .ok (x, r.drop 32) from by rw [HXE.out, if_pos hf])
      have HFF := Lib.hid hf
      generalize tform x = f at *
      clear hf
      go_wp2_with (first
        | (go_at_call 54; refine HB.out.mono ?_; rintro e w2 ⟨rfl, hR2, hK2⟩; have hc2 := (HG1.out.kp hK2 hgr2 hgr2).forms 11 _ rfl)
        | (go_at_call 66; refine (HE.out _).mono ?_; rintro e w3 ⟨rfl, rfl⟩)
        | (go_at_call 37; refine (HFo.out _ hK2).mono ?_; rintro e w4 ⟨rfl, hgr4⟩))
      go_ret2
      rw [HXF.out]
      exact ⟨⟨rfl, p + 32, hR2.nw hgr4.nw, HR2.out⟩, (HK.out.trans hK2 (.inl rfl) (.inl rfl)).nw' hgr4.nw⟩
    · have hfq : ((tform x : Int) != 3) = true := by simp; omega
      have HXF := Lib.hid (show X = .error 8 from by rw [HXE.out, if_neg hf])
      have HFF := Lib.hid hf
      generalize tform x = f at *
      clear hf
      go_wp2_with (first
        | (go_at_call 54; refine HB.out.mono ?_; rintro e w2 ⟨rfl, hR2, hK2⟩; have hc2 := (HG1.out.kp hK2 hgr2 hgr2).forms 11 _ rfl)
        | (go_at_call 66; refine (HE.out _).mono ?_; rintro e w3 ⟨rfl, rfl⟩)
        | (go_at_call 37; refine (HFo.out _ hK2).mono ?_; rintro e w4 ⟨rfl, hgr4⟩))
      go_ret2
      rw [HXF.out]
      exact ⟨⟨by omega, _, rfl⟩, (HK.out.trans hK2 (.inl rfl) (.inl rfl)).nw' hgr4.nw⟩

set_option maxRecDepth 100000 in
theorem getChange_4 (w : World) (gr b : Nat) (bytes : List Nat) (pos : Nat) (h : Rdr w gr b bytes pos) (hG : Gl w) (hgr2 : 2 ≤ gr) (r : List Bool) (hX : gform 4 0 (rest bytes pos) = some (4, r)) :
    Calls Tryz.prog 55 #[.pointer (some ⟨gr, 0, none⟩)] w (RGot w gr b bytes (fun x e => .returned (.tuple #[.int .i64 x, .int .i64 (e : Int)])) (gchg (rest bytes pos))) := by
  have HF := getForm_any w gr b bytes pos h
  have hgx : gchg (rest bytes pos) = if r.length < 64 then .error 3 else if tform (sext (bv (r.take 64)) 64) = 4 then .ok (sext (bv (r.take 64)) 64, r.drop 64) else .error 8 := by
    unfold gchg
    rw [hX]
    rfl
  rw [hX] at HF
  generalize gchg (rest bytes pos) = X at *
  have HXE := Lib.hid hgx
  have HF := Lib.hid HF
  have HG := Lib.hid hG
  clear h hG hgx
  go_enter Tryz.func55, Tryz.ntmps55
  go_wp2_with (go_at_call 85; refine HF.out.mono ?_; rintro e w1 ⟨⟨rfl, p, hR, hr⟩, hK⟩; have hc1 : w1.cell? ⟨0, 14, none⟩ = some (.int .i64 64) := (HG.out.kp hK hgr2 hgr2).forms 14 _ rfl)
  have hG1 := HG.out.kp hK hgr2 hgr2
  have hwi := hR.within
  have hlen := rest_length bytes p
  rw [hr] at hlen
  by_cases hfit : r.length < 64
  · have HXE := Lib.hid (show X = .error 3 from by rw [HXE.out, if_pos hfit])
    have HB := Lib.hid (RBits_eof w1 gr b bytes p 64 hR (by omega) (by omega))
    have HE := Lib.hid fun W : World => extend_any W 0 4 (by omega) (by omega)
    simp only [twid] at HE
    have HK := Lib.hid hK
    clear hR hG1 hK hr
    go_wp2_with (first
      | (go_at_call 54; refine HB.out.mono ?_; rintro e w2 ⟨rfl, hD⟩; have hc2 := cell_old (v := .int .i64 64) (a := ⟨0, 14, none⟩) hD.nw (by have := HG.out.lt; have := HK.out.size; simp only; omega) hc1)
      | (go_at_call 66; refine (HE.out _).mono ?_; rintro e w3 ⟨rfl, rfl⟩))
    go_ret2
    rw [HXE.out]
    exact ⟨⟨by omega, _, rfl⟩, HK.out.nw' hD.nw⟩
  · have HXE := Lib.hid (show X = if tform (sext (bv (r.take 64)) 64) = 4 then .ok (sext (bv (r.take 64)) 64, r.drop 64) else .error 8 from by rw [HXE.out, if_neg hfit])
    have hB := RBits_ok w1 gr b bytes p 64 hR (by omega) (by omega)
    rw [hr] at hB
    have hr2 := rest_take (n := 64) hr
    obtain ⟨hb1, hb2⟩ := bits_take (r := r) (n := 64) (by omega)
    generalize bv (r.take 64) = u at *
    have hu : u < 18446744073709551616 := by
      have h64 : 2 ^ 64 ≤ 2 ^ 64 := Nat.pow_le_pow_right (by omega) (by omega)
      rw [pow64] at h64
      omega
    have hE0 : ∀ W : World, Calls Tryz.prog 66 #[.int .u64 (u : Int), .int .i64 64] W fun e w' => e = .returned (.int .i64 (sext u 64)) ∧ W = w' := by
      intro W
      have h := extend_any W u 4 hu (by omega)
      simp only [twid] at h
      rwa [Nat.mod_eq_of_lt hb2] at h
    have hxI : I6 (sext u 64) := sext_in (k := 4) (by omega) (by simpa [twid] using hb2)
    generalize sext u 64 = x at *
    have HB := Lib.hid hB
    have HE := Lib.hid hE0
    have HR2 := Lib.hid hr2
    have HK := Lib.hid hK
    have HFo := Lib.hid fun W (hN : Kp gr gr w1 W) => formOf_any W x hxI (hG1.kp hN hgr2 hgr2)
    have HG1 := Lib.hid hG1
    clear hB hE0 hr2 hK hR hr hb1 hb2 hG1
    by_cases hf : tform x = 4
    · have hfq : ((tform x : Int) != 4) = false := by simp; omega
      have HXF := Lib.hid (show X = .ok (x, r.drop 64) from by rw [HXE.out, if_pos hf])
      have HFF := Lib.hid hf
      generalize tform x = f at *
      clear hf
      go_wp2_with (first
        | (go_at_call 54; refine HB.out.mono ?_; rintro e w2 ⟨rfl, hR2, hK2⟩; have hc2 := (HG1.out.kp hK2 hgr2 hgr2).forms 14 _ rfl)
        | (go_at_call 66; refine (HE.out _).mono ?_; rintro e w3 ⟨rfl, rfl⟩)
        | (go_at_call 37; refine (HFo.out _ hK2).mono ?_; rintro e w4 ⟨rfl, hgr4⟩))
      go_ret2
      rw [HXF.out]
      exact ⟨⟨rfl, p + 64, hR2.nw hgr4.nw, HR2.out⟩, (HK.out.trans hK2 (.inl rfl) (.inl rfl)).nw' hgr4.nw⟩
    · have hfq : ((tform x : Int) != 4) = true := by simp; omega
      have HXF := Lib.hid (show X = .error 8 from by rw [HXE.out, if_neg hf])
      have HFF := Lib.hid hf
      generalize tform x = f at *
      clear hf
      go_wp2_with (first
        | (go_at_call 54; refine HB.out.mono ?_; rintro e w2 ⟨rfl, hR2, hK2⟩; have hc2 := (HG1.out.kp hK2 hgr2 hgr2).forms 14 _ rfl)
        | (go_at_call 66; refine (HE.out _).mono ?_; rintro e w3 ⟨rfl, rfl⟩)
        | (go_at_call 37; refine (HFo.out _ hK2).mono ?_; rintro e w4 ⟨rfl, hgr4⟩))
      go_ret2
      rw [HXF.out]
      exact ⟨⟨by omega, _, rfl⟩, (HK.out.trans hK2 (.inl rfl) (.inl rfl)).nw' hgr4.nw⟩

theorem getChange_any (w : World) (gr b : Nat) (bytes : List Nat) (pos : Nat) (h : Rdr w gr b bytes pos) (hG : Gl w) (hgr2 : 2 ≤ gr) :
    Calls Tryz.prog 55 #[.pointer (some ⟨gr, 0, none⟩)] w (RGot w gr b bytes (fun x e => .returned (.tuple #[.int .i64 x, .int .i64 (e : Int)])) (gchg (rest bytes pos))) := by
  cases hX : gform 4 0 (rest bytes pos) with
  | some y =>
    obtain ⟨k, r⟩ := y
    obtain ⟨hk, _⟩ := gform_inv hX
    have hk5 : k = 0 ∨ k = 1 ∨ k = 2 ∨ k = 3 ∨ k = 4 := by omega
    rcases hk5 with rfl | rfl | rfl | rfl | rfl
    · exact getChange_0 w gr b bytes pos h hG hgr2 r hX
    · exact getChange_1 w gr b bytes pos h hG hgr2 r hX
    · exact getChange_2 w gr b bytes pos h hG hgr2 r hX
    · exact getChange_3 w gr b bytes pos h hG hgr2 r hX
    · exact getChange_4 w gr b bytes pos h hG hgr2 r hX
  | none =>
    have HF := getForm_any w gr b bytes pos h
    have hgx : gchg (rest bytes pos) = .error 3 := by unfold gchg; rw [hX]
    rw [hX] at HF
    have HF := Lib.hid HF
    rw [hgx]
    clear h hG hX hgx
    go_enter Tryz.func55, Tryz.ntmps55
    go_wp2_with (go_at_call 85; refine HF.out.mono ?_; rintro e w1 ⟨⟨_, k, rfl⟩, hK⟩)
    go_ret2
    exact ⟨⟨by omega, 0, rfl⟩, hK⟩

theorem tgetF_glue (l : List Int) (t d : Int) (m : Nat) (r : List Bool) : glue l (tgetF t d (m + 1) r) =
    match gchg r with
    | .error e => .error e
    | .ok (x, r') => glue (l ++ [wrap64 (t + wrap64 (d + x))]) (tgetF (wrap64 (t + wrap64 (d + x))) (wrap64 (d + x)) m r') := by
  conv => lhs; rw [tgetF]
  cases gchg r with
  | error e => rfl
  | ok x =>
    obtain ⟨v, r'⟩ := x
    simp only
    cases tgetF (wrap64 (t + wrap64 (d + v))) (wrap64 (d + v)) m r' with
    | error e => rfl
    | ok y =>
      obtain ⟨l2, r2⟩ := y
      simp [glue]
theorem E_i64 : ElemT Tryz.prog 48 2 (.int .i64 0) 1 8 := ElemT.mk' Tryz.underlying48 (by kernel_rfl) rfl (by omega)

def TGot (w : World) (gr b : Nat) (bytes : List Nat) (X : Except Nat (List Int × List Bool)) (e : Ending) (w' : World) : Prop :=
  (match X with
   | .ok (l, r) => (∃ b' A c, e = .returned (.tuple #[.slice A l.length c, .int .i64 0]) ∧ Ow w' b' 2 1 A l.length c (cI .i64 l) ∧ w.heap.size ≤ b') ∧ ∃ pos, Rdr w' gr b bytes pos ∧ rest bytes pos = r
   | .error k => e = .returned (.tuple #[.slice none 0 0, .int .i64 (k : Int)]) ∧ k ≠ 0) ∧ Kp gr gr w w'

set_option maxRecDepth 100000 in
theorem tGet_any (w : World) (gr b : Nat) (bytes : List Nat) (pos n : Nat) (h : Rdr w gr b bytes pos) (hb : b < w.heap.size ∨ bytes = []) (hG : Gl w) (hgr2 : 2 ≤ gr) (h1 : 1 ≤ n) (hn : n ≤ 10000) :
    Calls Tryz.prog 28 #[.pointer (some ⟨gr, 0, none⟩), .int .i64 (n : Int)] w (TGot w gr b bytes (tget n (rest bytes pos))) := by
  have hs := hG.lt
  have hgl := h.lt
  have hnil : ∀ W, (binOp .eql 67 (.pointer (some ⟨gr, 0, none⟩)) (.pointer none)).run Tryz.prog W = .ok (.bool false) W := fun _ => by kernel_rfl
  have n0 : ((n : Int) == 0) = false := by rw [beq_eq_false_iff_ne]; omega
  have hwi := h.within
  have hlen := rest_length bytes pos
  obtain ⟨m, rfl⟩ : ∃ m, n = m + 1 := ⟨n - 1, by omega⟩
  have hm : ((m + 1 : Nat) : Int) - 1 = (m : Int) := by omega
  by_cases hfit : (rest bytes pos).length < 64
  · have HB := Lib.hid (RBits_eof w gr b bytes pos 64 h (by omega) (by omega))
    have hX : tget (m + 1) (rest bytes pos) = .error 3 := by simp only [tget]; rw [if_pos hfit]
    rw [hX]
    clear h hG hX
    go_enter Tryz.func28, Tryz.ntmps28
    go_wp2_with (go_at_call 54; refine HB.out.mono ?_; rintro e w1 ⟨rfl, hD⟩)
    go_ret2
    exact ⟨⟨rfl, by omega⟩, hD.nw.kp _ _⟩
  · have hB := RBits_ok w gr b bytes pos 64 h (by omega) (by omega)
    obtain ⟨X, hX⟩ : ∃ X, X = tget (m + 1) (rest bytes pos) := ⟨_, rfl⟩
    have hX0 : X = glue [wrap64 (bv ((rest bytes pos).take 64))] (tgetF (wrap64 (bv ((rest bytes pos).take 64))) 0 m (rest bytes (pos + 64))) := by
      rw [hX, rest_take rfl]
      simp only [tget]
      rw [if_neg hfit]
      cases tgetF (wrap64 (bv ((rest bytes pos).take 64))) 0 m ((rest bytes pos).drop 64) with
      | error e => rfl
      | ok x => rfl
    rw [← hX]
    obtain ⟨_, hu⟩ := bits_take (r := rest bytes pos) (n := 64) (by omega)
    rw [pow64] at hu
    generalize bv ((rest bytes pos).take 64) = u at *
    have HB := Lib.hid hB
    have HX0 := Lib.hid hX0
    have HG := Lib.hid hG
    clear h hG hX hX0 hB hfit hlen hwi
    go_enter Tryz.func28, Tryz.ntmps28
    go_wp2_with (go_at_call 54; refine HB.out.mono ?_; rintro e w1 ⟨rfl, hR1, hK1⟩)
    have hO0 : Ow (w1.alloc (.cells #[.int .i64 (wrap64 u)] 2)) w1.heap.size 2 1 (some ⟨w1.heap.size, 0, none⟩) 1 1 (cI .i64 [wrap64 u]) := by
      have h := Ow.lit w1 2 1 1 #[.int .i64 (wrap64 u)] rfl (by omega)
      simpa using h
    have HO0 := Lib.hid hO0
    have HR1 := Lib.hid (hR1.nw ((Nw.refl _).alloc' (.cells #[.int .i64 (wrap64 u)] 2)))
    have HK1 := Lib.hid (hK1.alloc' (.cells #[.int .i64 (wrap64 u)] 2))
    have hs1 := hK1.size
    clear hO0 hR1 hK1 HB
    go_loopw [8, 9, 10, 36] (fun vt vd vl i wr => ∃ k : Nat, k ≤ m ∧ i = .int .i64 k ∧ ∃ (l : List Int) (t d : Int) (bk : Nat) (Ak : Option Addr) (ck p : Nat), l.length = k + 1 ∧ vl = .slice Ak (k + 1) ck ∧ vt = .int .i64 t ∧ vd = .int .i64 d ∧ Ow wr bk 2 1 Ak (k + 1) ck (cI .i64 l) ∧ w.heap.size ≤ bk ∧
      Rdr wr gr b bytes p ∧ Kp gr gr w wr ∧ X = glue l (tgetF t d (m - k) (rest bytes p))) (fun _ _ _ i _ => m - (intOf i).toNat)
    case atStart => exact ⟨0, by omega, rfl, [wrap64 u], wrap64 u, 0, w1.heap.size, _, 1, pos + 64, rfl, rfl, rfl, rfl, HO0.out, hs1, HR1.out, HK1.out, HX0.out⟩
    case round =>
      obtain ⟨k, hk, rfl, l, t, d, bk, Ak, ck, p, hl, rfl, rfl, rfl, hO, hbk, hR, hK, hX⟩ := hrel
      by_cases hlt : k < m
      · have hkI : (k : Int) < (m : Int) := by omega
        have hC := getChange_any wr gr b bytes p hR (HG.out.kp hK hgr2 hgr2) hgr2
        rw [show m - k = (m - (k + 1)) + 1 from by omega, tgetF_glue] at hX
        have HO := Lib.hid hO
        have HK := Lib.hid hK
        cases hg : gchg (rest bytes p) with
        | error ek =>
          rw [hg] at hC hX
          have HC := Lib.hid hC
          have HX := Lib.hid hX
          clear hC hX hg hR hO hK
          go_wp2_with fail
          refine HC.out.mono ?_
          rintro e w2 ⟨⟨hne, x, rfl⟩, hK2⟩
          have he' : ((ek : Int) == 0) = false := by rw [beq_eq_false_iff_ne]; omega
          go_wp2
          go_ret2
          rw [HX.out]
          exact ⟨⟨rfl, hne⟩, HK.out.trans hK2 (.inl rfl) (.inl rfl)⟩
        | ok y =>
          obtain ⟨x, r'⟩ := y
          rw [hg] at hC hX
          have HC := Lib.hid hC
          have HX := Lib.hid hX
          have hko := hO.cap
          clear hC hX hg hR hO hK
          go_wp2_with fail
          refine HC.out.mono ?_
          rintro e w2 ⟨⟨rfl, p2, hR2, hr2⟩, hK2⟩
          have hO2 := HO.out.kp hK2 (by omega) (by omega)
          have HR2 := Lib.hid hR2
          have HK2 := Lib.hid hK2
          have HRR := Lib.hid hr2
          clear hR2 hK2 hr2
          go_wp2_with (at_builtin; refine wpList_app1 E_i64 rfl (.tmp 52) (.tmp 54) rfl rfl hO2 rfl rfl (by omega) (by omega) ?_; intro b1 A1 c1 w5 g1 g2 g3 g4)
          go_roundw
          case rel =>
            have hs4 := HK2.out.size
            have hsr := HK.out.size
            refine ⟨k + 1, by omega, by go_num, l ++ [wrap64 (t + wrap64 (d + x))], _, _, b1, A1, c1, p2, by simp [hl], rfl, rfl, rfl, by simpa using g1, by rcases g2 with rfl | g2 <;> omega, HR2.out.off g3 (by omega) (by omega) ?_, ?_, ?_⟩
            · rcases hb with hb | hb
              · right; omega
              · exact .inl hb
            · exact (HK.out.trans HK2.out (.inl rfl) (.inl rfl)).trans g3 (.inr (.inr (by omega))) (.inr (.inr (by omega)))
            · rw [HX.out, HRR.out]
          case measure => simp [intOf]; omega
      · obtain rfl : k = m := by omega
        have HX := Lib.hid (show X = .ok (l, rest bytes p) from by rw [hX, Nat.sub_self]; simp [tgetF, glue])
        have HO := Lib.hid hO
        have HK := Lib.hid hK
        clear hX hO hK
        go_wp2
        go_ret2
        rw [HX.out]
        refine ⟨⟨⟨bk, Ak, ck, by rw [hl]; rfl, by rw [hl]; exact HO.out, hbk⟩, p, hR, rfl⟩, HK.out⟩
end Go.Proofs.YtjepaneniodbpaaGreatDoor
