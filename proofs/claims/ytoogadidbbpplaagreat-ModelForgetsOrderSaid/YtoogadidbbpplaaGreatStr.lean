/- Strings compared: the order of their bytes, cmp.Compare, the reference's order. -/
import Derived.Test.YtoogadidbbpplaaGreatLarge
import Derived.Laws.Cover1
namespace Go.Proofs.YtoogadidbbpplaaGreat
open Go Go.RowKit Go.Sort

theorem bl_irrefl : ∀ l : List UInt8, Op.bytesLess l l = false := by
  intro l
  induction l with
  | nil => rfl
  | cons a l ih => simp [Op.bytesLess, ih]
theorem bl_asymm : ∀ a b : List UInt8, Op.bytesLess a b = true → Op.bytesLess b a = false := by
  intro a
  induction a with
  | nil => intro b h; cases b <;> rfl
  | cons x a ih =>
    intro b h
    cases b with
    | nil => simp [Op.bytesLess] at h
    | cons y b =>
      simp only [Op.bytesLess, Bool.or_eq_true, decide_eq_true_eq, Bool.and_eq_true, beq_iff_eq, Bool.or_eq_false_iff, decide_eq_false_iff_not, Bool.and_eq_false_iff, beq_eq_false_iff_ne] at h ⊢
      rcases h with h | ⟨rfl, h⟩
      · refine ⟨?_, .inl ?_⟩
        · intro h'; exact UInt8.lt_irrefl _ (UInt8.lt_trans h h')
        · rintro rfl; exact UInt8.lt_irrefl _ h
      · exact ⟨UInt8.lt_irrefl _, .inr (ih b h)⟩
theorem u8_tri (x y : UInt8) : x < y ∨ x = y ∨ y < x := by
  rcases Nat.lt_trichotomy x.toNat y.toNat with h | h | h
  · exact .inl (UInt8.lt_iff_toNat_lt.2 h)
  · exact .inr (.inl (UInt8.toNat_inj.1 h))
  · exact .inr (.inr (UInt8.lt_iff_toNat_lt.2 h))
theorem bl_total : ∀ a b : List UInt8, Op.bytesLess a b = true ∨ a = b ∨ Op.bytesLess b a = true := by
  intro a
  induction a with
  | nil => intro b; cases b with | nil => exact .inr (.inl rfl) | cons _ _ => exact .inl rfl
  | cons x a ih =>
    intro b
    cases b with
    | nil => exact .inr (.inr rfl)
    | cons y b =>
      simp only [Op.bytesLess, Bool.or_eq_true, decide_eq_true_eq, Bool.and_eq_true, beq_iff_eq]
      rcases u8_tri x y with h | rfl | h
      · exact .inl (.inl h)
      · rcases ih b with h | rfl | h
        · exact .inl (.inr ⟨rfl, h⟩)
        · exact .inr (.inl rfl)
        · exact .inr (.inr (.inr ⟨rfl, h⟩))
      · exact .inr (.inr (.inl h))
theorem bl_trans : ∀ a b c : List UInt8, Op.bytesLess a b = true → Op.bytesLess b c = true → Op.bytesLess a c = true := by
  intro a
  induction a with
  | nil =>
    intro b c h1 h2
    cases c with
    | nil => cases b <;> simp [Op.bytesLess] at h2
    | cons z c => rfl
  | cons x a ih =>
    intro b c h1 h2
    cases b with
    | nil => simp [Op.bytesLess] at h1
    | cons y b =>
      cases c with
      | nil => simp [Op.bytesLess] at h2
      | cons z c =>
        simp only [Op.bytesLess, Bool.or_eq_true, decide_eq_true_eq, Bool.and_eq_true, beq_iff_eq] at h1 h2 ⊢
        rcases h1 with h1 | ⟨rfl, h1⟩
        · rcases h2 with h2 | ⟨rfl, h2⟩
          · exact .inl (UInt8.lt_trans h1 h2)
          · exact .inl h1
        · rcases h2 with h2 | ⟨rfl, h2⟩
          · exact .inl h2
          · exact .inr ⟨rfl, ih b c h1 h2⟩
theorem bytes_ext {a b : ByteArray} (h : a.toList = b.toList) : a = b := by
  rw [ByteArray.toList_eq, ByteArray.toList_eq] at h
  obtain ⟨⟨x⟩⟩ := a
  obtain ⟨⟨y⟩⟩ := b
  simp at h
  rw [h]

/-- strings compared: -1, 0, 1 -/
def cmpS (a b : ByteArray) : Int := if Op.bytesLess a.toList b.toList = true then -1 else if (a.toList == b.toList) = true then 0 else 1
theorem cmpS_zero {a b : ByteArray} : cmpS a b = 0 ↔ a = b := by
  unfold cmpS
  constructor
  · intro h
    split at h
    · cases h
    · split at h
      · rename_i e; exact bytes_ext (by simpa using e)
      · cases h
  · rintro rfl
    rw [if_neg (by rw [bl_irrefl]; simp), if_pos (by simp)]
theorem cmpS_neg {a b : ByteArray} : cmpS a b = -1 ↔ Op.bytesLess a.toList b.toList = true := by
  unfold cmpS
  split
  · rename_i h; exact ⟨fun _ => h, fun _ => rfl⟩
  · rename_i h
    constructor
    · intro e; split at e <;> cases e
    · intro e; exact absurd e h
theorem cmpS_pos {a b : ByteArray} : cmpS a b = 1 ↔ Op.bytesLess b.toList a.toList = true := by
  rcases bl_total a.toList b.toList with h | h | h
  · rw [show cmpS a b = -1 from cmpS_neg.2 h, bl_asymm _ _ h]; simp
  · rw [show cmpS a b = 0 from cmpS_zero.2 (bytes_ext h), h, bl_irrefl]; simp
  · constructor
    · intro _; exact h
    · intro _
      unfold cmpS
      rw [if_neg (by rw [bl_asymm _ _ h]; simp), if_neg]
      intro e
      have e2 : a.toList = b.toList := by simpa using e
      rw [e2, bl_irrefl] at h
      cases h
theorem cmpS_in (a b : ByteArray) : cmpS a b = -1 ∨ cmpS a b = 0 ∨ cmpS a b = 1 := by unfold cmpS; split; exact .inl rfl; split; exact .inr (.inl rfl); exact .inr (.inr rfl)

theorem isNaN_any (w : World) (a : ByteArray) : Calls Tryz.prog 86 #[.string a] w fun e w' => e = .returned (.bool false) ∧ w = w' := by
  go_enter Tryz.func86, Tryz.ntmps86
  go_wp2
  go_ret
  exact ⟨by simp, rfl⟩
theorem CompareS_any (w : World) (a b : ByteArray) : Calls Tryz.prog 63 #[.string a, .string b] w fun e w' => e = .returned (.int .i64 (cmpS a b)) ∧ w = w' := by
  have HC := Lib.hid (show cmpS a b = (if Op.bytesLess a.toList b.toList = true then -1 else if (a.toList == b.toList) = true then 0 else 1) from rfl)
  generalize cmpS a b = C at *
  cases h1 : Op.bytesLess a.toList b.toList with
  | true =>
    have hC := HC.out
    rw [if_pos h1] at hC
    subst hC
    go_enter Tryz.func63, Tryz.ntmps63
    go_wp2_with (go_at_call 86; refine (isNaN_any _ _).mono ?_; rintro e w1 ⟨rfl, hw⟩; subst hw)
    go_ret
    exact ⟨rfl, rfl⟩
  | false =>
    cases h2 : (a.toList == b.toList) with
    | true =>
      have hC := HC.out
      rw [if_neg (by rw [h1]; simp), if_pos h2] at hC
      subst hC
      go_enter Tryz.func63, Tryz.ntmps63
      go_wp2_with (go_at_call 86; refine (isNaN_any _ _).mono ?_; rintro e w1 ⟨rfl, hw⟩; subst hw)
      go_ret
      exact ⟨rfl, rfl⟩
    | false =>
      have hC := HC.out
      rw [if_neg (by rw [h1]; simp), if_neg (by rw [h2]; simp)] at hC
      subst hC
      go_enter Tryz.func63, Tryz.ntmps63
      go_wp2_with (go_at_call 86; refine (isNaN_any _ _).mono ?_; rintro e w1 ⟨rfl, hw⟩; subst hw)
      go_ret
      exact ⟨rfl, rfl⟩
theorem order_any (w : World) (a b : ByteArray) : Calls Tryz.prog 56 #[.string a, .string b] w fun e w' => e = .returned (.int .i64 (cmpS a b)) ∧ w = w' := by
  have HC := Lib.hid (show cmpS a b = (if Op.bytesLess a.toList b.toList = true then -1 else if (a.toList == b.toList) = true then 0 else 1) from rfl)
  generalize cmpS a b = C at *
  cases h1 : Op.bytesLess a.toList b.toList with
  | true =>
    have hC := HC.out
    rw [if_pos h1] at hC
    subst hC
    go_enter Tryz.func56, Tryz.ntmps56
    go_wp2
    go_ret
    exact ⟨rfl, rfl⟩
  | false =>
    cases h2 : (a.toList == b.toList) with
    | true =>
      have hC := HC.out
      rw [if_neg (by rw [h1]; simp), if_pos h2] at hC
      subst hC
      go_enter Tryz.func56, Tryz.ntmps56
      go_wp2
      go_ret
      exact ⟨rfl, rfl⟩
    | false =>
      have hC := HC.out
      rw [if_neg (by rw [h1]; simp), if_neg (by rw [h2]; simp)] at hC
      subst hC
      go_enter Tryz.func56, Tryz.ntmps56
      go_wp2
      go_ret
      exact ⟨rfl, rfl⟩
end Go.Proofs.YtoogadidbbpplaaGreat
