/- Labels, and lists of labels, in a strict total order. -/
import Derived.Test.YtoogadidbbpplaaGreatEqM
import Derived.Shelf.SlSortCmp.WholeK
namespace Go.Proofs.YtoogadidbbpplaaGreat
open Go Go.RowKit Go.Sort Go.Shelf

/-- a comparison that says which of two comes first -/
structure Cmp3 {α : Type} (f : α → α → Int) : Prop where
  inn : ∀ a b, f a b = -1 ∨ f a b = 0 ∨ f a b = 1
  swap : ∀ a b, f a b = - f b a
  zero : ∀ a b, f a b = 0 ↔ a = b
  trans : ∀ a b c, f a b = -1 → f b c = -1 → f a c = -1
theorem cmpS_swap (a b : ByteArray) : cmpS a b = - cmpS b a := by
  rcases bl_total a.toList b.toList with h | h | h
  · rw [cmpS_neg.2 h, cmpS_pos.2 h]
  · obtain rfl := bytes_ext h
    rw [cmpS_zero.2 rfl]; rfl
  · rw [cmpS_pos.2 h, cmpS_neg.2 h]; rfl
theorem cmp3_S : Cmp3 cmpS where
  inn := cmpS_in
  swap := cmpS_swap
  zero _ _ := cmpS_zero
  trans _ _ _ h k := cmpS_neg.2 (bl_trans _ _ _ (cmpS_neg.1 h) (cmpS_neg.1 k))
/-- one comparison behind another -/
theorem Cmp3.pair {α β : Type} {f : α → α → Int} {h : β → β → Int} (F : Cmp3 f) (H : Cmp3 h) : Cmp3 fun x y : α × β => if f x.1 y.1 ≠ 0 then f x.1 y.1 else h x.2 y.2 where
  inn a b := by
    by_cases e : f a.1 b.1 = 0
    · rw [if_neg (fun n => n e)]; exact H.inn _ _
    · rw [if_pos e]; exact F.inn _ _
  swap a b := by
    have s := F.swap a.1 b.1
    by_cases e : f a.1 b.1 = 0
    · have e2 : f b.1 a.1 = 0 := by omega
      rw [if_neg (fun n => n e), if_neg (fun n => n e2)]; exact H.swap _ _
    · have e2 : ¬ f b.1 a.1 = 0 := by omega
      rw [if_pos e, if_pos e2]; exact s
  zero a b := by
    by_cases e : f a.1 b.1 = 0
    · rw [if_neg (fun n => n e), H.zero]
      have := (F.zero _ _).1 e
      exact ⟨fun h => Prod.ext this h, fun h => by rw [h]⟩
    · rw [if_pos e]
      exact ⟨fun h => (e h).elim, fun h => (e ((F.zero _ _).2 (by rw [h]))).elim⟩
  trans a b c := by
    intro h k
    by_cases e : f a.1 b.1 = 0
    · have ea := (F.zero _ _).1 e
      rw [if_neg (fun n => n e)] at h
      by_cases e2 : f b.1 c.1 = 0
      · rw [if_neg (fun n => n e2)] at k
        rw [← ea] at e2
        rw [if_neg (fun n => n e2)]
        exact H.trans _ _ _ h k
      · rw [if_pos e2] at k
        rw [← ea] at e2 k
        rw [if_pos e2]
        exact k
    · rw [if_pos e] at h
      have hk : f a.1 c.1 = -1 := by
        by_cases e2 : f b.1 c.1 = 0
        · rw [← (F.zero _ _).1 e2]; exact h
        · rw [if_pos e2] at k
          exact F.trans _ _ _ h k
      have e3 : ¬ f a.1 c.1 = 0 := by omega
      rw [if_pos e3]
      exact hk
theorem cmp3_L : Cmp3 cmpL := cmp3_S.pair cmp3_S
theorem cmpLs_cons (x y : Lab) (a b : List Lab) : cmpLs (x :: a) (y :: b) = if cmpL x y ≠ 0 then cmpL x y else cmpLs a b := rfl
theorem cmp3_Ls : Cmp3 cmpLs where
  inn := cmpLs_in
  swap := by
    intro a
    induction a with
    | nil => intro b; cases b <;> rfl
    | cons x a ih =>
      intro b
      cases b with
      | nil => rfl
      | cons y b =>
        rw [cmpLs_cons, cmpLs_cons]
        have s := cmp3_L.swap x y
        by_cases e : cmpL x y = 0
        · rw [if_neg (by simp [e]), if_neg (by omega)]; exact ih b
        · rw [if_pos e, if_pos (by omega)]; exact s
  zero := cmpLs_zero
  trans := by
    intro a
    induction a with
    | nil =>
      intro b c h k
      cases c with
      | nil => cases b with
        | nil => exact k
        | cons y b => exact absurd k (by show ¬ (1 : Int) = -1; omega)
      | cons z c => rfl
    | cons x a ih =>
      intro b c h k
      cases b with
      | nil => exact absurd h (by show ¬ (1 : Int) = -1; omega)
      | cons y b =>
        cases c with
        | nil => exact absurd k (by show ¬ (1 : Int) = -1; omega)
        | cons z c =>
          rw [cmpLs_cons] at h k ⊢
          by_cases e : cmpL x y = 0
          · have ea := (cmp3_L.zero _ _).1 e
            rw [if_neg (by simp [e])] at h
            subst ea
            by_cases e2 : cmpL x z = 0
            · rw [if_neg (by simp [e2])] at k ⊢
              exact ih _ _ h k
            · rw [if_pos e2] at k ⊢
              exact k
          · rw [if_pos e] at h
            have hk : cmpL x z = -1 := by
              by_cases e2 : cmpL y z = 0
              · rw [← (cmp3_L.zero _ _).1 e2]; exact h
              · rw [if_pos e2] at k
                exact cmp3_L.trans _ _ _ h k
            rw [if_pos (by omega)]
            exact hk
theorem Cmp3.lt {α β : Type} {f : β → β → Int} (F : Cmp3 f) {κ : α → β} {x y : α} : ltOf (fun x y : α => f (κ x) (κ y)) x y = true ↔ f (κ x) (κ y) = -1 := by
  unfold ltOf
  rw [decide_eq_true_iff]
  have := F.inn (κ x) (κ y)
  show f (κ x) (κ y) < 0 ↔ _
  omega
theorem Cmp3.swo {α β : Type} {f : β → β → Int} (F : Cmp3 f) (κ : α → β) : SWO (ltOf fun x y : α => f (κ x) (κ y)) where
  irrefl x := by
    rw [Bool.eq_false_iff]
    intro h
    rw [F.lt, (F.zero _ _).2 rfl] at h
    cases h
  trans x y z h1 h2 := by
    rw [F.lt] at *
    exact F.trans _ _ _ h1 h2
  ntrans x y z h1 h2 := by
    rw [Bool.eq_false_iff] at *
    intro h
    rw [ne_eq, F.lt] at *
    have s1 := F.swap (κ x) (κ y)
    have s2 := F.swap (κ y) (κ z)
    rcases F.inn (κ x) (κ y) with a | a | a
    · exact h1 a
    · rw [(F.zero _ _).1 a] at h; exact h2 h
    · exact h2 (F.trans _ _ _ (by omega) h)
end Go.Proofs.YtoogadidbbpplaaGreat
