/- Tables of strings by value: what is in a table, and that there is one table alone. -/
import Derived.Test.YtoogadidbbpplaaGreatTable
import Derived.Sort.Walk0
namespace Go.Proofs.YtoogadidbbpplaaGreat
open Go Go.RowKit Go.Sort Go.Shelf Go.Lib

def LtB (a b : ByteArray) : Prop := Op.bytesLess a.toList b.toList = true
theorem ltB_iff {a b : ByteArray} : LtB a b ↔ a.toList < b.toList := by
  unfold LtB
  rw [bytesLess_eq, decide_eq_true_iff]
theorem compactUpTo_spec {zs : List (List UInt8)} (hs : zs.Pairwise fun a b => a ≤ b) : ∀ m, m ≤ zs.length → (∀ y, y ∈ compactUpTo zs.toArray m ↔ y ∈ zs.take m) ∧ (compactUpTo zs.toArray m).Pairwise fun a b => a < b := by
  intro m
  induction m with
  | zero => intro _; simp [compactUpTo]
  | succ m ih =>
    intro hm
    obtain ⟨h1, h2⟩ := ih (by omega)
    have hlt : m < zs.length := by omega
    have hd : ∀ j, j < zs.length → zs.toArray[j]! = zs[j]! := fun j hj => by rw [getElem!_pos zs.toArray j (by simpa using hj), getElem!_pos zs j hj]; simp
    have hdm : zs.toArray[m]! = zs[m] := by rw [hd m hlt, getElem!_pos zs m hlt]
    rw [compactUpTo_succ, List.take_succ_eq_append_getElem hlt]
    rw [List.pairwise_iff_getElem] at hs
    by_cases h0 : m = 0
    · subst h0
      have hk : keeps zs.toArray 0 = true := keeps_lt_one _ 0 (by omega)
      rw [if_pos hk, hdm]
      constructor
      · intro y; simp [compactUpTo]
      · simp [compactUpTo]
    · have hdp : zs.toArray[m - 1]! = zs[m - 1] := by rw [hd (m - 1) (by omega), getElem!_pos zs (m - 1) (by omega)]
      by_cases he : zs[m] = zs[m - 1]
      · have hk : keeps zs.toArray m = false := keeps_neg (by omega) (by rw [hdm, hdp]; exact he)
        rw [hk]
        simp only [Bool.false_eq_true, if_false, List.append_nil]
        refine ⟨fun y => ?_, h2⟩
        rw [h1 y, List.mem_append, List.mem_singleton]
        constructor
        · exact .inl
        · rintro (h | rfl)
          · exact h
          · rw [he]
            rw [List.mem_take_iff_getElem]
            exact ⟨m - 1, by omega, rfl⟩
      · have hk : keeps zs.toArray m = true := keeps_pos (by rw [hdm, hdp]; exact he)
        rw [if_pos hk, hdm]
        constructor
        · intro y
          rw [List.mem_append, List.mem_append, h1 y]
        · rw [List.pairwise_append]
          refine ⟨h2, List.pairwise_singleton _ _, fun a ha b hb => ?_⟩
          obtain rfl := List.mem_singleton.1 hb
          have ha2 := (h1 a).1 ha
          rw [List.mem_take_iff_getElem] at ha2
          obtain ⟨j, hj, rfl⟩ := ha2
          have hle := hs j m (by omega) hlt (by omega)
          have hne : ¬ zs[j] = zs[m] := by
            intro hjm
            have h3 := hs (m - 1) m (by omega) hlt (by omega)
            have h4 : zs[j] ≤ zs[m - 1] := by
              by_cases hjj : j = m - 1
              · subst hjj; exact List.le_refl _
              · exact hs j (m - 1) (by omega) (by omega) (by omega)
            rw [hjm] at h4
            exact he (List.le_antisymm h4 h3)
          rcases List.le_iff_lt_or_eq.1 hle with h | h
          · exact h
          · exact (hne h).elim
theorem sorted_le (zs : List (List UInt8)) : (zs.mergeSort fun x y => decide (x ≤ y)).Pairwise fun a b => a ≤ b := by
  have := List.pairwise_mergeSort (le := fun (x y : List UInt8) => decide (x ≤ y)) (by intro a b c; simp; exact fun h1 h2 => List.le_trans h1 h2) (by intro a b; simp; exact List.le_total a b) zs
  simpa using this
theorem tbl_spec (l : List ByteArray) : (∀ y, y ∈ tbl l ↔ y ∈ bys l) ∧ (tbl l).Pairwise fun a b => a < b := by
  have h := compactUpTo_spec (sorted_le (bys l)) _ (Nat.le_refl _)
  unfold tbl compact
  refine ⟨fun y => ?_, h.2⟩
  rw [h.1 y, List.take_length, (List.mergeSort_perm _ _).mem_iff]
theorem asc_nodup {l : List (List UInt8)} (h : l.Pairwise fun a b => a < b) : l.Nodup := h.imp fun {a b} h e => by subst e; exact List.lt_irrefl _ h
/-- there is one table alone -/
theorem tbl_one {out l : List ByteArray} (h1 : out.Pairwise LtB) (h2 : ∀ y, y ∈ out ↔ y ∈ l) : bys out = tbl l := by
  obtain ⟨t1, t2⟩ := tbl_spec l
  have h3 : (bys out).Pairwise fun a b => a < b := by
    unfold bys
    rw [List.pairwise_map]
    exact h1.imp fun h => ltB_iff.1 h
  refine List.Perm.eq_of_pairwise (le := fun a b => a < b) ?_ h3 t2 ?_
  · intro a b _ _ h4 h5
    exact (List.lt_irrefl _ (List.lt_trans h4 h5)).elim
  · rw [List.perm_ext_iff_of_nodup (asc_nodup h3) (asc_nodup t2)]
    intro y
    rw [t1 y]
    unfold bys
    rw [List.mem_map, List.mem_map]
    constructor
    · rintro ⟨x, hx, rfl⟩; exact ⟨x, (h2 x).1 hx, rfl⟩
    · rintro ⟨x, hx, rfl⟩; exact ⟨x, (h2 x).2 hx, rfl⟩
/-- a string put in its place -/
theorem asc_ins {out : List ByteArray} {x : ByteArray} {p : Nat} (h : out.Pairwise LtB) (hl : ∀ y ∈ out.take p, LtB y x) (hr : ∀ (h : p < out.length), ¬ LtB out[p] x ∧ ¬ out[p].toList = x.toList) : (out.take p ++ x :: out.drop p).Pairwise LtB := by
  rw [List.pairwise_append]
  refine ⟨h.sublist (List.take_sublist _ _), ?_, ?_⟩
  · rw [List.pairwise_cons]
    refine ⟨fun y hy => ?_, h.sublist (List.drop_sublist _ _)⟩
    have hlt : p < out.length := by
      rcases Nat.lt_or_ge p out.length with h | h
      · exact h
      · rw [List.drop_eq_nil_of_le h] at hy; cases hy
    obtain ⟨r1, r2⟩ := hr hlt
    have hx : LtB x out[p] := by
      rcases bl_total out[p].toList x.toList with a | a | a
      · exact (r1 a).elim
      · exact (r2 a).elim
      · exact a
    rw [List.drop_eq_getElem_cons hlt] at hy
    rcases List.mem_cons.1 hy with rfl | hy
    · exact hx
    · have h3 := h.sublist (List.drop_sublist p out)
      rw [List.drop_eq_getElem_cons hlt] at h3
      exact bl_trans _ _ _ hx ((List.pairwise_cons.1 h3).1 y hy)
  · intro a ha b hb
    rcases List.mem_cons.1 hb with rfl | hb
    · exact hl a ha
    · have h3 : (out.take p ++ out.drop p).Pairwise LtB := by rw [List.take_append_drop]; exact h
      exact (List.pairwise_append.1 h3).2.2 a ha b hb
theorem mem_ins {out : List ByteArray} {x y : ByteArray} {p : Nat} : y ∈ out.take p ++ x :: out.drop p ↔ y ∈ out ∨ y = x := by
  rw [List.mem_append, List.mem_cons]
  constructor
  · rintro (h | h | h)
    · exact .inl (List.mem_of_mem_take h)
    · exact .inr h
    · exact .inl (List.mem_of_mem_drop h)
  · rintro (h | h)
    · rw [← List.take_append_drop p out, List.mem_append] at h
      rcases h with h | h
      · exact .inl h
      · exact .inr (.inr h)
    · exact .inr (.inl h)
/-- where a string stands in a table -/
theorem place (out : List ByteArray) (x : ByteArray) : ∃ p, p ≤ out.length ∧ (∀ y ∈ out.take p, LtB y x) ∧ ∀ (h : p < out.length), ¬ LtB out[p] x := by
  induction out with
  | nil => exact ⟨0, Nat.le_refl _, by simp, fun h => by simp at h⟩
  | cons a out ih =>
    by_cases h : LtB a x
    · obtain ⟨p, h1, h2, h3⟩ := ih
      refine ⟨p + 1, by simpa using h1, ?_, fun hlt => ?_⟩
      · intro y hy
        rw [List.take_succ_cons] at hy
        rcases List.mem_cons.1 hy with rfl | hy
        · exact h
        · exact h2 y hy
      · have := h3 (by simpa using hlt)
        simpa using this
    · exact ⟨0, Nat.zero_le _, by simp, fun _ => by simpa using h⟩
end Go.Proofs.YtoogadidbbpplaaGreat
