/- What dictval.Get reads: the plain law behind its walk. -/
import Derived.Test.YtbdpimnbjonhlaaChecked
import Derived.Test.YtbdpimnbjonhlaaGetD
import Derived.Test.YtbdpimnbjonhlaaWidth
namespace Go.Proofs.Ytbdpimnbjonhlaa
open Go Go.RowKit Go.Maps

/-- an ascending list below K has at most K elements -/
theorem asc_below (d : List Nat) (K : Nat) (h : d.Pairwise (· < ·)) (hb : ∀ x ∈ d, x < K) : d.length ≤ K := by
  have hge : ∀ (l : List Nat) (m : Nat), l.Pairwise (· < ·) → (∀ x ∈ l, m ≤ x ∧ x < K) → l.length + m ≤ K ∨ l = [] := by
    intro l
    induction l with
    | nil => intro m _ _; exact .inr rfl
    | cons x t ih =>
      intro m hp hm
      rw [List.pairwise_cons] at hp
      have hx := hm x (by simp)
      rcases ih (x + 1) hp.2 (fun y hy => ⟨hp.1 y hy, (hm y (by simp [hy])).2⟩) with h | rfl
      · left; simp; omega
      · left; simp; omega
  rcases hge d 0 h (fun x hx => ⟨Nat.zero_le _, hb x hx⟩) with h | rfl
  · omega
  · simp
theorem ins_new (x : Nat) (d : List Nat) (h : x ∉ d) : (ins x d).length = d.length + 1 := by
  induction d with
  | nil => rfl
  | cons y l ih =>
    rw [List.mem_cons, not_or] at h
    unfold ins
    split
    · rfl
    · rw [if_neg h.1, List.length_cons, ih h.2, List.length_cons]
theorem ins_old (x : Nat) (d : List Nat) (hd : d.Pairwise (· < ·)) (h : x ∈ d) : (ins x d).length = d.length := by rw [ins_of_mem d x hd h]
theorem size_sD (xs : List Nat) : ∀ k, k ≤ xs.length → Maps.size (sD (xs.take k)) = (dict (xs.take k)).length := by
  intro k
  induction k with
  | zero => intro _; rfl
  | succ k ih =>
    intro h
    have hk : k < xs.length := h
    have ih := ih (by omega)
    rw [List.take_succ_eq_append_getElem hk, dict_snoc]
    unfold sD
    rw [List.map_append, List.map_cons, List.map_nil, setOf_snoc, size_put (tidy_setOf _ _ (sD_key _))]
    have hh := has_sD (xs.take k) xs[k]
    by_cases hm : xs[k] ∈ xs.take k
    · rw [if_pos (hh.2 hm), ins_old _ _ (dict_asc _) ((dict_mem _ _).2 hm)]
      exact ih
    · rw [if_neg (fun h => hm (hh.1 h)), ins_new _ _ (fun h => hm ((dict_mem _ _).1 h))]
      exact congrArg (· + 1) ih
theorem unused_iff (K : Nat) (is : List Nat) (hb : ∀ x ∈ is, x < K) : unused K is = decide (Maps.size (sD is) < K) := by
  have hs := size_sD is is.length (Nat.le_refl _)
  rw [List.take_length] at hs
  rw [hs]
  by_cases h : unused K is = true
  · rw [h]
    symm
    rw [decide_eq_true_iff]
    unfold unused at h
    rw [List.any_eq_true] at h
    obtain ⟨j, hj, hc⟩ := h
    have hjm : j ∉ is := by simpa using hc
    have h1 := asc_below (ins j (dict is)) K (ins_asc _ _ (dict_asc _)) (fun x hx => by
      rw [ins_mem] at hx
      rcases hx with rfl | hx
      · simpa using hj
      · exact hb x ((dict_mem _ _).1 hx))
    rw [ins_new _ _ (fun h => hjm ((dict_mem _ _).1 h))] at h1
    omega
  · have hn : ∀ j, j < K → j ∈ is := by
      intro j hj
      refine Classical.byContradiction fun hc => h ?_
      unfold unused
      rw [List.any_eq_true]
      exact ⟨j, by simpa using hj, by simpa using hc⟩
    have he : dict is = List.range K := asc_ext _ _ (dict_asc _) List.pairwise_lt_range (fun x => by rw [dict_mem, List.mem_range]; exact ⟨hb x, hn x⟩)
    rw [he, List.length_range]
    simp only [Bool.not_eq_true] at h
    rw [h]
    symm
    rw [decide_eq_false_iff_not]
    omega

theorem gdict_length : ∀ (m : Nat) (d : List Nat) (r : List Bool), (gdict m d r).2.1 = 0 → (gdict m d r).1.length = d.length + m := by
  intro m
  induction m with
  | zero => intro d r _; rfl
  | succ m ih =>
    intro d r h
    unfold gdict at h ⊢
    split at h
    · simp at h
    · split at h
      · simp at h
      · rename_i h1 h2
        rw [if_neg h1, if_neg h2, ih _ _ h]
        simp; omega
theorem gD_length (r : List Bool) (h : (gD r).2.1 = 0) : 0 < (gD r).1.length ∧ (gD r).1.length ≤ 128 := by
  unfold gD at h ⊢
  split at h
  · simp at h
  · rename_i h7
    rw [if_neg h7, gdict_length _ _ _ h]
    have := bv_lt (r.take 7)
    rw [List.length_take, Nat.min_eq_left (by omega)] at this
    simp
    omega

theorem gidx_more (k m : Nat) (l : List Nat) (r : List Bool) (h : ¬ r.length < wd k) (hb : ¬ k ≤ bv (r.take (wd k))) : gidx k (m + 1) l r = gidx k m (l ++ [bv (r.take (wd k))]) (r.drop (wd k)) := by
  conv => lhs; unfold gidx
  rw [if_neg h, if_neg hb]
theorem gidx_bad (k m : Nat) (l : List Nat) (r : List Bool) (h : ¬ r.length < wd k) (hb : k ≤ bv (r.take (wd k))) : gidx k (m + 1) l r = ([], 8, r.drop (wd k)) := by
  conv => lhs; unfold gidx
  rw [if_neg h, if_pos hb]
theorem gidx_eof (k m : Nat) (l : List Nat) (r : List Bool) (h : r.length < wd k) : gidx k (m + 1) l r = ([], 3, r) := by
  conv => lhs; unfold gidx
  rw [if_pos h]

theorem getVals_eq (n : Nat) (r : List Bool) (hn : n ≠ 0) : getVals n r = if (gD r).2.1 ≠ 0 then ([], (gD r).2.1, (gD r).2.2) else
    if (gidx (gD r).1.length n [] (gD r).2.2).2.1 ≠ 0 then ([], (gidx (gD r).1.length n [] (gD r).2.2).2.1, (gidx (gD r).1.length n [] (gD r).2.2).2.2)
    else if unused (gD r).1.length (gidx (gD r).1.length n [] (gD r).2.2).1 then ([], 8, (gidx (gD r).1.length n [] (gD r).2.2).2.2)
    else ((gidx (gD r).1.length n [] (gD r).2.2).1.map ((gD r).1.getD · 0), 0, (gidx (gD r).1.length n [] (gD r).2.2).2.2) := by
  unfold getVals gD
  rw [if_neg hn]
  by_cases h7 : r.length < 7
  · rw [if_pos h7, if_pos h7]; simp
  · rw [if_neg h7, if_neg h7]
end Go.Proofs.Ytbdpimnbjonhlaa
