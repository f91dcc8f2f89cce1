/- The plain law of the dictionary coding: what was put is got, and what is got was put. Nothing of the program is named here. -/
import Derived.Test.YtjepaneniodbpaaGreatDoorGet
namespace Go.Proofs.YtjepaneniodbpaaGreatDoor
open Go

theorem take_app {α : Type} (a b : List α) (n : Nat) (h : a.length = n) : (a ++ b).take n = a := by subst h; simp
theorem drop_app {α : Type} (a b : List α) (n : Nat) (h : a.length = n) : (a ++ b).drop n = b := by subst h; simp
theorem bv_bitsOf_lt (x n : Nat) (h : x < 2 ^ n) : bv (bitsOf x n) = x := by rw [bv_bitsOf, Nat.mod_eq_of_lt h]

theorem badNext_false (d : List Nat) (x : Nat) (h : ∀ y ∈ d, y < x) : badNext d x = false := by
  unfold badNext
  cases e : d.getLast? with
  | none => rfl
  | some y => have := h y (List.mem_of_getLast? e); simp; omega
theorem badNext_asc (d : List Nat) (x : Nat) (hd : d.Pairwise (· < ·)) (h : badNext d x = false) : (d ++ [x]).Pairwise (· < ·) := by
  rw [List.pairwise_append]
  refine ⟨hd, by simp, fun a ha b hb => ?_⟩
  obtain rfl : b = x := by simpa using hb
  unfold badNext at h
  obtain ⟨l, y, rfl⟩ : ∃ l y, d = l ++ [y] := by
    rcases List.eq_nil_or_concat d with rfl | ⟨l, y, rfl⟩
    · cases ha
    · exact ⟨l, y, by simp⟩
  simp at h
  rw [List.pairwise_append] at hd
  rw [List.mem_append] at ha
  rcases ha with ha | ha
  · have := hd.2.2 a ha y (by simp); omega
  · obtain rfl : a = y := by simpa using ha
    omega

theorem gdict_put : ∀ (e d : List Nat) (r : List Bool), (d ++ e).Pairwise (· < ·) → (∀ x ∈ e, x < 18446744073709551616) → gdict e.length d (e.flatMap (bitsOf · 64) ++ r) = (d ++ e, 0, r) := by
  intro e
  induction e with
  | nil => intro d r _ _; simp [gdict]
  | cons x e ih =>
    intro d r hp hx
    have e64 : (2 : Nat) ^ 64 = 18446744073709551616 := by decide
    have ht : ((x :: e).flatMap (bitsOf · 64) ++ r).take 64 = bitsOf x 64 := by
      rw [List.flatMap_cons, List.append_assoc, take_app _ _ _ (bitsOf_length x 64)]
    have hd : ((x :: e).flatMap (bitsOf · 64) ++ r).drop 64 = e.flatMap (bitsOf · 64) ++ r := by
      rw [List.flatMap_cons, List.append_assoc, drop_app _ _ _ (bitsOf_length x 64)]
    have hv : bv (bitsOf x 64) = x := bv_bitsOf_lt x 64 (by have := hx x (by simp); omega)
    have hb : badNext d x = false := by
      refine badNext_false d x fun y hy => ?_
      rw [List.pairwise_append] at hp
      exact hp.2.2 y hy x (by simp)
    rw [List.length_cons, gdict_more _ _ _ (by rw [List.flatMap_cons, List.append_assoc, List.length_append, bitsOf_length]; omega) (by rw [ht, hv]; exact hb), ht, hd, hv, ih (d ++ [x]) r (by simpa using hp) (fun y hy => hx y (by simp [hy]))]
    simp

theorem gidx_put (k : Nat) (hk : k ≤ 18446744073709551616) : ∀ (is l : List Nat) (r : List Bool), (∀ x ∈ is, x < k) → gidx k is.length l (is.flatMap (bitsOf · (wd k)) ++ r) = (l ++ is, 0, r) := by
  intro is
  induction is with
  | nil => intro l r _; simp [gidx]
  | cons x is ih =>
    intro l r hx
    have ht : ((x :: is).flatMap (bitsOf · (wd k)) ++ r).take (wd k) = bitsOf x (wd k) := by
      rw [List.flatMap_cons, List.append_assoc, take_app _ _ _ (bitsOf_length x _)]
    have hd : ((x :: is).flatMap (bitsOf · (wd k)) ++ r).drop (wd k) = is.flatMap (bitsOf · (wd k)) ++ r := by
      rw [List.flatMap_cons, List.append_assoc, drop_app _ _ _ (bitsOf_length x _)]
    have hxk := hx x (by simp)
    have hv : bv (bitsOf x (wd k)) = x := bv_bitsOf_lt x _ (Nat.lt_of_lt_of_le hxk (wd_spec k hk).1)
    rw [List.length_cons, gidx_more _ _ _ _ (by rw [List.flatMap_cons, List.append_assoc, List.length_append, bitsOf_length]; omega) (by rw [ht, hv]; omega), ht, hd, hv, ih (l ++ [x]) r (fun y hy => hx y (by simp [hy]))]
    simp

theorem flatMap_map' {α β γ : Type} (f : α → β) (g : β → List γ) (l : List α) : (l.map f).flatMap g = l.flatMap (fun x => g (f x)) := by
  induction l with
  | nil => rfl
  | cons x l ih => simp [ih]
theorem flatMap_congr' {α γ : Type} (f g : α → List γ) (l : List α) (h : ∀ x ∈ l, f x = g x) : l.flatMap f = l.flatMap g := by
  induction l with
  | nil => rfl
  | cons x l ih => rw [List.flatMap_cons, List.flatMap_cons, h x (by simp), ih fun y hy => h y (by simp [hy])]

theorem idxOf_getD (D : List Nat) (x : Nat) (h : x ∈ D) : D.getD (D.idxOf x) 0 = x := by
  have hl := List.idxOf_lt_length_of_mem h
  rw [List.getD_eq_getElem?_getD, List.getElem?_eq_getElem hl]
  simp
theorem idxOf_at (D : List Nat) (hd : D.Pairwise (· < ·)) (i : Nat) (h : i < D.length) : D.idxOf (D.getD i 0) = i := by
  have e : D.getD i 0 = D[i] := by rw [List.getD_eq_getElem?_getD, List.getElem?_eq_getElem h]; rfl
  rw [e]
  have hl := List.idxOf_lt_length_of_mem (List.getElem_mem h)
  have hg : D[D.idxOf D[i]] = D[i] := by simp
  rcases Nat.lt_trichotomy (D.idxOf D[i]) i with hlt | heq | hgt
  · have := (List.pairwise_iff_getElem.1 hd) _ _ hl h hlt; omega
  · exact heq
  · have := (List.pairwise_iff_getElem.1 hd) _ _ h hl hgt; omega
theorem unused_false (k : Nat) (l : List Nat) : unused k l = false ↔ ∀ j, j < k → j ∈ l := by
  unfold unused
  rw [List.any_eq_false]
  constructor
  · intro h j hj
    have := h j (List.mem_range.2 hj)
    simpa using this
  · intro h j hj
    have := h j (List.mem_range.1 hj)
    simpa using this

/-- what was put is got, and nothing beyond it is read -/
theorem getVals_put (l : List Nat) (r : List Bool) (hl : l ≠ []) (hd : (dict l).length ≤ 128) (hx : ∀ x ∈ l, x < 18446744073709551616) : getVals l.length (putBits l ++ r) = (l, 0, r) := by
  have hlen : l.length ≠ 0 := by simpa using hl
  have hpos : 0 < (dict l).length := by
    rcases Nat.eq_zero_or_pos (dict l).length with h | h
    · exact absurd ((dict_nil_iff l).1 (List.eq_nil_of_length_eq_zero h)) hl
    · exact h
  have hG : gD (putBits l ++ r) = (dict l, 0, l.flatMap (fun x => bitsOf ((dict l).idxOf x) (wd (dict l).length)) ++ r) := by
    unfold gD putBits
    rw [if_neg hl, List.append_assoc, List.append_assoc, if_neg (by rw [List.length_append, bitsOf_length]; omega), take_app _ _ _ (bitsOf_length _ 7), drop_app _ _ _ (bitsOf_length _ 7), bv_bitsOf_lt _ 7 (by omega), Nat.sub_add_cancel hpos]
    rw [gdict_put (dict l) [] _ (by simpa using dict_asc l) (fun x hx' => hx x ((dict_mem l x).1 hx'))]
    simp
  have hI : gidx (dict l).length l.length [] (l.flatMap (fun x => bitsOf ((dict l).idxOf x) (wd (dict l).length)) ++ r) = (l.map ((dict l).idxOf ·), 0, r) := by
    have := gidx_put (dict l).length (by omega) (l.map ((dict l).idxOf ·)) [] r (fun j hj => by
      obtain ⟨x, hx1, rfl⟩ := List.mem_map.1 hj
      exact List.idxOf_lt_length_of_mem ((dict_mem l x).2 hx1))
    rw [flatMap_map', List.length_map, List.nil_append] at this
    exact this
  have hU : unused (dict l).length (l.map ((dict l).idxOf ·)) = false := by
    rw [unused_false]
    intro j hj
    have hm : (dict l).getD j 0 ∈ dict l := by rw [List.getD_eq_getElem?_getD, List.getElem?_eq_getElem hj]; exact List.getElem_mem hj
    exact List.mem_map.2 ⟨(dict l).getD j 0, (dict_mem l _).1 hm, idxOf_at _ (dict_asc l) j hj⟩
  have hM : (l.map ((dict l).idxOf ·)).map ((dict l).getD · 0) = l := by
    rw [List.map_map]
    conv => rhs; rw [← List.map_id l]
    refine List.map_congr_left fun x hx1 => ?_
    exact idxOf_getD (dict l) x ((dict_mem l x).2 hx1)
  rw [getVals_eq _ _ hlen, hG]
  simp only [hI, hU, hM]
  simp

theorem gdict_inv : ∀ (m : Nat) (d : List Nat) (r : List Bool), d.Pairwise (· < ·) → (gdict m d r).2.1 = 0 →
    ∃ e, (gdict m d r).1 = d ++ e ∧ e.length = m ∧ (d ++ e).Pairwise (· < ·) ∧ (∀ x ∈ e, x < 18446744073709551616) ∧ r = e.flatMap (bitsOf · 64) ++ (gdict m d r).2.2 := by
  intro m
  induction m with
  | zero => intro d r hd _; exact ⟨[], by simp [gdict], rfl, by simpa using hd, by simp, by simp [gdict]⟩
  | succ m ih =>
    intro d r hd h
    by_cases h64 : r.length < 64
    · rw [gdict_eof m d r h64] at h; simp at h
    · by_cases hb : badNext d (bv (r.take 64)) = true
      · rw [gdict_bad m d r (by omega) hb] at h; simp at h
      · have hb' : badNext d (bv (r.take 64)) = false := by simpa using hb
        have hbits : bitsOf (bv (r.take 64)) 64 = r.take 64 := by
          have := bitsOf_bv (r.take 64)
          rwa [List.length_take, Nat.min_eq_left (by omega)] at this
        rw [gdict_more m d r (by omega) hb'] at h ⊢
        obtain ⟨e, h1, h2, h3, h4, h5⟩ := ih (d ++ [bv (r.take 64)]) (r.drop 64) (badNext_asc d _ hd hb') h
        refine ⟨bv (r.take 64) :: e, by rw [h1]; simp, by simp [h2], by simpa using h3, ?_, ?_⟩
        · intro x hx
          rw [List.mem_cons] at hx
          rcases hx with rfl | hx
          · exact bv64 r (by omega)
          · exact h4 x hx
        · rw [List.flatMap_cons, hbits, List.append_assoc, ← h5, List.take_append_drop]
theorem gidx_inv (k : Nat) : ∀ (m : Nat) (l : List Nat) (r : List Bool), (gidx k m l r).2.1 = 0 →
    ∃ is, (gidx k m l r).1 = l ++ is ∧ is.length = m ∧ (∀ x ∈ is, x < k) ∧ r = is.flatMap (bitsOf · (wd k)) ++ (gidx k m l r).2.2 := by
  intro m
  induction m with
  | zero => intro l r _; exact ⟨[], by simp [gidx], rfl, by simp, by simp [gidx]⟩
  | succ m ih =>
    intro l r h
    by_cases hf : r.length < wd k
    · rw [gidx_eof k m l r hf] at h; simp at h
    · by_cases hb : k ≤ bv (r.take (wd k))
      · rw [gidx_bad k m l r hf hb] at h; simp at h
      · have hbits : bitsOf (bv (r.take (wd k))) (wd k) = r.take (wd k) := by
          have := bitsOf_bv (r.take (wd k))
          rwa [List.length_take, Nat.min_eq_left (by omega)] at this
        rw [gidx_more k m l r hf hb] at h ⊢
        obtain ⟨is, h1, h2, h3, h4⟩ := ih _ _ h
        refine ⟨bv (r.take (wd k)) :: is, by rw [h1]; simp, by simp [h2], ?_, ?_⟩
        · intro x hx
          rw [List.mem_cons] at hx
          rcases hx with rfl | hx
          · omega
          · exact h3 x hx
        · rw [List.flatMap_cons, hbits, List.append_assoc, ← h4, List.take_append_drop]

/-- what is got was put -/
theorem getVals_inv (n : Nat) (r : List Bool) (hn : n ≠ 0) (h : (getVals n r).2.1 = 0) :
    (getVals n r).1.length = n ∧ (dict (getVals n r).1).length ≤ 128 ∧ (∀ x ∈ (getVals n r).1, x < 18446744073709551616) ∧ r = putBits (getVals n r).1 ++ (getVals n r).2.2 := by
  rw [getVals_eq n r hn] at h ⊢
  by_cases hg : (gD r).2.1 ≠ 0
  · rw [if_pos hg] at h; exact absurd h hg
  · rw [if_neg hg] at h ⊢
    have hg0 : (gD r).2.1 = 0 := by simpa using hg
    obtain ⟨hK0, hK1⟩ := gD_length r hg0
    have h7 : ¬ r.length < 7 := by intro h7; unfold gD at hg0; rw [if_pos h7] at hg0; simp at hg0
    have hGe : gD r = gdict (bv (r.take 7) + 1) [] (r.drop 7) := by unfold gD; rw [if_neg h7]
    obtain ⟨D, hD1, hD2, hD3, hD4, hD5⟩ := gdict_inv (bv (r.take 7) + 1) [] (r.drop 7) List.Pairwise.nil (by rw [← hGe]; exact hg0)
    rw [← hGe, List.nil_append] at hD1
    rw [List.nil_append] at hD3
    rw [← hGe] at hD5
    rw [hD1] at h hK0 hK1 ⊢
    generalize (gD r).2.2 = R at *
    by_cases hi : (gidx D.length n [] R).2.1 ≠ 0
    · rw [if_pos hi] at h; exact absurd h hi
    · rw [if_neg hi] at h ⊢
      obtain ⟨is, hI1, hI2, hI3, hI4⟩ := gidx_inv D.length n [] R (by simpa using hi)
      rw [List.nil_append] at hI1
      rw [hI1] at h ⊢
      generalize (gidx D.length n [] R).2.2 = S at *
      by_cases hu : unused D.length is = true
      · rw [if_pos hu] at h; simp at h
      · rw [if_neg hu]
        have hu' := (unused_false D.length is).1 (by simpa using hu)
        have hmem : ∀ i ∈ is, D.getD i 0 ∈ D := by
          intro i hi1
          rw [List.getD_eq_getElem?_getD, List.getElem?_eq_getElem (hI3 i hi1)]
          exact List.getElem_mem _
        have hdict : D = dict (is.map (D.getD · 0)) := by
          refine dict_eq _ _ hD3 fun x => ?_
          constructor
          · intro hx
            exact List.mem_map.2 ⟨D.idxOf x, hu' _ (List.idxOf_lt_length_of_mem hx), idxOf_getD D x hx⟩
          · intro hx
            obtain ⟨i, hi1, rfl⟩ := List.mem_map.1 hx
            exact hmem i hi1
        have hbits7 : bitsOf (D.length - 1) 7 = r.take 7 := by
          have := bitsOf_bv (r.take 7)
          rw [List.length_take, Nat.min_eq_left (by omega)] at this
          rw [hD2, Nat.add_sub_cancel]
          exact this
        have hfl : (is.map (D.getD · 0)).flatMap (fun x => bitsOf (D.idxOf x) (wd D.length)) = is.flatMap (bitsOf · (wd D.length)) := by
          rw [flatMap_map']
          exact flatMap_congr' _ _ _ fun i hi1 => by rw [idxOf_at D hD3 i (hI3 i hi1)]
        refine ⟨by simp [hI2], by rw [← hdict]; exact hK1, ?_, ?_⟩
        · intro x hx
          obtain ⟨i, hi1, rfl⟩ := List.mem_map.1 hx
          exact hD4 _ (hmem i hi1)
        · have hne : is.map (D.getD · 0) ≠ [] := by
            intro e
            have : is.length = 0 := by simpa using congrArg List.length e
            omega
          unfold putBits
          rw [if_neg hne, ← hdict, hfl, hbits7, List.append_assoc, List.append_assoc, ← hI4, ← hD5, List.take_append_drop]
theorem getVals_bad (n : Nat) (r : List Bool) (h : (getVals n r).2.1 ≠ 0) : (getVals n r).1 = [] := by
  by_cases hn : n = 0
  · subst hn; simp [getVals]
  · rw [getVals_eq n r hn] at h ⊢
    split
    · rfl
    · split
      · rfl
      · split
        · rfl
        · rename_i h1 h2 h3; rw [if_neg h1, if_neg h2, if_neg h3] at h; simp at h
/-- the rest is a tail -/
theorem putBits_length (l : List Nat) (hl : l ≠ []) : (putBits l).length = 7 + 64 * (dict l).length + wd (dict l).length * l.length := by
  unfold putBits
  rw [if_neg hl, List.length_append, List.length_append, bitsOf_length]
  have key : ∀ (f : Nat → List Bool) (v : Nat), (∀ x, (f x).length = v) → ∀ l : List Nat, (l.flatMap f).length = v * l.length := by
    intro f v hf l
    induction l with
    | nil => rfl
    | cons x l ih => rw [List.flatMap_cons, List.length_append, ih, hf, List.length_cons, Nat.mul_add]; omega
  rw [key _ 64 (fun x => bitsOf_length x 64), key _ (wd (dict l).length) (fun x => bitsOf_length _ _)]
end Go.Proofs.YtjepaneniodbpaaGreatDoor
