/- The plain law of runval: the runs of a list of values, their bits, and what the bits read as. Nothing of the program is named here. -/
import Derived.Test.YtjepaneniodbpaaGreatDoorXorLaw
namespace Go.Proofs.YtjepaneniodbpaaGreatDoor
open Go

/-- the runs of v, c times so far, and of what follows -/
def runF (v c : Nat) : List Nat → List (Nat × Nat)
  | [] => [(v, c)]
  | x :: l => if x = v ∧ c < 128 then runF v (c + 1) l else (v, c) :: runF x 1 l
def runs : List Nat → List (Nat × Nat)
  | [] => []
  | v :: l => runF v 1 l
def unrun (rs : List (Nat × Nat)) : List Nat := rs.flatMap fun r => List.replicate r.2 r.1
def rbits (r : Nat × Nat) : List Bool := bitsOf r.1 64 ++ bitsOf (r.2 - 1) 7
def rput (l : List Nat) : List Bool := (runs l).flatMap rbits
/-- reads runs: n values are still to come, the last run was of v, c times -/
def rgetF : Nat → Nat → Nat → Nat → List Bool → Except Nat (List (Nat × Nat) × List Bool)
  | 0, _, _, _, _ => .error 0
  | f + 1, n, v, c, bs =>
    if n = 0 then .ok ([], bs)
    else if bs.length < 71 then .error 3
    else if n < bv ((bs.drop 64).take 7) + 1 ∨ (bv (bs.take 64) = v ∧ c < 128) then .error 8
    else match rgetF f (n - (bv ((bs.drop 64).take 7) + 1)) (bv (bs.take 64)) (bv ((bs.drop 64).take 7) + 1) (bs.drop 71) with
      | .error e => .error e
      | .ok (l, r) => .ok ((bv (bs.take 64), bv ((bs.drop 64).take 7) + 1) :: l, r)
def rgetR (n : Nat) (bs : List Bool) : Except Nat (List (Nat × Nat) × List Bool) := rgetF (n + 1) n 0 128 bs
def rget (n : Nat) (bs : List Bool) : Except Nat (List Nat × List Bool) :=
  match rgetR n bs with
  | .error e => .error e
  | .ok (l, r) => .ok (unrun l, r)

/-- a list of runs as they come: each between 1 and 128, and a run that is not full is not followed by its own value -/
def RunsOk : Nat → Nat → List (Nat × Nat) → Prop
  | _, _, [] => True
  | v, c, (x, k) :: l => 1 ≤ k ∧ k ≤ 128 ∧ ¬ (x = v ∧ c < 128) ∧ RunsOk x k l
def total (rs : List (Nat × Nat)) : Nat := (rs.map (·.2)).sum

theorem unrun_length (rs : List (Nat × Nat)) : (unrun rs).length = total rs := by
  induction rs with
  | nil => rfl
  | cons r rs ih => simp [unrun, total, List.flatMap_cons] at *; try omega
theorem runF_unrun : ∀ (l : List Nat) (v c : Nat), unrun (runF v c l) = List.replicate c v ++ l := by
  intro l
  induction l with
  | nil => intro v c; simp [runF, unrun]
  | cons x l ih =>
    intro v c
    unfold runF
    split
    · rename_i h
      rw [ih, h.1, List.replicate_succ', List.append_assoc]
      rfl
    · rw [show unrun ((v, c) :: runF x 1 l) = List.replicate c v ++ unrun (runF x 1 l) from by simp [unrun, List.flatMap_cons], ih]
      rfl
theorem runs_unrun (l : List Nat) : unrun (runs l) = l := by
  cases l with
  | nil => rfl
  | cons v l => simp only [runs]; rw [runF_unrun]; rfl
theorem runF_ok : ∀ (l : List Nat) (v c u d : Nat), 1 ≤ c → c ≤ 128 → ¬ (v = u ∧ d < 128) → RunsOk u d (runF v c l) := by
  intro l
  induction l with
  | nil => intro v c u d h1 h2 h3; exact ⟨h1, h2, h3, trivial⟩
  | cons x l ih =>
    intro v c u d h1 h2 h3
    unfold runF
    split
    · rename_i h
      exact ih v (c + 1) u d (by omega) (by omega) h3
    · rename_i h
      exact ⟨h1, h2, h3, ih x 1 v c (by omega) (by omega) h⟩
theorem runs_ok (l : List Nat) : RunsOk 0 128 (runs l) := by
  cases l with
  | nil => trivial
  | cons v l => exact runF_ok l v 1 0 128 (by omega) (by omega) (by omega)
theorem runF_same : ∀ (k : Nat) (v c : Nat) (l : List Nat), c + k ≤ 128 → runF v c (List.replicate k v ++ l) = runF v (c + k) l := by
  intro k
  induction k with
  | zero => intro v c l _; rfl
  | succ k ih =>
    intro v c l h
    rw [List.replicate_succ, List.cons_append, runF, if_pos ⟨rfl, by omega⟩, ih v (c + 1) l (by omega)]
    congr 1; omega
theorem runF_of_ok : ∀ (rs : List (Nat × Nat)) (v c : Nat), RunsOk v c rs → runF v c (unrun rs) = (v, c) :: rs := by
  intro rs
  induction rs with
  | nil => intro v c _; rfl
  | cons r rs ih =>
    obtain ⟨x, k⟩ := r
    intro v c h
    obtain ⟨h1, h2, h3, h4⟩ := h
    obtain ⟨j, rfl⟩ : ∃ j, k = j + 1 := ⟨k - 1, by omega⟩
    rw [show unrun ((x, j + 1) :: rs) = x :: (List.replicate j x ++ unrun rs) from by simp [unrun, List.flatMap_cons, List.replicate_succ], runF, if_neg h3, runF_same j x 1 _ (by omega), Nat.add_comm 1 j, ih x (j + 1) h4]
theorem runs_of_ok (rs : List (Nat × Nat)) (h : RunsOk 0 128 rs) : runs (unrun rs) = rs := by
  cases rs with
  | nil => rfl
  | cons r rs =>
    obtain ⟨x, k⟩ := r
    obtain ⟨h1, h2, h3, h4⟩ := h
    obtain ⟨j, rfl⟩ : ∃ j, k = j + 1 := ⟨k - 1, by omega⟩
    rw [show unrun ((x, j + 1) :: rs) = x :: (List.replicate j x ++ unrun rs) from by simp [unrun, List.flatMap_cons, List.replicate_succ]]
    simp only [runs]
    rw [runF_same j x 1 _ (by omega), Nat.add_comm 1 j, runF_of_ok rs x (j + 1) h4]
theorem rbits_length (r : Nat × Nat) : (rbits r).length = 71 := by simp [rbits, bitsOf_length]
theorem runF_vals (P : Nat → Prop) : ∀ (l : List Nat) (v c : Nat), P v → (∀ x ∈ l, P x) → ∀ r ∈ runF v c l, P r.1 := by
  intro l
  induction l with
  | nil => intro v c hv _ r hr; simp [runF] at hr; subst hr; exact hv
  | cons x l ih =>
    intro v c hv hl r hr
    unfold runF at hr
    split at hr
    · exact ih v (c + 1) hv (fun y hy => hl y (by simp [hy])) r hr
    · rcases List.mem_cons.1 hr with rfl | hr
      · exact hv
      · exact ih x 1 (hl x (by simp)) (fun y hy => hl y (by simp [hy])) r hr
theorem runs_vals (P : Nat → Prop) (l : List Nat) (hl : ∀ x ∈ l, P x) : ∀ r ∈ runs l, P r.1 := by
  cases l with
  | nil => intro r hr; cases hr
  | cons v l => exact runF_vals P l v 1 (hl v (by simp)) (fun y hy => hl y (by simp [hy]))
theorem rgetF_put : ∀ (rs : List (Nat × Nat)) (f v c : Nat) (r : List Bool), RunsOk v c rs → (∀ x ∈ rs, x.1 < 18446744073709551616) → total rs < f → rgetF f (total rs) v c (rs.flatMap rbits ++ r) = .ok (rs, r) := by
  intro rs
  induction rs with
  | nil => intro f v c r _ _ hf; obtain ⟨g, rfl⟩ : ∃ g, f = g + 1 := ⟨f - 1, by omega⟩; rfl
  | cons y rs ih =>
    obtain ⟨x, k⟩ := y
    intro f v c r h hv hf
    obtain ⟨h1, h2, h3, h4⟩ := h
    obtain ⟨g, rfl⟩ : ∃ g, f = g + 1 := ⟨f - 1, by omega⟩
    have ht : total ((x, k) :: rs) = k + total rs := by simp [total]
    have hx := hv (x, k) (by simp)
    have l1 := bitsOf_length x 64
    have l2 := bitsOf_length (k - 1) 7
    rw [ht] at hf ⊢
    have e1 : (((x, k) :: rs).flatMap rbits ++ r).take 64 = bitsOf x 64 := by
      simp only [List.flatMap_cons, rbits, List.append_assoc]
      exact (cut_at _ _ l1).1
    have e2 : (((x, k) :: rs).flatMap rbits ++ r).drop 64 = bitsOf (k - 1) 7 ++ (rs.flatMap rbits ++ r) := by
      simp only [List.flatMap_cons, rbits, List.append_assoc]
      exact (cut_at _ _ l1).2
    have e3 : (((x, k) :: rs).flatMap rbits ++ r).drop 71 = rs.flatMap rbits ++ r := by
      rw [show 71 = 64 + 7 from rfl, ← List.drop_drop, e2, (cut_at _ _ l2).2]
    have e4 : 71 ≤ (((x, k) :: rs).flatMap rbits ++ r).length := by
      simp only [List.flatMap_cons, List.length_append, rbits_length]; omega
    unfold rgetF
    rw [if_neg (by omega), if_neg (by omega), e1, e2, e3, (cut_at _ _ l2).1, bv_bitsOf, bv_bitsOf, pow64, Nat.mod_eq_of_lt hx, Nat.mod_eq_of_lt (by omega), show k - 1 + 1 = k from by omega, if_neg (by
      rintro (h | h)
      · omega
      · exact h3 h), show k + total rs - k = total rs from by omega, ih g x k r h4 (fun z hz => hv z (by simp [hz])) (by omega)]
theorem rget_put (l : List Nat) (r : List Bool) (hl : ∀ x ∈ l, x < 18446744073709551616) : rget l.length (rput l ++ r) = .ok (l, r) := by
  have h1 := runs_unrun l
  have h2 := unrun_length (runs l)
  rw [h1] at h2
  unfold rget rgetR rput
  have h3 := rgetF_put (runs l) (l.length + 1) 0 128 r (runs_ok l) (runs_vals _ l hl) (by omega)
  rw [← h2] at h3
  rw [h3]
  simp only [h1]
theorem rgetF_inv : ∀ (f n v c : Nat) (bs r : List Bool) (rs : List (Nat × Nat)), rgetF f n v c bs = .ok (rs, r) → RunsOk v c rs ∧ total rs = n ∧ (∀ x ∈ rs, x.1 < 18446744073709551616) ∧ bs = rs.flatMap rbits ++ r := by
  intro f
  induction f with
  | zero => intro n v c bs r rs h; cases h
  | succ f ih =>
    intro n v c bs r rs h
    unfold rgetF at h
    split at h
    · rename_i h0
      cases h
      exact ⟨trivial, by simp [total, h0], by simp, rfl⟩
    · split at h
      · cases h
      · rename_i hlen
        obtain ⟨g1, g2⟩ := bits_take (r := bs) (n := 64) (by omega)
        obtain ⟨g3, g4⟩ := bits_take (r := bs.drop 64) (n := 7) (by rw [List.length_drop]; omega)
        rw [pow64] at g2
        have hc1 := (List.take_append_drop 64 bs).symm
        have hc2 := (List.take_append_drop 7 (bs.drop 64)).symm
        rw [List.drop_drop] at hc2
        rw [← g1] at hc1
        rw [← g3] at hc2
        generalize bv (bs.take 64) = p at *
        generalize bv ((bs.drop 64).take 7) = q at *
        split at h
        · cases h
        · rename_i hq
          split at h
          · cases h
          · rename_i l1 r1 h1
            cases h
            obtain ⟨h3, h4, h5, h6⟩ := ih _ _ _ _ _ _ h1
            refine ⟨⟨by omega, by simp only [Nat.reducePow] at g4; omega, fun h => hq (.inr h), h3⟩, by simp [total] at h4 ⊢; omega, ?_, ?_⟩
            · intro x hx
              rcases List.mem_cons.1 hx with rfl | hx
              · exact g2
              · exact h5 x hx
            · rw [hc1, hc2, h6]
              simp [rbits, List.flatMap_cons]
theorem rget_inv {n : Nat} {bs r : List Bool} {l : List Nat} (h : rget n bs = .ok (l, r)) : l.length = n ∧ (∀ v ∈ l, v < 18446744073709551616) ∧ bs = rput l ++ r := by
  unfold rget rgetR at h
  split at h
  · cases h
  · rename_i rs r1 h1
    cases h
    obtain ⟨h3, h4, h5, h6⟩ := rgetF_inv _ _ _ _ _ _ _ h1
    refine ⟨by rw [unrun_length, h4], ?_, by unfold rput; rw [runs_of_ok _ h3]; exact h6⟩
    intro v hv
    simp only [unrun, List.mem_flatMap] at hv
    obtain ⟨x, hx, hv⟩ := hv
    rw [List.eq_of_mem_replicate hv]
    exact h5 x hx
theorem runF_length_le : ∀ (l : List Nat) (v c : Nat), (runF v c l).length ≤ l.length + 1 := by
  intro l
  induction l with
  | nil => intro v c; simp [runF]
  | cons x l ih =>
    intro v c
    unfold runF
    split
    · have := ih v (c + 1); simp; omega
    · have := ih x 1; simp; omega
theorem rput_length (l : List Nat) : (rput l).length = 71 * (runs l).length := by
  unfold rput
  induction runs l with
  | nil => rfl
  | cons r rs ih => simp only [List.flatMap_cons, List.length_append, rbits_length, List.length_cons, ih]; omega
theorem runs_length_le (l : List Nat) : (runs l).length ≤ l.length := by
  cases l with
  | nil => simp [runs]
  | cons v l => exact runF_length_le l v 1
end Go.Proofs.YtjepaneniodbpaaGreatDoor
