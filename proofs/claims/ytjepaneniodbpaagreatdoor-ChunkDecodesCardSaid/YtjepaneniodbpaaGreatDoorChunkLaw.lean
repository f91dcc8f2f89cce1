/- What chunk computes, in plain Lean: the three sizes, the choice among them, the bits of a chunk and their reading. -/
import Derived.Test.YtjepaneniodbpaaGreatDoorDvAll
import Derived.Test.YtjepaneniodbpaaGreatDoorTimLaw
import Derived.Test.YtjepaneniodbpaaGreatDoorXorLaw
import Derived.Test.YtjepaneniodbpaaGreatDoorRunLaw
namespace Go.Proofs.YtjepaneniodbpaaGreatDoor
open Go Go.RowKit

/-- the first least size that is not negative, as a tag -/
def pick3 (a b c : Int) : Nat :=
  if 0 ≤ b ∧ b < a then (if 0 ≤ c ∧ c < b then 3 else 2) else (if 0 ≤ c ∧ c < a then 3 else 1)
theorem pick3_in (a b c : Int) : 1 ≤ pick3 a b c ∧ pick3 a b c ≤ 3 := by unfold pick3; split <;> split <;> omega
def tagOf (l : List Nat) : Nat := pick3 ((xput l).length : Int) ((rput l).length : Int) (szOf l)
theorem tagOf_in (l : List Nat) : 1 ≤ tagOf l ∧ tagOf l ≤ 3 := pick3_in _ _ _
theorem tagOf_dict (l : List Nat) (h : tagOf l = 3) : (dict l).length ≤ 128 := by
  by_cases hd : (dict l).length ≤ 128
  · exact hd
  · have h1 := szOf_limit l (by omega)
    unfold tagOf at h
    rw [h1] at h
    unfold pick3 at h
    split at h <;> split at h <;> omega
/-- the values' bits in an encoding -/
def vput (tag : Nat) (l : List Nat) : List Bool := if tag = 1 then xput l else if tag = 2 then rput l else putBits l
/-- the bits of a chunk -/
def cbits (ts : List Int) (vs : List Nat) : List Bool := bitsOf (tagOf vs) 8 ++ (bitsOf (vs.length - 1) 8 ++ (tput ts ++ vput (tagOf vs) vs))

/-- what reads values: the values and the bits left, or the error -/
def dgot (x : List Nat × Nat × List Bool) : Except Nat (List Nat × List Bool) := if x.2.1 = 0 then .ok (x.1, x.2.2) else .error x.2.1
def vget (tag n : Nat) (bs : List Bool) : Except Nat (List Nat × List Bool) := if tag = 1 then xget n bs else if tag = 2 then rget n bs else dgot (getVals n bs)
/-- the bytes of a chunk, read: the times and the values, or the error -/
def cget (bytes : List Nat) : Except Nat (List Int × List Nat) :=
  match bytes with
  | [] => .error 3
  | tag :: r1 =>
    if tag < 1 ∨ 3 < tag then .error 9
    else match r1 with
    | [] => .error 3
    | n1 :: r =>
      if 120 ≤ n1 then .error 7
      else match tget (n1 + 1) (up r) with
      | .error e => .error e
      | .ok (ts, bs) =>
        match vget tag (n1 + 1) bs with
        | .error e => .error e
        | .ok (vs, bs') => if endE bs' ≠ 0 then .error (endE bs') else if tagOf vs ≠ tag then .error 8 else .ok (ts, vs)

theorem bitsOf_up {x : Nat} (l : List Nat) (h : x < 256) : bv ((up (x :: l)).take 8) = x ∧ (up (x :: l)).drop 8 = up l := by
  rw [up_cons]
  obtain ⟨h1, h2⟩ := cut_at (bitsOf x 8) (up l) (bitsOf_length x 8)
  rw [h1, h2, bv_bitsOf]
  exact ⟨by omega, rfl⟩
theorem up_inj : ∀ (a b : List Nat), (∀ x ∈ a, x < 256) → (∀ x ∈ b, x < 256) → up a = up b → a = b := by
  intro a
  induction a with
  | nil =>
    intro b _ _ h
    have := congrArg List.length h
    rw [up_length, up_length] at this
    exact (List.eq_nil_of_length_eq_zero (by simp at this; omega)).symm
  | cons x a ih =>
    intro b ha hb h
    cases b with
    | nil => have := congrArg List.length h; rw [up_length, up_length] at this; simp at this
    | cons y b =>
      obtain ⟨h1, h2⟩ := bitsOf_up a (ha x (by simp))
      obtain ⟨h3, h4⟩ := bitsOf_up b (hb y (by simp))
      rw [h] at h1 h2
      rw [h3] at h1
      rw [h4] at h2
      rw [h1, ih b (fun z hz => ha z (by simp [hz])) (fun z hz => hb z (by simp [hz])) h2.symm]
/-- bits behind a first byte -/
theorem pk_byte {x : Nat} (h : x < 256) (B : List Bool) : pk (bitsOf x 8 ++ B) = x :: pk B := by
  refine up_inj _ _ (pk_lt _) ?_ ?_
  · intro y hy
    rcases List.mem_cons.1 hy with rfl | hy
    · exact h
    · exact pk_lt _ _ hy
  · rw [up_pk, up_cons, up_pk, List.append_assoc, List.length_append, bitsOf_length]
    congr 3
    omega
theorem pk_nil : pk [] = [] := rfl
theorem cbits_pk (ts : List Int) (vs : List Nat) (hv : vs.length ≤ 120) : pk (cbits ts vs) = tagOf vs :: (vs.length - 1) :: pk (tput ts ++ vput (tagOf vs) vs) := by
  have h := tagOf_in vs
  unfold cbits
  rw [pk_byte (by omega), pk_byte (by omega)]

theorem vget_put (tag : Nat) (l : List Nat) (r : List Bool) (hl : l ≠ []) (h3 : tag = 3 → (dict l).length ≤ 128) (hx : ∀ x ∈ l, x < 18446744073709551616) (_ : 1 ≤ tag ∧ tag ≤ 3) : vget tag l.length (vput tag l ++ r) = .ok (l, r) := by
  unfold vget vput
  split
  · exact xget_put l r hx
  · split
    · exact rget_put l r hx
    · rw [getVals_put l r hl (h3 (by omega)) hx]; rfl
theorem vget_inv {tag n : Nat} {l : List Nat} {bs r : List Bool} (hn : n ≠ 0) (h : vget tag n bs = .ok (l, r)) : l.length = n ∧ (∀ x ∈ l, x < 18446744073709551616) ∧ bs = vput tag l ++ r := by
  unfold vget at h
  unfold vput
  split at h
  · rename_i h1; rw [if_pos h1]; exact xget_inv h
  · rename_i h1
    rw [if_neg h1]
    split at h
    · rename_i h2; rw [if_pos h2]; exact rget_inv h
    · rename_i h2
      rw [if_neg h2]
      unfold dgot at h
      split at h
      · rename_i h3
        obtain ⟨e1, e2, e3, e4⟩ := getVals_inv n bs hn h3
        injection h with h
        injection h with ha hb
        rw [ha] at e1 e3 e4
        rw [hb] at e4
        exact ⟨e1, e3, e4⟩
      · cases h
theorem endE_zero {bs : List Bool} (h : endE bs = 0) : bs.length < 8 ∧ bs = List.replicate bs.length false := by
  unfold endE at h
  split at h
  · cases h
  · rename_i h1
    refine ⟨by omega, ?_⟩
    apply List.ext_getElem (by simp)
    intro i h2 h3
    rw [List.getElem_replicate]
    rcases hb : bs[i] with _ | _
    · rfl
    · exact absurd (.inr (hb ▸ List.getElem_mem h2)) h1
/-- bytes that spell bits and less than a byte of zeros -/
theorem pk_of_up {r : List Nat} {B : List Bool} {k : Nat} (hr : ∀ x ∈ r, x < 256) (h : up r = B ++ List.replicate k false) (hk : k < 8) : pk B = r := by
  refine up_inj _ _ (pk_lt _) hr ?_
  rw [up_pk, h]
  have := congrArg List.length h
  rw [up_length, List.length_append, List.length_replicate] at this
  congr 2
  omega

theorem cget_put (ts : List Int) (vs : List Nat) (h0 : vs ≠ []) (hl : ts.length = vs.length) (hv : vs.length ≤ 120) (ht : ∀ x ∈ ts, I6 x) (hx : ∀ x ∈ vs, x < 18446744073709551616) :
    cget (pk (cbits ts vs)) = .ok (ts, vs) := by
  have h1 := tagOf_in vs
  have hpos : vs.length ≠ 0 := by simpa using h0
  rw [cbits_pk ts vs hv]
  unfold cget
  dsimp only
  rw [if_neg (by omega), if_neg (by omega), show vs.length - 1 + 1 = vs.length by omega, up_pk, List.append_assoc, ← hl, tget_put ts _ ht, hl]
  dsimp only
  rw [vget_put _ vs _ h0 (tagOf_dict vs) hx h1]
  dsimp only
  rw [endE_pad _ (by omega), if_neg (by simp), if_neg (by simp)]
theorem cget_inv {bytes : List Nat} {ts : List Int} {vs : List Nat} (hb : ∀ x ∈ bytes, x < 256) (h : cget bytes = .ok (ts, vs)) :
    vs ≠ [] ∧ ts.length = vs.length ∧ vs.length ≤ 120 ∧ (∀ x ∈ ts, I6 x) ∧ (∀ x ∈ vs, x < 18446744073709551616) ∧ bytes = pk (cbits ts vs) := by
  unfold cget at h
  split at h
  · cases h
  · rename_i tag r1
    split at h
    · cases h
    · rename_i htag
      split at h
      · cases h
      · rename_i n1 r
        split at h
        · cases h
        · rename_i hn
          split at h
          · cases h
          · rename_i ts' bs ht
            split at h
            · cases h
            · rename_i vs' bs' hv
              split at h
              · cases h
              · rename_i he
                split at h
                · cases h
                · rename_i hc
                  cases h
                  obtain ⟨a1, a2, a3⟩ := tget_inv ht
                  obtain ⟨b1, b2, b3⟩ := vget_inv (by omega) hv
                  obtain ⟨c1, c2⟩ := endE_zero (Decidable.not_not.1 he)
                  have hc' : tagOf vs = tag := by omega
                  have hr : up r = (tput ts ++ vput (tagOf vs) vs) ++ List.replicate bs'.length false := by rw [a3, b3, hc', List.append_assoc, ← c2]
                  have hp := pk_of_up (fun x hx => hb x (by simp [hx])) hr c1
                  refine ⟨?_, by omega, by omega, a2, b2, ?_⟩
                  · rintro rfl; simp at b1
                  · rw [cbits_pk ts vs (by omega), hp, hc', b1]
                    rfl
end Go.Proofs.YtjepaneniodbpaaGreatDoor
