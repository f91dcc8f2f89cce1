/- The plain law of times: the bits of a list of times, and what the bits read as. Nothing of the program is named here. -/
import Derived.Test.YtjepaneniodbpaaGreatDoorBits
import Derived.IntWalk
import Derived.RowKit
namespace Go.Proofs.YtjepaneniodbpaaGreatDoor
open Go Go.RowKit

/-- the word of a signed number -/
def uw (x : Int) : Nat := (x % 18446744073709551616).toNat
/-- the form of a number -/
def tform (x : Int) : Nat := if x = 0 then 0 else if -64 ≤ x ∧ x ≤ 63 then 1 else if -2048 ≤ x ∧ x ≤ 2047 then 2 else if -2147483648 ≤ x ∧ x ≤ 2147483647 then 3 else 4
def tpre : Nat → Nat
  | 0 => 0 | 1 => 2 | 2 => 6 | 3 => 14 | _ => 15
def tlen : Nat → Nat
  | 0 => 1 | 1 => 2 | 2 => 3 | 3 => 4 | _ => 4
def twid : Nat → Nat
  | 0 => 0 | 1 => 7 | 2 => 12 | 3 => 32 | _ => 64
def tbits (x : Int) : List Bool := bitsOf (tpre (tform x)) (tlen (tform x)) ++ bitsOf (uw x) (twid (tform x))
/-- the changes of times behind t, the last difference being d -/
def chgF (t d : Int) : List Int → List Int
  | [] => []
  | t' :: r => wrap64 (wrap64 (t' - t) - d) :: chgF t' (wrap64 (t' - t)) r
def chg : List Int → List Int
  | [] => []
  | t :: r => chgF t 0 r
def tput : List Int → List Bool
  | [] => []
  | t :: r => bitsOf (uw t) 64 ++ (chgF t 0 r).flatMap tbits

/-- the signed number whose lowest w bits are u -/
def sext (u w : Nat) : Int := if w = 0 then 0 else if 2 ^ (w - 1) ≤ u then (u : Int) - 2 ^ w else u
/-- the number of a form and the bits behind it: at most f bits, k behind us -/
def gform : Nat → Nat → List Bool → Option (Nat × List Bool)
  | 0, k, bs => some (k, bs)
  | _ + 1, _, [] => none
  | _ + 1, k, false :: r => some (k, r)
  | f + 1, k, true :: r => gform f (k + 1) r
def gchg (bs : List Bool) : Except Nat (Int × List Bool) :=
  match gform 4 0 bs with
  | none => .error 3
  | some (k, r) =>
    if r.length < twid k then .error 3
    else if tform (sext (bv (r.take (twid k))) (twid k)) = k then .ok (sext (bv (r.take (twid k))) (twid k), r.drop (twid k)) else .error 8
def tgetF (t d : Int) : Nat → List Bool → Except Nat (List Int × List Bool)
  | 0, bs => .ok ([], bs)
  | n + 1, bs =>
    match gchg bs with
    | .error e => .error e
    | .ok (x, r) =>
      match tgetF (wrap64 (t + wrap64 (d + x))) (wrap64 (d + x)) n r with
      | .error e => .error e
      | .ok (l, r') => .ok (wrap64 (t + wrap64 (d + x)) :: l, r')
def tget : Nat → List Bool → Except Nat (List Int × List Bool)
  | 0, bs => .ok ([], bs)
  | n + 1, bs =>
    if bs.length < 64 then .error 3
    else match tgetF (wrap64 (bv (bs.take 64))) 0 n (bs.drop 64) with
      | .error e => .error e
      | .ok (l, r) => .ok (wrap64 (bv (bs.take 64)) :: l, r)

/-- a number of 64 bits, with its sign -/
def I6 (x : Int) : Prop := -9223372036854775808 ≤ x ∧ x ≤ 9223372036854775807
theorem I6.w (x : Int) : I6 (wrap64 x) := by unfold I6 wrap64; omega
theorem uw_lt (x : Int) : uw x < 18446744073709551616 := by unfold uw; omega
theorem uw_back {x : Int} (h : I6 x) : wrap64 (uw x) = x := by
  unfold I6 at h; unfold uw wrap64; omega
theorem uw_nat {u : Nat} (h : u < 18446744073709551616) : uw (wrap64 u) = u := by unfold uw wrap64; omega
theorem tform_le (x : Int) : tform x ≤ 4 := by unfold tform; split <;> (try omega) <;> split <;> (try omega) <;> split <;> (try omega) <;> split <;> omega
theorem sext_uw {x : Int} (h : I6 x) : sext (uw x % 2 ^ twid (tform x)) (twid (tform x)) = x := by
  unfold I6 at h
  unfold tform
  split
  · rename_i h0; subst h0; rfl
  · split
    · rename_i h0 h1
      simp only [twid, sext, uw]
      split <;> omega
    · split
      · rename_i h0 h1 h2
        simp only [twid, sext, uw]
        split <;> omega
      · split
        · rename_i h0 h1 h2 h3
          simp only [twid, sext, uw]
          split <;> omega
        · rename_i h0 h1 h2 h3
          simp only [twid, sext, uw]
          split <;> omega
theorem uw_sext {u k : Nat} (hk : k ≤ 4) (h : u < 2 ^ twid k) : uw (sext u (twid k)) % 2 ^ twid k = u := by
  have : k = 0 ∨ k = 1 ∨ k = 2 ∨ k = 3 ∨ k = 4 := by omega
  rcases this with rfl | rfl | rfl | rfl | rfl <;> simp only [twid, sext, uw] at h ⊢
  · omega
  all_goals
    rw [if_neg (by omega)]
    split <;> omega
theorem sext_in {u k : Nat} (hk : k ≤ 4) (h : u < 2 ^ twid k) : I6 (sext u (twid k)) := by
  unfold I6
  have : k = 0 ∨ k = 1 ∨ k = 2 ∨ k = 3 ∨ k = 4 := by omega
  rcases this with rfl | rfl | rfl | rfl | rfl <;> simp only [twid, sext] at h ⊢
  · omega
  all_goals
    rw [if_neg (by omega)]
    split <;> omega
/-- what a form's bits read as -/
theorem gform_pre {k : Nat} (hk : k ≤ 4) (r : List Bool) : gform 4 0 (bitsOf (tpre k) (tlen k) ++ r) = some (k, r) := by
  have : k = 0 ∨ k = 1 ∨ k = 2 ∨ k = 3 ∨ k = 4 := by omega
  rcases this with rfl | rfl | rfl | rfl | rfl <;> rfl
theorem gform_inv {bs r : List Bool} {k : Nat} (h : gform 4 0 bs = some (k, r)) : k ≤ 4 ∧ bs = bitsOf (tpre k) (tlen k) ++ r := by
  match bs, h with
  | [], h => cases h
  | false :: r', h => cases h; exact ⟨by omega, rfl⟩
  | [true], h => cases h
  | true :: false :: r', h => cases h; exact ⟨by omega, rfl⟩
  | [true, true], h => cases h
  | true :: true :: false :: r', h => cases h; exact ⟨by omega, rfl⟩
  | [true, true, true], h => cases h
  | true :: true :: true :: false :: r', h => cases h; exact ⟨by omega, rfl⟩
  | true :: true :: true :: true :: r', h => cases h; exact ⟨by omega, rfl⟩
theorem gchg_bits {x : Int} (h : I6 x) (r : List Bool) : gchg (tbits x ++ r) = .ok (x, r) := by
  unfold gchg tbits
  rw [List.append_assoc, gform_pre (tform_le x)]
  have hl := bitsOf_length (uw x) (twid (tform x))
  have e1 : (bitsOf (uw x) (twid (tform x)) ++ r).take (twid (tform x)) = bitsOf (uw x) (twid (tform x)) := List.take_left' hl
  have e2 : (bitsOf (uw x) (twid (tform x)) ++ r).drop (twid (tform x)) = r := List.drop_left' hl
  simp only [e1, e2, bv_bitsOf, sext_uw h]
  rw [if_neg (by rw [List.length_append, hl]; omega)]; rfl
theorem gchg_inv {bs r : List Bool} {x : Int} (h : gchg bs = .ok (x, r)) : I6 x ∧ bs = tbits x ++ r := by
  unfold gchg at h
  split at h
  · cases h
  · rename_i k r1 hk
    obtain ⟨hk4, rfl⟩ := gform_inv hk
    split at h
    · cases h
    · rename_i hl
      split at h
      · rename_i hf
        cases h
        have hlt : (r1.take (twid k)).length = twid k := by rw [List.length_take]; omega
        have hb := bv_lt (r1.take (twid k))
        rw [hlt] at hb
        refine ⟨sext_in hk4 hb, ?_⟩
        unfold tbits
        rw [hf, ← bitsOf_mod (uw _), uw_sext hk4 hb, List.append_assoc]
        congr 1
        have := bitsOf_bv (r1.take (twid k))
        rw [hlt] at this
        rw [this, List.take_append_drop]
      · cases h
theorem wrap_add_sub {d x : Int} (hx : I6 x) : wrap64 (d + wrap64 (x - d)) = x := by
  unfold I6 at hx; unfold wrap64; omega
theorem wrap_sub_add {d x : Int} (hx : I6 x) : wrap64 (wrap64 (d + x) - d) = x := by
  unfold I6 at hx; unfold wrap64; omega
theorem tgetF_put : ∀ (l : List Int) (t d : Int) (r : List Bool), I6 t → I6 d → (∀ x ∈ l, I6 x) → tgetF t d l.length ((chgF t d l).flatMap tbits ++ r) = .ok (l, r) := by
  intro l
  induction l with
  | nil => intro t d r _ _ _; rfl
  | cons t' l ih =>
    intro t d r ht hd hl
    have ht' := hl t' (by simp)
    simp only [chgF, List.flatMap_cons, List.length_cons, List.append_assoc, tgetF]
    rw [gchg_bits (I6.w _)]
    simp only [wrap_add_sub (I6.w _), wrap_add_sub ht']
    rw [ih t' _ r ht' (I6.w _) (fun x hx => hl x (by simp [hx]))]
theorem tget_put (l : List Int) (r : List Bool) (hl : ∀ x ∈ l, I6 x) : tget l.length (tput l ++ r) = .ok (l, r) := by
  cases l with
  | nil => rfl
  | cons t l =>
    have ht := hl t (by simp)
    have e := bitsOf_length (uw t) 64
    simp only [tput, tget, List.length_cons, List.append_assoc]
    rw [if_neg (by rw [List.length_append, e]; omega), List.take_left' e, List.drop_left' e, bv_bitsOf, Nat.mod_eq_of_lt (uw_lt t), uw_back ht, tgetF_put l t 0 r ht (by unfold I6; omega) (fun x hx => hl x (by simp [hx]))]
theorem tgetF_inv : ∀ (n : Nat) (t d : Int) (bs r : List Bool) (l : List Int), I6 t → I6 d → tgetF t d n bs = .ok (l, r) → l.length = n ∧ (∀ x ∈ l, I6 x) ∧ bs = (chgF t d l).flatMap tbits ++ r := by
  intro n
  induction n with
  | zero => intro t d bs r l _ _ h; cases h; exact ⟨rfl, by simp, rfl⟩
  | succ n ih =>
    intro t d bs r l ht hd h
    unfold tgetF at h
    split at h
    · cases h
    · rename_i x r1 hx
      obtain ⟨hx6, rfl⟩ := gchg_inv hx
      split at h
      · cases h
      · rename_i l1 r2 h2
        cases h
        obtain ⟨h3, h4, h5⟩ := ih _ _ _ _ _ (I6.w _) (I6.w _) h2
        refine ⟨by simp [h3], ?_, ?_⟩
        · intro y hy
          rcases List.mem_cons.1 hy with rfl | hy
          · exact I6.w _
          · exact h4 y hy
        · simp only [chgF, List.flatMap_cons, wrap_sub_add (I6.w _), wrap_sub_add hx6]
          rw [h5, List.append_assoc]
theorem tget_inv {n : Nat} {bs r : List Bool} {l : List Int} (h : tget n bs = .ok (l, r)) : l.length = n ∧ (∀ x ∈ l, I6 x) ∧ bs = tput l ++ r := by
  cases n with
  | zero => cases h; exact ⟨rfl, by simp, rfl⟩
  | succ n =>
    simp only [tget] at h
    split at h
    · cases h
    · rename_i hl
      split at h
      · cases h
      · rename_i l1 r1 h1
        cases h
        obtain ⟨h3, h4, h5⟩ := tgetF_inv _ _ _ _ _ _ (I6.w _) (by unfold I6; omega) h1
        refine ⟨by simp [h3], ?_, ?_⟩
        · intro y hy
          rcases List.mem_cons.1 hy with rfl | hy
          · exact I6.w _
          · exact h4 y hy
        · have hlt : (bs.take 64).length = 64 := by rw [List.length_take]; omega
          have hb := bv_lt (bs.take 64)
          rw [hlt] at hb
          have e := bitsOf_bv (bs.take 64)
          rw [hlt] at e
          simp only [tput]
          rw [uw_nat (by simpa using hb), e, List.append_assoc, ← h5, List.take_append_drop]
theorem tput_length_le (l : List Int) : (tput l).length ≤ 68 * l.length := by
  have hb : ∀ x, (tbits x).length ≤ 68 := by
    intro x
    unfold tbits
    rw [List.length_append, bitsOf_length, bitsOf_length]
    have := tform_le x
    generalize tform x = k at *
    have : k = 0 ∨ k = 1 ∨ k = 2 ∨ k = 3 ∨ k = 4 := by omega
    rcases this with rfl | rfl | rfl | rfl | rfl <;> simp [tlen, twid]
  have hf : ∀ (l : List Int) t d, ((chgF t d l).flatMap tbits).length ≤ 68 * l.length := by
    intro l
    induction l with
    | nil => intro t d; simp [chgF]
    | cons x l ih =>
      intro t d
      simp only [chgF, List.flatMap_cons, List.length_append, List.length_cons]
      have := ih x (wrap64 (x - t))
      have := hb (wrap64 (wrap64 (x - t) - d))
      omega
  cases l with
  | nil => simp [tput]
  | cons t l =>
    simp only [tput, List.length_append, bitsOf_length, List.length_cons]
    have := hf l t 0
    omega
end Go.Proofs.YtjepaneniodbpaaGreatDoor
