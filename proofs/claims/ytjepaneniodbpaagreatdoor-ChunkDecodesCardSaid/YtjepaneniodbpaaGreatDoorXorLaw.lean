/- The plain law of xorval: the bits of a list of values by their differences, and what the bits read as. Nothing of the program is named here. -/
import Derived.Test.YtjepaneniodbpaaGreatDoorBits
import Derived.Lib.BitFns
import Derived.Lib.ItoaNum
namespace Go.Proofs.YtjepaneniodbpaaGreatDoor
open Go

/-- the leading zeros of a word -/
def lz (x : Nat) : Nat := 64 - Lib.bitLen x
def tzF : Nat → Nat → Nat
  | 0, _ => 0
  | f + 1, x => if x % 2 = 1 then 0 else 1 + tzF f (x / 2)
/-- the trailing zeros of a word that is not 0 -/
def tz (x : Nat) : Nat := tzF 64 x
abbrev Win := Option (Nat × Nat)
def fits (win : Win) (x : Nat) : Prop :=
  match win with
  | none => False
  | some (a, b) => a ≤ lz x ∧ b ≤ tz x
instance (win : Win) (x : Nat) : Decidable (fits win x) := by unfold fits; split <;> infer_instance
/-- the bits of a word that is not 0, and the window behind it -/
def xword (win : Win) (x : Nat) : List Bool × Win :=
  match win with
  | some (a, b) => if a ≤ lz x ∧ b ≤ tz x then ([true, false] ++ bitsOf (x / 2 ^ b) (64 - a - b), win)
    else ([true, true] ++ bitsOf (lz x) 6 ++ bitsOf (63 - lz x - tz x) 6 ++ bitsOf (x / 2 ^ tz x) (64 - lz x - tz x), some (lz x, tz x))
  | none => ([true, true] ++ bitsOf (lz x) 6 ++ bitsOf (63 - lz x - tz x) 6 ++ bitsOf (x / 2 ^ tz x) (64 - lz x - tz x), some (lz x, tz x))
def xstep (last : Nat) (win : Win) (v : Nat) : List Bool × Win := if v ^^^ last = 0 then ([false], win) else xword win (v ^^^ last)
def xputF (last : Nat) (win : Win) : List Nat → List Bool
  | [] => []
  | v :: l => (xstep last win v).1 ++ xputF v (xstep last win v).2 l
def xput : List Nat → List Bool
  | [] => []
  | v :: l => bitsOf v 64 ++ xputF v none l

/-- a word inside a window -/
def xbody (last : Nat) (win : Win) (fresh : Bool) (a b : Nat) (r : List Bool) : Except Nat (Nat × Win × List Bool) :=
  if r.length < 64 - a - b then .error 3
  else if bv (r.take (64 - a - b)) * 2 ^ b = 0 then .error 8
  else if fresh = true ∧ (lz (bv (r.take (64 - a - b)) * 2 ^ b) ≠ a ∨ tz (bv (r.take (64 - a - b)) * 2 ^ b) ≠ b ∨ fits win (bv (r.take (64 - a - b)) * 2 ^ b)) then .error 8
  else .ok (last ^^^ (bv (r.take (64 - a - b)) * 2 ^ b), if fresh = true then some (a, b) else win, r.drop (64 - a - b))
def xget1 (last : Nat) (win : Win) : List Bool → Except Nat (Nat × Win × List Bool)
  | [] => .error 3
  | false :: r => .ok (last, win, r)
  | [true] => .error 3
  | true :: false :: r =>
    match win with
    | none => .error 8
    | some (a, b) => xbody last win false a b r
  | true :: true :: r =>
    if r.length < 12 then .error 3
    else if 63 < bv (r.take 6) + bv ((r.drop 6).take 6) then .error 8
    else xbody last win true (bv (r.take 6)) (63 - bv (r.take 6) - bv ((r.drop 6).take 6)) (r.drop 12)
def xgetF (last : Nat) (win : Win) : Nat → List Bool → Except Nat (List Nat × List Bool)
  | 0, bs => .ok ([], bs)
  | n + 1, bs =>
    match xget1 last win bs with
    | .error e => .error e
    | .ok (v, win', r) =>
      match xgetF v win' n r with
      | .error e => .error e
      | .ok (l, r') => .ok (v :: l, r')
def xget : Nat → List Bool → Except Nat (List Nat × List Bool)
  | 0, bs => .ok ([], bs)
  | n + 1, bs =>
    if bs.length < 64 then .error 3
    else match xgetF (bv (bs.take 64)) none n (bs.drop 64) with
      | .error e => .error e
      | .ok (l, r) => .ok (bv (bs.take 64) :: l, r)

/-! ### leading and trailing zeros -/
theorem pow64 : (2 : Nat) ^ 64 = 18446744073709551616 := by decide
theorem lz_spec {x : Nat} (h0 : x ≠ 0) (h : x < 18446744073709551616) : lz x ≤ 63 ∧ 2 ^ (63 - lz x) ≤ x ∧ x < 2 ^ (64 - lz x) := by
  obtain ⟨h1, h2, h3⟩ := Lib.bitLenAux_bounds 64 x (by rw [pow64]; exact h) h0
  have h4 := Lib.bitLen_le x 64 (by omega) (by rw [pow64]; exact h)
  unfold lz
  unfold Lib.bitLen at h4 ⊢
  generalize Lib.bitLenAux 64 x = k at *
  refine ⟨by omega, ?_, ?_⟩
  · rwa [show 63 - (64 - k) = k - 1 from by omega]
  · rwa [show 64 - (64 - k) = k from by omega]
theorem lz_eq {x k : Nat} (hk : k ≤ 63) (h1 : 2 ^ (63 - k) ≤ x) (h2 : x < 2 ^ (64 - k)) : lz x = k := by
  have h64 : x < 18446744073709551616 := by
    have : 2 ^ (64 - k) ≤ 2 ^ 64 := Nat.pow_le_pow_right (by omega) (by omega)
    rw [pow64] at this; omega
  have h0 : x ≠ 0 := by have : 0 < 2 ^ (63 - k) := Nat.pow_pos (by omega); omega
  obtain ⟨h3, h4, h5⟩ := lz_spec h0 h64
  by_cases h : lz x < k
  · have : 2 ^ (64 - k) ≤ 2 ^ (63 - lz x) := Nat.pow_le_pow_right (by omega) (by omega)
    omega
  · by_cases h' : k < lz x
    · have : 2 ^ (64 - lz x) ≤ 2 ^ (63 - k) := Nat.pow_le_pow_right (by omega) (by omega)
      omega
    · omega
theorem tzF_spec : ∀ (f x : Nat), x ≠ 0 → x < 2 ^ f → ∃ m, x = 2 ^ tzF f x * (2 * m + 1) ∧ tzF f x < f := by
  intro f
  induction f with
  | zero => intro x h0 h; simp at h; omega
  | succ f ih =>
    intro x h0 h
    unfold tzF
    split
    · exact ⟨x / 2, by simp; omega, by omega⟩
    · obtain ⟨m, h1, h2⟩ := ih (x / 2) (by omega) (by rw [Nat.pow_succ] at h; omega)
      refine ⟨m, ?_, by omega⟩
      rw [Nat.add_comm 1, Nat.pow_succ, Nat.mul_comm (2 ^ _) 2, Nat.mul_assoc, ← h1]
      omega
theorem tz_spec {x : Nat} (h0 : x ≠ 0) (h : x < 18446744073709551616) : ∃ m, x = 2 ^ tz x * (2 * m + 1) ∧ tz x ≤ 63 := by
  obtain ⟨m, h1, h2⟩ := tzF_spec 64 x h0 (by rw [pow64]; exact h)
  exact ⟨m, h1, by unfold tz; omega⟩
theorem odd_inj {s t m k : Nat} (h : 2 ^ s * (2 * m + 1) = 2 ^ t * (2 * k + 1)) : s = t := by
  have key : ∀ {s t m k : Nat}, s < t → 2 ^ s * (2 * m + 1) = 2 ^ t * (2 * k + 1) → False := by
    intro s t m k hst h
    obtain ⟨d, rfl⟩ : ∃ d, t = s + (d + 1) := ⟨t - s - 1, by omega⟩
    rw [Nat.pow_add, Nat.mul_assoc] at h
    have := Nat.eq_of_mul_eq_mul_left (Nat.pow_pos (by omega)) h
    rw [Nat.pow_succ, Nat.mul_comm (2 ^ d) 2, Nat.mul_assoc] at this
    omega
  by_cases h1 : s < t
  · exact (key h1 h).elim
  · by_cases h2 : t < s
    · exact (key h2 h.symm).elim
    · omega
theorem tz_eq {x t m : Nat} (h : x < 18446744073709551616) (e : x = 2 ^ t * (2 * m + 1)) : tz x = t := by
  have h0 : x ≠ 0 := by
    rw [e]
    exact Nat.mul_ne_zero (Nat.pos_iff_ne_zero.1 (Nat.pow_pos (by omega))) (by omega)
  obtain ⟨k, h1, _⟩ := tz_spec h0 h
  exact (odd_inj (e.symm.trans h1)).symm
theorem lz_tz {x : Nat} (h0 : x ≠ 0) (h : x < 18446744073709551616) : lz x + tz x ≤ 63 := by
  obtain ⟨h1, h2, h3⟩ := lz_spec h0 h
  obtain ⟨m, h4, h5⟩ := tz_spec h0 h
  have : 2 ^ tz x ≤ 2 ^ tz x * (2 * m + 1) := Nat.le_mul_of_pos_right _ (by omega)
  rw [← h4] at this
  by_cases hh : lz x + tz x ≤ 63
  · exact hh
  · have : 2 ^ (64 - lz x) ≤ 2 ^ tz x := Nat.pow_le_pow_right (by omega) (by omega)
    omega
/-- what lies inside a window that a word fits -/
theorem win_in {x a b : Nat} (h0 : x ≠ 0) (h : x < 18446744073709551616) (ha : a ≤ lz x) (hb : b ≤ tz x) : x / 2 ^ b < 2 ^ (64 - a - b) ∧ x / 2 ^ b * 2 ^ b = x := by
  obtain ⟨h1, h2, h3⟩ := lz_spec h0 h
  obtain ⟨m, h4, h5⟩ := tz_spec h0 h
  have hab := lz_tz h0 h
  have hd : x / 2 ^ b * 2 ^ b = x := by
    rw [Nat.div_mul_cancel]
    rw [h4]
    exact Nat.dvd_trans (Nat.pow_dvd_pow 2 hb) (Nat.dvd_mul_right _ _)
  refine ⟨?_, hd⟩
  rw [Nat.div_lt_iff_lt_mul (Nat.pow_pos (by omega)), ← Nat.pow_add]
  exact Nat.lt_of_lt_of_le h3 (Nat.pow_le_pow_right (by omega) (by omega))

/-! ### there and back -/
theorem xor_back (v last : Nat) : last ^^^ (v ^^^ last) = v := by
  rw [Nat.xor_comm v last, ← Nat.xor_assoc, Nat.xor_self, Nat.zero_xor]
theorem xor_zero {v last : Nat} (h : v ^^^ last = 0) : v = last := by
  have := xor_back v last
  rw [h, Nat.xor_zero] at this
  exact this.symm
theorem xor_lt64 {x y : Nat} (hx : x < 18446744073709551616) (hy : y < 18446744073709551616) : x ^^^ y < 18446744073709551616 := by
  rw [← pow64] at *
  exact Nat.xor_lt_two_pow hx hy
theorem cut_at {α : Type} (a r : List α) {n : Nat} (h : a.length = n) : (a ++ r).take n = a ∧ (a ++ r).drop n = r := ⟨List.take_left' h, List.drop_left' h⟩
theorem xbody_put {last x a b : Nat} {win : Win} {fresh : Bool} {r : List Bool} (h0 : x ≠ 0) (h : x < 18446744073709551616) (ha : a ≤ lz x) (hb : b ≤ tz x) (hf : fresh = true → a = lz x ∧ b = tz x ∧ ¬ fits win x) :
    xbody last win fresh a b (bitsOf (x / 2 ^ b) (64 - a - b) ++ r) = .ok (last ^^^ x, if fresh = true then some (a, b) else win, r) := by
  obtain ⟨h1, h2⟩ := win_in h0 h ha hb
  have hl := bitsOf_length (x / 2 ^ b) (64 - a - b)
  obtain ⟨e1, e2⟩ := cut_at (bitsOf (x / 2 ^ b) (64 - a - b)) r hl
  unfold xbody
  rw [e1, e2, bv_bitsOf, Nat.mod_eq_of_lt h1, h2, if_neg (by rw [List.length_append, hl]; omega), if_neg h0, if_neg]
  rintro ⟨rfl, hh⟩
  obtain ⟨rfl, rfl, hn⟩ := hf rfl
  rcases hh with hh | hh | hh
  · exact hh rfl
  · exact hh rfl
  · exact hn hh
theorem xget1_put {last v : Nat} {win : Win} (r : List Bool) (hl : last < 18446744073709551616) (hv : v < 18446744073709551616) : xget1 last win ((xstep last win v).1 ++ r) = .ok (v, (xstep last win v).2, r) := by
  have hx := xor_lt64 hv hl
  have hb := xor_back v last
  unfold xstep
  split
  · rename_i h
    simp only [List.cons_append, List.nil_append, xget1]
    rw [xor_zero h]
  · rename_i h0
    generalize hxx : v ^^^ last = x at *
    have hab := lz_tz h0 hx
    have fresh : ¬ fits win x → xget1 last win (([true, true] ++ bitsOf (lz x) 6 ++ bitsOf (63 - lz x - tz x) 6 ++ bitsOf (x / 2 ^ tz x) (64 - lz x - tz x)) ++ r) = .ok (v, some (lz x, tz x), r) := by
      intro hn
      have l1 := bitsOf_length (lz x) 6
      have l2 := bitsOf_length (63 - lz x - tz x) 6
      simp only [List.append_assoc, List.cons_append, List.nil_append, xget1]
      have hlen : ¬ (bitsOf (lz x) 6 ++ (bitsOf (63 - lz x - tz x) 6 ++ (bitsOf (x / 2 ^ tz x) (64 - lz x - tz x) ++ r))).length < 12 := by
        rw [List.length_append, List.length_append, l1, l2]; omega
      have d12 : (bitsOf (lz x) 6 ++ (bitsOf (63 - lz x - tz x) 6 ++ (bitsOf (x / 2 ^ tz x) (64 - lz x - tz x) ++ r))).drop 12 = bitsOf (x / 2 ^ tz x) (64 - lz x - tz x) ++ r := by
        rw [← List.append_assoc]
        exact List.drop_left' (by rw [List.length_append, l1, l2])
      rw [if_neg hlen, d12, (cut_at _ _ l1).1, (cut_at _ _ l1).2, (cut_at _ _ l2).1, bv_bitsOf, bv_bitsOf, Nat.mod_eq_of_lt (by omega), Nat.mod_eq_of_lt (by omega), if_neg (by omega),
        show 63 - lz x - (63 - lz x - tz x) = tz x from by omega, xbody_put h0 hx (Nat.le_refl _) (Nat.le_refl _) (fun _ => ⟨rfl, rfl, hn⟩), hb]
      rfl
    unfold xword
    cases win with
    | none => exact fresh (fun h => h)
    | some ab =>
      obtain ⟨a, b⟩ := ab
      by_cases hf : a ≤ lz x ∧ b ≤ tz x
      · simp only [if_pos hf, List.cons_append, List.nil_append, xget1]
        rw [xbody_put h0 hx hf.1 hf.2 (fun h => by cases h), hb]
        rfl
      · simp only [if_neg hf]
        exact fresh hf
theorem xgetF_put : ∀ (l : List Nat) (last : Nat) (win : Win) (r : List Bool), last < 18446744073709551616 → (∀ v ∈ l, v < 18446744073709551616) → xgetF last win l.length (xputF last win l ++ r) = .ok (l, r) := by
  intro l
  induction l with
  | nil => intro last win r _ _; rfl
  | cons v l ih =>
    intro last win r hl hv
    have hv0 := hv v (by simp)
    simp only [xputF, List.length_cons, List.append_assoc, xgetF]
    rw [xget1_put _ hl hv0]
    simp only
    rw [ih v _ r hv0 (fun x hx => hv x (by simp [hx]))]
theorem xget_put (l : List Nat) (r : List Bool) (hv : ∀ v ∈ l, v < 18446744073709551616) : xget l.length (xput l ++ r) = .ok (l, r) := by
  cases l with
  | nil => rfl
  | cons v l =>
    have hv0 := hv v (by simp)
    have e := bitsOf_length v 64
    simp only [xput, xget, List.length_cons, List.append_assoc]
    rw [if_neg (by rw [List.length_append, e]; omega), (cut_at _ _ e).1, (cut_at _ _ e).2, bv_bitsOf, pow64, Nat.mod_eq_of_lt hv0, xgetF_put l v none r hv0 (fun x hx => hv x (by simp [hx]))]

/-- a window that holds a word -/
def WinOk : Win → Prop
  | none => True
  | some (a, b) => a + b ≤ 63
theorem bits_take {r : List Bool} {n : Nat} (h : n ≤ r.length) : bitsOf (bv (r.take n)) n = r.take n ∧ bv (r.take n) < 2 ^ n := by
  have hl : (r.take n).length = n := by rw [List.length_take]; omega
  have h1 := bitsOf_bv (r.take n)
  have h2 := bv_lt (r.take n)
  rw [hl] at h1 h2
  exact ⟨h1, h2⟩
theorem xbody_inv {last v a b : Nat} {win win' : Win} {fresh : Bool} {r r' : List Bool} (hab : a + b ≤ 63) (hl : last < 18446744073709551616) (h : xbody last win fresh a b r = .ok (v, win', r')) :
    v < 18446744073709551616 ∧ v ^^^ last ≠ 0 ∧ r = bitsOf ((v ^^^ last) / 2 ^ b) (64 - a - b) ++ r' ∧ a ≤ lz (v ^^^ last) ∧ b ≤ tz (v ^^^ last) ∧
      (if fresh = true then lz (v ^^^ last) = a ∧ tz (v ^^^ last) = b ∧ ¬ fits win (v ^^^ last) ∧ win' = some (a, b) else win' = win) := by
  unfold xbody at h
  split at h
  · cases h
  · rename_i hlen
    obtain ⟨h1, h2⟩ := bits_take (r := r) (n := 64 - a - b) (by omega)
    have hcut := (List.take_append_drop (64 - a - b) r).symm
    rw [← h1] at hcut
    generalize bv (r.take (64 - a - b)) = u at *
    split at h
    · cases h
    · rename_i hx0
      have hp : 0 < 2 ^ b := Nat.pow_pos (by omega)
      have hx : u * 2 ^ b < 2 ^ (64 - a) := by
        rw [show 64 - a = (64 - a - b) + b from by omega, Nat.pow_add]
        exact (Nat.mul_lt_mul_right hp).2 h2
      have hxl : u * 2 ^ b < 18446744073709551616 := by
        have : 2 ^ (64 - a) ≤ 2 ^ 64 := Nat.pow_le_pow_right (by omega) (by omega)
        rw [pow64] at this; omega
      have hdiv : u * 2 ^ b / 2 ^ b = u := Nat.mul_div_cancel _ hp
      have ha : a ≤ lz (u * 2 ^ b) := by
        obtain ⟨g1, g2, g3⟩ := lz_spec hx0 hxl
        by_cases hh : a ≤ lz (u * 2 ^ b)
        · exact hh
        · have : 2 ^ (64 - a) ≤ 2 ^ (63 - lz (u * 2 ^ b)) := Nat.pow_le_pow_right (by omega) (by omega)
          omega
      have hb : b ≤ tz (u * 2 ^ b) := by
        have hu : u ≠ 0 := by intro e; subst e; simp at hx0
        have hul : u < 18446744073709551616 := by
          have : u ≤ u * 2 ^ b := Nat.le_mul_of_pos_right _ hp
          omega
        obtain ⟨m, g1, g2⟩ := tz_spec hu hul
        rw [tz_eq (t := tz u + b) (m := m) hxl (by rw [Nat.pow_add, Nat.mul_right_comm, ← g1])]
        omega
      split at h
      · cases h
      · rename_i hfr
        cases h
        have e : (last ^^^ (u * 2 ^ b)) ^^^ last = u * 2 ^ b := by
          rw [Nat.xor_comm last, Nat.xor_assoc, Nat.xor_self, Nat.xor_zero]
        rw [e]
        refine ⟨xor_lt64 hl hxl, hx0, by rw [hdiv]; exact hcut, ha, hb, ?_⟩
        cases fresh
        · simp
        · simp only [true_and, not_or] at hfr
          simp only [if_true]
          exact ⟨Decidable.not_not.1 hfr.1, Decidable.not_not.1 hfr.2.1, hfr.2.2, trivial⟩
theorem xget1_inv {last v : Nat} {win win' : Win} {bs r : List Bool} (hw : WinOk win) (hl : last < 18446744073709551616) (h : xget1 last win bs = .ok (v, win', r)) :
    v < 18446744073709551616 ∧ bs = (xstep last win v).1 ++ r ∧ win' = (xstep last win v).2 ∧ WinOk win' := by
  match bs, h with
  | [], h => cases h
  | false :: r1, h =>
    simp only [xget1] at h
    cases h
    simp [xstep, hl, hw]
  | [true], h => cases h
  | true :: false :: r1, h =>
    simp only [xget1] at h
    cases win with
    | none => cases h
    | some ab =>
      obtain ⟨a, b⟩ := ab
      obtain ⟨h1, h2, h3, h4, h5, h6⟩ := xbody_inv hw hl h
      simp only [Bool.false_eq_true, if_false] at h6
      subst h6
      unfold xstep xword
      rw [if_neg h2]
      simp only [if_pos (And.intro h4 h5)]
      exact ⟨h1, by rw [h3]; rfl, trivial, hw⟩
  | true :: true :: r1, h =>
    simp only [xget1] at h
    split at h
    · cases h
    · rename_i hlen
      obtain ⟨g1, g2⟩ := bits_take (r := r1) (n := 6) (by omega)
      obtain ⟨g3, g4⟩ := bits_take (r := r1.drop 6) (n := 6) (by rw [List.length_drop]; omega)
      have hc1 := (List.take_append_drop 6 r1).symm
      have hc2 := (List.take_append_drop 6 (r1.drop 6)).symm
      rw [List.drop_drop] at hc2
      rw [← g1] at hc1
      rw [← g3] at hc2
      generalize bv (r1.take 6) = p at *
      generalize bv ((r1.drop 6).take 6) = q at *
      split at h
      · cases h
      · rename_i hpq
        obtain ⟨h1, h2, h3, h4, h5, h6⟩ := xbody_inv (by omega) hl h
        simp only [if_true] at h6
        obtain ⟨rfl, h7, h8, rfl⟩ := h6
        unfold xstep
        rw [if_neg h2]
        have hq : 63 - lz (v ^^^ last) - tz (v ^^^ last) = q := by omega
        have hxw : xword win (v ^^^ last) = ([true, true] ++ bitsOf (lz (v ^^^ last)) 6 ++ bitsOf (63 - lz (v ^^^ last) - tz (v ^^^ last)) 6 ++ bitsOf ((v ^^^ last) / 2 ^ tz (v ^^^ last)) (64 - lz (v ^^^ last) - tz (v ^^^ last)), some (lz (v ^^^ last), tz (v ^^^ last))) := by
          unfold xword
          cases win with
          | none => rfl
          | some ab => simp only [if_neg (show ¬ (ab.1 ≤ lz (v ^^^ last) ∧ ab.2 ≤ tz (v ^^^ last)) from h8)]
        rw [hxw]
        refine ⟨h1, ?_, by simp only; rw [h7], by simp only [WinOk]; omega⟩
        simp only [List.append_assoc, List.cons_append, List.nil_append]
        rw [hq]
        rw [hc1, hc2, h3, h7]
theorem xgetF_inv : ∀ (n : Nat) (last : Nat) (win : Win) (bs r : List Bool) (l : List Nat), WinOk win → last < 18446744073709551616 → xgetF last win n bs = .ok (l, r) → l.length = n ∧ (∀ v ∈ l, v < 18446744073709551616) ∧ bs = xputF last win l ++ r := by
  intro n
  induction n with
  | zero => intro last win bs r l _ _ h; cases h; exact ⟨rfl, by simp, rfl⟩
  | succ n ih =>
    intro last win bs r l hw hl h
    unfold xgetF at h
    split at h
    · cases h
    · rename_i v win' r1 h1
      obtain ⟨g1, g2, g3, g4⟩ := xget1_inv hw hl h1
      split at h
      · cases h
      · rename_i l1 r2 h2
        cases h
        obtain ⟨h3, h4, h5⟩ := ih _ _ _ _ _ g4 g1 h2
        refine ⟨by simp [h3], ?_, ?_⟩
        · intro y hy
          rcases List.mem_cons.1 hy with rfl | hy
          · exact g1
          · exact h4 y hy
        · rw [g2, h5, g3, xputF, List.append_assoc]
theorem xget_inv {n : Nat} {bs r : List Bool} {l : List Nat} (h : xget n bs = .ok (l, r)) : l.length = n ∧ (∀ v ∈ l, v < 18446744073709551616) ∧ bs = xput l ++ r := by
  cases n with
  | zero => cases h; exact ⟨rfl, by simp, rfl⟩
  | succ n =>
    simp only [xget] at h
    split at h
    · cases h
    · rename_i hl
      obtain ⟨g1, g2⟩ := bits_take (r := bs) (n := 64) (by omega)
      rw [pow64] at g2
      have hc := (List.take_append_drop 64 bs).symm
      rw [← g1] at hc
      split at h
      · cases h
      · rename_i l1 r1 h1
        cases h
        obtain ⟨h3, h4, h5⟩ := xgetF_inv _ _ none _ _ _ trivial g2 h1
        refine ⟨by simp [h3], ?_, ?_⟩
        · intro y hy
          rcases List.mem_cons.1 hy with rfl | hy
          · exact g2
          · exact h4 y hy
        · simp only [xput]
          rw [List.append_assoc, ← h5]
          exact hc
theorem xput_length_le (l : List Nat) (hv : ∀ v ∈ l, v < 18446744073709551616) : (xput l).length ≤ 78 * l.length := by
  have hw : ∀ win x, (xword win x).1.length ≤ 78 := by
    intro win x
    unfold xword
    split
    · split <;> simp [bitsOf_length] <;> omega
    · simp [bitsOf_length]; omega
  have hs : ∀ last win v, (xstep last win v).1.length ≤ 78 := by
    intro last win v
    unfold xstep
    split
    · simp
    · exact hw _ _
  have hf : ∀ (l : List Nat) last win, (xputF last win l).length ≤ 78 * l.length := by
    intro l
    induction l with
    | nil => intro last win; simp [xputF]
    | cons x l ih =>
      intro last win
      simp only [xputF, List.length_append, List.length_cons]
      have := ih x (xstep last win x).2
      have := hs last win x
      omega
  cases l with
  | nil => simp [xput]
  | cons t l =>
    simp only [xput, List.length_append, bitsOf_length, List.length_cons]
    have := hf l t none
    omega
end Go.Proofs.YtjepaneniodbpaaGreatDoor
