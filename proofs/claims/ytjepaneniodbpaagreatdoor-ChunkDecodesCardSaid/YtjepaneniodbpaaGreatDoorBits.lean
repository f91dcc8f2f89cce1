/- Bits and bytes: plain lists. Nothing of the program is named here. -/
import Init
namespace Go.Proofs.YtjepaneniodbpaaGreatDoor

def b2n (b : Bool) : Nat := if b then 1 else 0
/-- the lowest n bits of x, the highest first -/
def bitsOf (x n : Nat) : List Bool := (List.range n).map fun i => decide (x / 2 ^ (n - 1 - i) % 2 = 1)
/-- the number that bits spell -/
def bv (bs : List Bool) : Nat := bs.foldl (fun a b => 2 * a + b2n b) 0
def bitN (bs : List Bool) (i : Nat) : Nat := b2n (bs.getD i false)
def byteAt (bs : List Bool) (j : Nat) : Nat :=
  128 * bitN bs (8 * j) + 64 * bitN bs (8 * j + 1) + 32 * bitN bs (8 * j + 2) + 16 * bitN bs (8 * j + 3) + 8 * bitN bs (8 * j + 4) + 4 * bitN bs (8 * j + 5) + 2 * bitN bs (8 * j + 6) + bitN bs (8 * j + 7)
/-- bits, padded to bytes -/
def pk (bs : List Bool) : List Nat := (List.range ((bs.length + 7) / 8)).map (byteAt bs)
/-- the bits of bytes -/
def up (l : List Nat) : List Bool := l.flatMap (bitsOf · 8)

theorem b2n_le (b : Bool) : b2n b ≤ 1 := by cases b <;> simp [b2n]
theorem bitsOf_length (x n : Nat) : (bitsOf x n).length = n := by simp [bitsOf]
theorem bitsOf_get (x n i : Nat) (h : i < (bitsOf x n).length) : (bitsOf x n)[i] = decide (x / 2 ^ (n - 1 - i) % 2 = 1) := by simp [bitsOf]
theorem bitsOf_succ (x n : Nat) : bitsOf x (n + 1) = decide (x / 2 ^ n % 2 = 1) :: bitsOf x n := by
  unfold bitsOf
  rw [List.range_succ_eq_map]
  simp only [List.map_cons, List.map_map, Nat.add_sub_cancel, Nat.sub_zero]
  congr 1
  apply List.map_congr_left
  intro i hi
  simp only [Function.comp, Nat.succ_eq_add_one]
  rw [show n - (i + 1) = n - 1 - i from by omega]

theorem bv_append (a b : List Bool) : bv (a ++ b) = bv a * 2 ^ b.length + bv b := by
  have key : ∀ (b : List Bool) (s : Nat), b.foldl (fun a b => 2 * a + b2n b) s = s * 2 ^ b.length + b.foldl (fun a b => 2 * a + b2n b) 0 := by
    intro b
    induction b with
    | nil => intro s; simp
    | cons x l ih =>
      intro s
      simp only [List.foldl_cons, List.length_cons]
      rw [ih (2 * s + b2n x), ih (2 * 0 + b2n x), Nat.pow_succ]
      generalize 2 ^ l.length = p
      rw [Nat.add_mul, Nat.mul_zero, Nat.zero_add]
      have : 2 * s * p = s * (p * 2) := by rw [Nat.mul_comm 2 s, Nat.mul_assoc, Nat.mul_comm 2 p]
      omega
  unfold bv
  rw [List.foldl_append, key b]
theorem bv_nil : bv [] = 0 := rfl
theorem bv_snoc (a : List Bool) (x : Bool) : bv (a ++ [x]) = 2 * bv a + b2n x := by
  simp [bv]
theorem bv_cons (x : Bool) (l : List Bool) : bv (x :: l) = b2n x * 2 ^ l.length + bv l := by
  have := bv_append [x] l
  simpa [bv] using this
theorem bv_lt (bs : List Bool) : bv bs < 2 ^ bs.length := by
  induction bs with
  | nil => simp [bv]
  | cons x l ih =>
    rw [bv_cons, List.length_cons, Nat.pow_succ]
    cases x <;> simp [b2n] <;> omega
theorem bv_bitsOf (x : Nat) : ∀ n, bv (bitsOf x n) = x % 2 ^ n := by
  intro n
  induction n with
  | zero => simp [bitsOf, bv, Nat.mod_one]
  | succ n ih =>
    rw [bitsOf_succ, bv_cons, bitsOf_length, ih, Nat.pow_succ, Nat.mod_mul]
    by_cases h : x / 2 ^ n % 2 = 1
    · simp [b2n, h]; omega
    · have : x / 2 ^ n % 2 = 0 := by omega
      simp [b2n, this]
theorem bitsOf_add (q r n : Nat) : bitsOf (q * 2 ^ n + r) n = bitsOf r n := by
  unfold bitsOf
  apply List.map_congr_left
  intro i hi
  have hi' : i < n := by simpa using hi
  have hd : ∃ p, 2 ^ n = 2 ^ (n - 1 - i) * (2 * p) := ⟨2 ^ i, by rw [← Nat.pow_succ', ← Nat.pow_add]; congr 1; omega⟩
  obtain ⟨p, hp⟩ := hd
  rw [hp, show q * (2 ^ (n - 1 - i) * (2 * p)) + r = 2 ^ (n - 1 - i) * (2 * (q * p)) + r from by
    rw [Nat.mul_left_comm, Nat.mul_left_comm 2, Nat.mul_left_comm q]]
  rw [Nat.mul_add_div (Nat.pow_pos (by omega)), Nat.mul_add_mod]
theorem bitsOf_bv (bs : List Bool) : bitsOf (bv bs) bs.length = bs := by
  induction bs with
  | nil => simp [bitsOf]
  | cons x l ih =>
    have hl := bv_lt l
    have hp : 0 < 2 ^ l.length := by omega
    rw [List.length_cons, bitsOf_succ, bv_cons, bitsOf_add, ih]
    congr 1
    rw [Nat.mul_comm, Nat.mul_add_div hp, Nat.div_eq_of_lt hl]
    cases x <;> simp [b2n]
theorem bitsOf_mod (x n : Nat) : bitsOf (x % 2 ^ n) n = bitsOf x n := by
  have := bitsOf_add (x / 2 ^ n) (x % 2 ^ n) n
  rw [Nat.mul_comm, Nat.div_add_mod] at this
  exact this.symm
theorem bitsOf_inj (x y n : Nat) (hx : x < 2 ^ n) (hy : y < 2 ^ n) (h : bitsOf x n = bitsOf y n) : x = y := by
  have := congrArg bv h
  rwa [bv_bitsOf, bv_bitsOf, Nat.mod_eq_of_lt hx, Nat.mod_eq_of_lt hy] at this

theorem up_nil : up [] = [] := rfl
theorem up_append (a b : List Nat) : up (a ++ b) = up a ++ up b := by simp [up]
theorem up_cons (x : Nat) (l : List Nat) : up (x :: l) = bitsOf x 8 ++ up l := by simp [up]
theorem up_length (l : List Nat) : (up l).length = 8 * l.length := by
  induction l with
  | nil => rfl
  | cons x l ih => rw [up_cons, List.length_append, bitsOf_length, ih, List.length_cons]; omega
theorem up_get (l : List Nat) : ∀ (i : Nat) (h : i < (up l).length), (up l)[i] = decide (l[i / 8]'(by rw [up_length] at h; omega) / 2 ^ (7 - i % 8) % 2 = 1) := by
  induction l with
  | nil => intro i h; simp [up] at h
  | cons x l ih =>
    intro i h
    have hl := up_length (x :: l)
    rw [List.length_cons] at hl
    have e : (up (x :: l))[i] = (bitsOf x 8 ++ up l)[i]'(by rw [← up_cons]; exact h) := by simp only [up_cons]
    rw [e]
    by_cases hi : i < 8
    · rw [List.getElem_append_left (by rw [bitsOf_length]; exact hi), bitsOf_get]
      have h1 : i / 8 = 0 := by omega
      have h2 : i % 8 = i := by omega
      simp [h1, h2]
    · rw [List.getElem_append_right (by rw [bitsOf_length]; omega)]
      simp only [bitsOf_length]
      rw [ih (i - 8)]
      have h1 : i / 8 = (i - 8) / 8 + 1 := by omega
      have h2 : (i - 8) % 8 = i % 8 := by omega
      simp only [h1, h2, List.getElem_cons_succ]

theorem pk_length (bs : List Bool) : (pk bs).length = (bs.length + 7) / 8 := by simp [pk]
theorem pk_get (bs : List Bool) (j : Nat) (h : j < (pk bs).length) : (pk bs)[j] = byteAt bs j := by simp [pk]
theorem bitN_lt (bs : List Bool) (i : Nat) : bitN bs i ≤ 1 := b2n_le _
theorem byteAt_lt (bs : List Bool) (j : Nat) : byteAt bs j < 256 := by
  unfold byteAt
  have h0 := bitN_lt bs (8 * j); have h1 := bitN_lt bs (8 * j + 1); have h2 := bitN_lt bs (8 * j + 2); have h3 := bitN_lt bs (8 * j + 3)
  have h4 := bitN_lt bs (8 * j + 4); have h5 := bitN_lt bs (8 * j + 5); have h6 := bitN_lt bs (8 * j + 6); have h7 := bitN_lt bs (8 * j + 7)
  omega
theorem pk_lt (bs : List Bool) : ∀ x ∈ pk bs, x < 256 := by
  intro x hx
  obtain ⟨j, _, rfl⟩ := List.mem_map.1 hx
  exact byteAt_lt bs j
theorem bitN_snoc_lt (bs : List Bool) (v : Bool) (i : Nat) (h : i < bs.length) : bitN (bs ++ [v]) i = bitN bs i := by
  simp [bitN, List.getD, List.getElem?_append_left h]
theorem bitN_snoc_at (bs : List Bool) (v : Bool) : bitN (bs ++ [v]) bs.length = b2n v := by
  simp [bitN, List.getD]
theorem bitN_ge (bs : List Bool) (i : Nat) (h : bs.length ≤ i) : bitN bs i = 0 := by
  simp [bitN, List.getD, List.getElem?_eq_none h, b2n]
theorem byteAt_snoc_lt (bs : List Bool) (v : Bool) (j : Nat) (h : 8 * j + 8 ≤ bs.length) : byteAt (bs ++ [v]) j = byteAt bs j := by
  unfold byteAt
  rw [bitN_snoc_lt bs v _ (by omega), bitN_snoc_lt bs v _ (by omega), bitN_snoc_lt bs v _ (by omega), bitN_snoc_lt bs v _ (by omega), bitN_snoc_lt bs v _ (by omega), bitN_snoc_lt bs v _ (by omega), bitN_snoc_lt bs v _ (by omega), bitN_snoc_lt bs v _ (by omega)]
theorem byteAt_snoc (bs : List Bool) (v : Bool) : byteAt (bs ++ [v]) (bs.length / 8) = byteAt bs (bs.length / 8) + b2n v * 2 ^ (7 - bs.length % 8) := by
  have key : ∀ i, bitN (bs ++ [v]) i = bitN bs i + if i = bs.length then b2n v else 0 := by
    intro i
    by_cases h : i < bs.length
    · rw [bitN_snoc_lt bs v i h, if_neg (by omega)]; rfl
    · by_cases h' : i = bs.length
      · subst h'
        rw [bitN_snoc_at, bitN_ge bs _ (Nat.le_refl _), if_pos rfl]; omega
      · rw [bitN_ge _ i (by simp; omega), bitN_ge bs i (by omega), if_neg h']
  generalize hn : bs.length = n at key
  have hr : n % 8 = 0 ∨ n % 8 = 1 ∨ n % 8 = 2 ∨ n % 8 = 3 ∨ n % 8 = 4 ∨ n % 8 = 5 ∨ n % 8 = 6 ∨ n % 8 = 7 := by omega
  unfold byteAt
  simp only [key]
  rcases hr with h | h | h | h | h | h | h | h
  all_goals
    rw [h]
    have e0 := Nat.div_add_mod n 8
    rw [h] at e0
    simp only [Nat.sub_zero, Nat.reduceSub, Nat.reducePow]
    repeat (first | rw [if_pos (by omega)] | rw [if_neg (by omega)])
    omega
/-- one bit more: a new byte where one begins, then the bit is laid into it -/
theorem pk_snoc (bs : List Bool) (v : Bool) :
    pk (bs ++ [v]) = (if bs.length % 8 = 0 then pk bs ++ [0] else pk bs).set (bs.length / 8) (byteAt bs (bs.length / 8) + b2n v * 2 ^ (7 - bs.length % 8)) := by
  apply List.ext_getElem
  · rw [List.length_set, pk_length, List.length_append, List.length_singleton]
    split
    · rw [List.length_append, pk_length, List.length_singleton]; omega
    · rw [pk_length]; omega
  · intro j h1 h2
    rw [pk_get, List.getElem_set]
    rw [pk_length, List.length_append, List.length_singleton] at h1
    split
    · rename_i h
      subst h
      exact byteAt_snoc bs v
    · rename_i h
      have hj : 8 * j + 8 ≤ bs.length := by omega
      rw [byteAt_snoc_lt bs v j hj]
      have hj' : j < (pk bs).length := by rw [pk_length]; omega
      split
      · rw [List.getElem_append_left hj', pk_get]
      · rw [pk_get]
theorem byteAt_room (bs : List Bool) : ∃ t, byteAt bs (bs.length / 8) = t * 2 ^ (8 - bs.length % 8) ∧ (bs.length % 8 = 0 → t = 0) := by
  generalize hn : bs.length = n
  have hz : ∀ i, n ≤ i → bitN bs i = 0 := fun i hi => bitN_ge bs i (by omega)
  have hr : n % 8 = 0 ∨ n % 8 = 1 ∨ n % 8 = 2 ∨ n % 8 = 3 ∨ n % 8 = 4 ∨ n % 8 = 5 ∨ n % 8 = 6 ∨ n % 8 = 7 := by omega
  have e0 := Nat.div_add_mod n 8
  have hlt := byteAt_lt bs (n / 8)
  refine ⟨byteAt bs (n / 8) / 2 ^ (8 - n % 8), ?_, ?_⟩
  · unfold byteAt
    rcases hr with h | h | h | h | h | h | h | h <;> rw [h] at e0 ⊢ <;> simp only [Nat.sub_zero, Nat.reduceSub, Nat.reducePow]
    · rw [hz (8 * (n / 8)) (by omega), hz (8 * (n / 8) + 1) (by omega), hz (8 * (n / 8) + 2) (by omega), hz (8 * (n / 8) + 3) (by omega), hz (8 * (n / 8) + 4) (by omega), hz (8 * (n / 8) + 5) (by omega), hz (8 * (n / 8) + 6) (by omega), hz (8 * (n / 8) + 7) (by omega)]
    · rw [hz (8 * (n / 8) + 1) (by omega), hz (8 * (n / 8) + 2) (by omega), hz (8 * (n / 8) + 3) (by omega), hz (8 * (n / 8) + 4) (by omega), hz (8 * (n / 8) + 5) (by omega), hz (8 * (n / 8) + 6) (by omega), hz (8 * (n / 8) + 7) (by omega)]; omega
    · rw [hz (8 * (n / 8) + 2) (by omega), hz (8 * (n / 8) + 3) (by omega), hz (8 * (n / 8) + 4) (by omega), hz (8 * (n / 8) + 5) (by omega), hz (8 * (n / 8) + 6) (by omega), hz (8 * (n / 8) + 7) (by omega)]; omega
    · rw [hz (8 * (n / 8) + 3) (by omega), hz (8 * (n / 8) + 4) (by omega), hz (8 * (n / 8) + 5) (by omega), hz (8 * (n / 8) + 6) (by omega), hz (8 * (n / 8) + 7) (by omega)]; omega
    · rw [hz (8 * (n / 8) + 4) (by omega), hz (8 * (n / 8) + 5) (by omega), hz (8 * (n / 8) + 6) (by omega), hz (8 * (n / 8) + 7) (by omega)]; omega
    · rw [hz (8 * (n / 8) + 5) (by omega), hz (8 * (n / 8) + 6) (by omega), hz (8 * (n / 8) + 7) (by omega)]; omega
    · rw [hz (8 * (n / 8) + 6) (by omega), hz (8 * (n / 8) + 7) (by omega)]; omega
    · rw [hz (8 * (n / 8) + 7) (by omega)]; omega
  · intro h
    rw [h]
    exact Nat.div_eq_of_lt (by simpa using hlt)
theorem byteAt_bit (bs : List Bool) (i : Nat) : byteAt bs (i / 8) / 2 ^ (7 - i % 8) % 2 = bitN bs i := by
  have hr : i % 8 = 0 ∨ i % 8 = 1 ∨ i % 8 = 2 ∨ i % 8 = 3 ∨ i % 8 = 4 ∨ i % 8 = 5 ∨ i % 8 = 6 ∨ i % 8 = 7 := by omega
  have e0 := Nat.div_add_mod i 8
  generalize i / 8 = j at *
  have h0 := bitN_lt bs (8 * j); have h1 := bitN_lt bs (8 * j + 1); have h2 := bitN_lt bs (8 * j + 2); have h3 := bitN_lt bs (8 * j + 3)
  have h4 := bitN_lt bs (8 * j + 4); have h5 := bitN_lt bs (8 * j + 5); have h6 := bitN_lt bs (8 * j + 6); have h7 := bitN_lt bs (8 * j + 7)
  unfold byteAt
  rcases hr with h | h | h | h | h | h | h | h <;> rw [h] at e0 ⊢ <;> rw [← e0] <;> simp only [Nat.sub_zero, Nat.reduceSub, Nat.reducePow, Nat.add_zero] <;> omega
theorem up_pk (bs : List Bool) : up (pk bs) = bs ++ List.replicate (8 * ((bs.length + 7) / 8) - bs.length) false := by
  apply List.ext_getElem
  · rw [up_length, pk_length, List.length_append, List.length_replicate]; omega
  · intro i h1 h2
    rw [up_get, pk_get, byteAt_bit]
    rw [List.getElem_append]
    split
    · rename_i h
      simp only [bitN, List.getD, List.getElem?_eq_getElem h, Option.getD_some]
      cases bs[i] <;> simp [b2n]
    · rw [bitN_ge bs i (by omega)]
      simp
end Go.Proofs.YtjepaneniodbpaaGreatDoor
