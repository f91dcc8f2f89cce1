/- Sorting by blocks and merges: the plain laws (rotations, merges, blocks). -/
import Derived.Sort.LotA
namespace Go.Proofs.YtoogadidbbpplaaGreat
open Go Go.Sort
section
variable {α : Type} [Inhabited α] {lt : α → α → Bool}

theorem eqAt {d : Array α} {x y : Nat} (h : x = y) : d[x]! = d[y]! := by rw [h]
/-- what a rotation of [a, m) and [m, b) lays at p -/
def rot (d : Array α) (a m b p : Nat) : α := if a ≤ p ∧ p < a + (b - m) then d[p + (m - a)]! else if a + (b - m) ≤ p ∧ p < b then d[p - (b - m)]! else d[p]!
/-- what an exchange of two runs of n lays at p -/
def exch (d : Array α) (a b n p : Nat) : α := if a ≤ p ∧ p < a + n then d[p + (b - a)]! else if b ≤ p ∧ p < b + n then d[p - (b - a)]! else d[p]!
structure Rot (d : Array α) (a m b : Nat) (d' : Array α) : Prop where
  perm : PermIn a b d d'
  at_ : ∀ p, d'[p]! = rot d a m b p
structure Exch (d : Array α) (a b n : Nat) (d' : Array α) : Prop where
  perm : ∀ lo hi, lo ≤ a → b + n ≤ hi → hi ≤ d.size → PermIn lo hi d d'
  at_ : ∀ p, d'[p]! = exch d a b n p

theorem Exch.zero (d : Array α) (a b : Nat) : Exch d a b 0 d := by
  refine ⟨fun lo hi _ _ _ => permIn_refl _ _ _, fun p => ?_⟩
  unfold exch
  rw [if_neg (by omega), if_neg (by omega)]
theorem Exch.step {d d' : Array α} {a b i n : Nat} (h : Exch d a b i d') (hab : a + n ≤ b) (hi : i < n) (hb : b + n ≤ d.size) : Exch d a b (i + 1) (swp d' (a + i) (b + i)) := by
  have hs : d'.size = d.size := (h.perm 0 d.size (by omega) (by omega) (Nat.le_refl _)).1
  refine ⟨fun lo hi' h1 h2 h3 => permIn_trans _ _ _ _ _ (h.perm lo hi' h1 (by omega) h3) (swp_permIn _ _ _ _ _ (by omega) (by omega) (by omega) (by omega) (by omega)), fun p => ?_⟩
  rw [swp_get _ (by omega) (by omega), h.at_, h.at_, h.at_]
  unfold exch
  by_cases h1 : p = b + i
  · subst h1
    rw [if_pos rfl, if_neg (by omega), if_neg (by omega), if_neg (by omega), if_pos (by omega)]
    exact eqAt (by omega)
  · rw [if_neg h1]
    by_cases h2 : p = a + i
    · subst h2
      rw [if_pos rfl, if_neg (by omega), if_neg (by omega), if_pos (by omega)]
      exact eqAt (by omega)
    · rw [if_neg h2]
      by_cases h3 : a ≤ p ∧ p < a + i
      · rw [if_pos h3, if_pos (by omega)]
      · rw [if_neg h3, if_neg (c := a ≤ p ∧ p < a + (i + 1)) (by omega)]
        by_cases h4 : b ≤ p ∧ p < b + i
        · rw [if_pos h4, if_pos (by omega)]
        · rw [if_neg h4, if_neg (by omega)]

theorem Rot.none {d : Array α} {a m b : Nat} (h : a = m ∨ b = m) (h1 : a ≤ m) (h2 : m ≤ b) : Rot d a m b d := by
  refine ⟨permIn_refl _ _ _, fun p => ?_⟩
  unfold rot
  rcases h with rfl | rfl
  · rw [show a - a = 0 by omega]
    by_cases h3 : a ≤ p ∧ p < a + (b - a)
    · rw [if_pos h3]; rfl
    · rw [if_neg h3, if_neg (by omega)]
  · rw [if_neg (by omega), show b - b = 0 by omega]
    by_cases h3 : a + 0 ≤ p ∧ p < b
    · rw [if_pos h3]; rfl
    · rw [if_neg h3]
theorem Rot.last {d d' : Array α} {m i : Nat} (h : Exch d (m - i) m i d') (hi : i ≤ m) (hm : m + i ≤ d.size) : Rot d (m - i) m (m + i) d' := by
  refine ⟨h.perm _ _ (Nat.le_refl _) (Nat.le_refl _) hm, fun p => ?_⟩
  rw [h.at_]
  unfold rot exch
  by_cases h1 : m - i ≤ p ∧ p < m - i + i
  · rw [if_pos h1, if_pos (by omega)]
  · rw [if_neg h1, if_neg (c := m - i ≤ p ∧ p < m - i + (m + i - m)) (by omega)]
    by_cases h2 : m ≤ p ∧ p < m + i
    · rw [if_pos h2, if_pos (by omega)]
      exact eqAt (by omega)
    · rw [if_neg h2, if_neg (by omega)]
theorem rot_gt {d d' : Array α} {m i j : Nat} (h : Exch d (m - i) m j d') (hj : j < i) (hi : i ≤ m) (p : Nat) : rot d' (m - (i - j)) m (m + j) p = rot d (m - i) m (m + j) p := by
  unfold rot
  rw [h.at_, h.at_, h.at_]
  unfold exch
  by_cases h1 : m - i ≤ p ∧ p < m - i + j
  · rw [if_neg (by omega), if_neg (by omega), if_pos h1, if_pos (by omega)]
  · rw [if_neg (c := m - i ≤ p ∧ p < m - i + (m + j - m)) (by omega)]
    by_cases h2 : m - i + j ≤ p ∧ p < m - i + j + j
    · rw [if_pos (by omega)]
      by_cases h3 : p + (m - (m - (i - j))) < m
      · exfalso; omega
      · rw [if_neg (by omega), if_pos (by omega), if_pos (by omega)]
        exact eqAt (by omega)
    · rw [if_neg (by omega)]
      by_cases h3 : p < m + j
      · by_cases h4 : m - i ≤ p
        · rw [if_pos (by omega), if_neg (by omega), if_neg (by omega), if_pos (by omega)]
        · rw [if_neg (by omega), if_neg (by omega), if_neg (by omega), if_neg (by omega)]
      · rw [if_neg (by omega), if_neg (by omega), if_neg (by omega), if_neg (by omega)]
theorem rot_lt {d d' : Array α} {m i j : Nat} (h : Exch d (m - i) (m + j - i) i d') (hj : i < j) (hi : i ≤ m) (p : Nat) : rot d' (m - i) m (m + (j - i)) p = rot d (m - i) m (m + j) p := by
  unfold rot
  rw [h.at_, h.at_, h.at_]
  unfold exch
  by_cases h1 : m - i ≤ p ∧ p < m - i + (j - i)
  · rw [if_pos (by omega), if_pos (c := m - i ≤ p ∧ p < m - i + (m + j - m)) (by omega)]
    by_cases h2 : p + (m - (m - i)) < m
    · exfalso; omega
    · rw [if_neg (by omega), if_neg (by omega)]
  · rw [if_neg (by omega)]
    by_cases h2 : m - i + (j - i) ≤ p ∧ p < m + j - i
    · rw [if_pos (by omega)]
      by_cases h3 : p < m - i + j
      · rw [if_pos (c := m - i ≤ p ∧ p < m - i + (m + j - m)) (by omega), if_pos (by omega)]
        exact eqAt (by omega)
      · exfalso; omega
    · rw [if_neg (by omega)]
      by_cases h3 : m + j - i ≤ p ∧ p < m + j
      · rw [if_neg (by omega), if_pos (by omega), if_neg (by omega), if_pos (by omega)]
        exact eqAt (by omega)
      · rw [if_neg (by omega), if_neg (by omega), if_neg (by omega), if_neg (by omega)]

/-- the way of one insertion upward -/
theorem Rot.up {d d' : Array α} {a k : Nat} (h : Rot d a (a + 1) (k + 1) d') (hk : a ≤ k) (hs : k + 1 < d.size) : Rot d a (a + 1) (k + 1 + 1) (swp d' k (k + 1)) := by
  have hz := h.perm.1
  refine ⟨permIn_trans _ _ _ _ _ (permIn_mono _ _ _ _ _ _ (Nat.le_refl _) (by omega) (by omega) h.perm) (swp_permIn _ _ _ _ _ (by omega) (by omega) (by omega) (by omega) (by omega)), fun p => ?_⟩
  rw [swp_get _ (by omega) (by omega), h.at_, h.at_, h.at_]
  unfold rot
  by_cases h1 : p = k + 1
  · subst h1
    rw [if_pos rfl, if_neg (by omega), if_pos (by omega), if_neg (by omega), if_pos (by omega)]
    exact eqAt (by omega)
  · rw [if_neg h1]
    by_cases h2 : p = k
    · subst h2
      rw [if_pos rfl, if_neg (by omega), if_neg (by omega), if_pos (by omega)]
      exact eqAt (by omega)
    · rw [if_neg h2]
      by_cases h3 : a ≤ p ∧ p < k
      · rw [if_pos (by omega), if_pos (by omega)]
      · rw [if_neg (by omega), if_neg (by omega), if_neg (by omega), if_neg (by omega)]
/-- the way of one insertion downward -/
theorem Rot.down {d d' : Array α} {m k : Nat} (h : Rot d (k + 1) m (m + 1) d') (hk : k < m) (hs : m < d.size) : Rot d k m (m + 1) (swp d' (k + 1) k) := by
  have hz := h.perm.1
  refine ⟨permIn_trans _ _ _ _ _ (permIn_mono _ _ _ _ _ _ (by omega) (Nat.le_refl _) (by omega) h.perm) (swp_permIn _ _ _ _ _ (by omega) (by omega) (by omega) (by omega) (by omega)), fun p => ?_⟩
  rw [swp_get _ (by omega) (by omega), h.at_, h.at_, h.at_]
  unfold rot
  by_cases h1 : p = k
  · subst h1
    rw [if_pos rfl, if_pos (by omega), if_pos (by omega)]
    exact eqAt (by omega)
  · rw [if_neg h1]
    by_cases h2 : p = k + 1
    · subst h2
      rw [if_pos rfl, if_neg (by omega), if_neg (by omega), if_neg (by omega), if_pos (by omega)]
      exact eqAt (by omega)
    · rw [if_neg h2, if_neg (by omega), if_neg (c := k ≤ p ∧ p < k + (m + 1 - m)) (by omega)]
      by_cases h3 : k + 2 ≤ p ∧ p < m + 1
      · rw [if_pos (by omega), if_pos (by omega)]
      · rw [if_neg (by omega), if_neg (by omega)]

theorem srt_le (hS : SWO lt) {d : Array α} {a b i j : Nat} (h : SortedIn lt a b d) (h1 : a ≤ i) (h2 : i ≤ j) (h3 : j < b) : lt d[j]! d[i]! = false := by
  rcases Nat.lt_or_eq_of_le h2 with h2 | rfl
  · exact h i j h1 h2 h3
  · exact hS.irrefl _
theorem SortedIn.sub {d : Array α} {a b a' b' : Nat} (h : SortedIn lt a b d) (h1 : a ≤ a') (h2 : b' ≤ b) : SortedIn lt a' b' d := fun i j hi hij hj => h i j (by omega) hij (by omega)
theorem SortedIn.same {d d' : Array α} {a b lo hi : Nat} (h : SortedIn lt a b d) (hp : PermIn lo hi d d') (h1 : b ≤ lo ∨ hi ≤ a) : SortedIn lt a b d' := fun i j hi hij hj => by
  rw [hp.2.1 i (by omega), hp.2.1 j (by omega)]
  exact h i j hi hij hj

section
variable {d d1 : Array α} {a m b s e : Nat}
theorem rot_low (hR : Rot d s m e d1) {p : Nat} (hp : p < s) : d1[p]! = d[p]! := by rw [hR.at_]; unfold rot; rw [if_neg (by omega), if_neg (by omega)]
theorem rot_left (hR : Rot d s m e d1) {p : Nat} (hp : s ≤ p) (hq : p < s + (e - m)) : d1[p]! = d[p + (m - s)]! := by rw [hR.at_]; unfold rot; rw [if_pos (by omega)]
theorem rot_right (hR : Rot d s m e d1) {p : Nat} (hp : s + (e - m) ≤ p) (hq : p < e) : d1[p]! = d[p - (e - m)]! := by rw [hR.at_]; unfold rot; rw [if_neg (by omega), if_pos (by omega)]
theorem rot_high (hR : Rot d s m e d1) {p : Nat} (hp : e ≤ p) (h2 : s ≤ m) (h3 : m ≤ e) : d1[p]! = d[p]! := by rw [hR.at_]; unfold rot; rw [if_neg (by omega), if_neg (by omega)]
theorem rot_parts (hU : SortedIn lt a m d) (hV : SortedIn lt m b d) (h1 : a ≤ s) (h2 : s ≤ m) (h3 : m ≤ e) (h4 : e ≤ b) (hR : Rot d s m e d1) : SortedIn lt a s d1 ∧ SortedIn lt s (s + (e - m)) d1 ∧ SortedIn lt (s + (e - m)) e d1 ∧ SortedIn lt e b d1 := by
  refine ⟨fun i j hi hij hj => ?_, fun i j hi hij hj => ?_, fun i j hi hij hj => ?_, fun i j hi hij hj => ?_⟩
  · rw [rot_low hR (p := j) hj, rot_low hR (p := i) (by omega)]
    exact hU i j (by omega) hij (by omega)
  · rw [rot_left hR (p := i) (by omega) (by omega), rot_left hR (p := j) (by omega) hj]
    exact hV _ _ (by omega) (by omega) (by omega)
  · rw [rot_right hR (p := i) (by omega) (by omega), rot_right hR (p := j) (by omega) hj]
    exact hU _ _ (by omega) (by omega) (by omega)
  · rw [rot_high hR (p := i) (by omega) (by omega) (by omega), rot_high hR (p := j) (by omega) (by omega) (by omega)]
    exact hV _ _ (by omega) (by omega) (by omega)
theorem rot_cross (hU : SortedIn lt a m d) (hV : SortedIn lt m b d) (h1 : a ≤ s) (h2 : s ≤ m) (h3 : m ≤ e) (h4 : e ≤ b) (hR : Rot d s m e d1) (hS : SWO lt) (hA : s = a ∨ e = b ∨ lt d[e]! d[s - 1]! = false) (hB : s = m ∨ e = m ∨ lt d[s]! d[e - 1]! = false) (p q : Nat) (hp : a ≤ p) (hp2 : p < s + (e - m)) (hq : s + (e - m) ≤ q) (hq2 : q < b) : lt d1[q]! d1[p]! = false := by
  by_cases c1 : p < s
  · rw [rot_low hR c1]
    by_cases c2 : q < e
    · rw [rot_right hR hq c2]
      exact hU _ _ (by omega) (by omega) (by omega)
    · rw [rot_high hR (by omega) (by omega) (by omega)]
      rcases hA with h | h | h
      · exfalso; omega
      · exfalso; omega
      · exact hS.ntrans _ _ _ (hS.ntrans _ _ _ (srt_le hS hV (by omega) (show e ≤ q by omega) hq2) h) (srt_le hS hU hp (by omega) (by omega))
  · rw [rot_left hR (by omega) hp2]
    by_cases c2 : q < e
    · rw [rot_right hR hq c2]
      rcases hB with h | h | h
      · exfalso; omega
      · exfalso; omega
      · exact hS.ntrans _ _ _ (hS.ntrans _ _ _ (srt_le hS hU h1 (by omega) (by omega)) h) (srt_le hS hV (by omega) (by omega) (by omega))
    · rw [rot_high hR (by omega) (by omega) (by omega)]
      exact hV _ _ (by omega) (by omega) (by omega)
/-- a merge out of a rotation and two lesser merges -/
theorem mer_of (hU : SortedIn lt a m d) (hV : SortedIn lt m b d) (h1 : a ≤ s) (h2 : s ≤ m) (h3 : m ≤ e) (h4 : e ≤ b) (hR : Rot d s m e d1) (hS : SWO lt) (hb : b ≤ d.size) (hA : s = a ∨ e = b ∨ lt d[e]! d[s - 1]! = false) (hB : s = m ∨ e = m ∨ lt d[s]! d[e - 1]! = false) {d2 d3 : Array α} {mid : Nat} (hm : mid = s + (e - m))
    (p2 : PermIn a mid d1 d2) (s2 : SortedIn lt a mid d2) (p3 : PermIn mid b d2 d3) (s3 : SortedIn lt mid b d3) : PermIn a b d d3 ∧ SortedIn lt a b d3 := by
  have z1 := hR.perm.1
  have z2 := p2.1
  have hc := rot_cross hU hV h1 h2 h3 h4 hR hS hA hB
  subst hm
  refine ⟨permIn_trans _ _ _ _ _ (permIn_mono _ _ _ _ _ _ h1 h4 hb hR.perm) (permIn_trans _ _ _ _ _ (permIn_mono _ _ _ _ _ _ (Nat.le_refl _) (by omega) (by omega) p2) (permIn_mono _ _ _ _ _ _ (by omega) (Nat.le_refl _) (by omega) p3)), fun i j hi hij hj => ?_⟩
  by_cases c1 : j < s + (e - m)
  · rw [p3.2.1 i (by omega), p3.2.1 j (by omega)]
    exact s2 i j hi hij c1
  · by_cases c2 : s + (e - m) ≤ i
    · exact s3 i j c2 hij hj
    · rw [p3.2.1 i (by omega)]
      refine permIn_all d2 d3 _ b (fun x => lt x d2[i]! = false) (by omega) p3 (fun q hq hq2 => ?_) j (by omega) hj
      rw [p2.2.1 q (by omega)]
      exact permIn_all d1 d2 a _ (fun x => lt d1[q]! x = false) (by omega) p2 (fun p hp hp2 => hc p q hp hp2 hq hq2) i hi (by omega)
end
/-- an insertion upward is a merge -/
theorem mer_up (hS : SWO lt) {d d1 : Array α} {a b i : Nat} (hV : SortedIn lt (a + 1) b d) (hi : a + 1 ≤ i) (hib : i ≤ b) (hb : b ≤ d.size) (hA : i = a + 1 ∨ lt d[i - 1]! d[a]! = true) (hB : i = b ∨ lt d[i]! d[a]! = false) (hR : Rot d a (a + 1) i d1) : PermIn a b d d1 ∧ SortedIn lt a b d1 := by
  have hU : SortedIn lt a (a + 1) d := fun x y h1 h2 h3 => by omega
  have hP := rot_parts hU hV (Nat.le_refl a) (by omega) hi hib hR
  refine mer_of hU hV (Nat.le_refl a) (by omega) hi hib hR hS hb (.inl rfl) ?_ (mid := a + (i - (a + 1))) rfl (permIn_refl _ _ _) hP.2.1 (permIn_refl _ _ _) (fun x y h1 h2 h3 => ?_)
  · rcases hA with h | h
    · exact .inr (.inl h)
    · exact .inr (.inr (hS.asymmA h))
  · by_cases c : i ≤ x
    · exact hP.2.2.2 x y c h2 h3
    · rw [rot_right hR h1 (by omega), rot_high hR (by omega) (by omega) (by omega)]
      rcases hB with h | h
      · exfalso; omega
      · rw [show x - (i - (a + 1)) = a by omega]
        exact hS.ntrans _ _ _ (srt_le hS hV hi (by omega) h3) h
/-- an insertion downward is a merge -/
theorem mer_down (hS : SWO lt) {d d1 : Array α} {a m i : Nat} (hU : SortedIn lt a m d) (hi : a ≤ i) (him : i ≤ m) (hb : m + 1 ≤ d.size) (hA : i = a ∨ lt d[m]! d[i - 1]! = false) (hB : i = m ∨ lt d[m]! d[i]! = true) (hR : Rot d i m (m + 1) d1) : PermIn a (m + 1) d d1 ∧ SortedIn lt a (m + 1) d1 := by
  have hV : SortedIn lt m (m + 1) d := fun x y h1 h2 h3 => by omega
  have hP := rot_parts hU hV hi him (by omega) (Nat.le_refl (m + 1)) hR
  refine mer_of hU hV hi him (by omega) (Nat.le_refl (m + 1)) hR hS hb (.inr (.inl rfl)) ?_ (mid := i + (m + 1 - m)) rfl (permIn_refl _ _ _) (fun x y h1 h2 h3 => ?_) (permIn_refl _ _ _) hP.2.2.1
  · rcases hB with h | h
    · exact .inl h
    · refine .inr (.inr ?_)
      exact hS.asymmA h
  · by_cases c : y < i
    · exact hP.1 x y h1 h2 c
    · rw [rot_low hR (p := x) (by omega), rot_left hR (p := y) (by omega) h3]
      rcases hA with h | h
      · exfalso; omega
      · rw [show y + (m - i) = m by omega]
        exact hS.ntrans _ _ _ h (srt_le hS hU h1 (by omega) (by omega))

/-- the blocks from the T-th on are sorted -/
def Blk (lt : α → α → Bool) (bs T n : Nat) (d : Array α) : Prop := ∀ t, T ≤ t → SortedIn lt (t * bs) (min ((t + 1) * bs) n) d
/-- the first T blocks are sorted -/
def Upto (lt : α → α → Bool) (bs T : Nat) (d : Array α) : Prop := ∀ t, t < T → SortedIn lt (t * bs) ((t + 1) * bs) d
theorem Upto.zero (bs : Nat) (d : Array α) : Upto lt bs 0 d := fun t h => by omega
theorem mul_lt_of {t T bs : Nat} (h : t < T) : (t + 1) * bs ≤ T * bs := Nat.mul_le_mul_right bs h
theorem Upto.step {bs T a b : Nat} {d d' : Array α} (h : Upto lt bs T d) (ha : a = T * bs) (hb : b = a + bs) (hp : PermIn a b d d') (hs : SortedIn lt a b d') : Upto lt bs (T + 1) d' := by
  subst ha hb
  intro t ht
  by_cases h1 : t < T
  · exact SortedIn.same (h t h1) hp (.inl (mul_lt_of h1))
  · obtain rfl : t = T := by omega
    rw [Nat.add_mul, Nat.one_mul]
    exact hs
theorem Upto.blk {bs T a n : Nat} {d d' : Array α} (h : Upto lt bs T d) (ha : a = T * bs) (hn : n < a + bs) (hp : PermIn a n d d') (hs : SortedIn lt a n d') : Blk lt bs 0 n d' := by
  subst ha
  intro t _
  by_cases h1 : t < T
  · refine SortedIn.sub (SortedIn.same (h t h1) hp (.inl (mul_lt_of h1))) (Nat.le_refl _) (Nat.min_le_left _ _)
  · by_cases h2 : t = T
    · subst h2
      exact SortedIn.sub hs (Nat.le_refl _) (Nat.min_le_right _ _)
    · intro i j hi hij hj
      have := mul_lt_of (bs := bs) (show T < t by omega)
      rw [Nat.add_mul, Nat.one_mul] at this
      have := Nat.min_le_right ((t + 1) * bs) n
      omega
theorem Blk.all {bs n : Nat} {d : Array α} (h : Blk lt bs 0 n d) (hb : n ≤ bs) : SortedIn lt 0 n d := by
  have := h 0 (Nat.le_refl _)
  rw [Nat.zero_mul, Nat.zero_add, Nat.one_mul, Nat.min_eq_right hb] at this
  exact this
theorem Blk.one {bs T n a : Nat} {d : Array α} (h : Blk lt bs (2 * T) n d) (ha : a = T * (2 * bs)) : SortedIn lt a (min (a + bs) n) d := by
  have := h (2 * T) (Nat.le_refl _)
  have e : 2 * T * bs = T * (2 * bs) := by rw [Nat.mul_comm 2 T, Nat.mul_assoc]
  rw [Nat.add_mul, Nat.one_mul, e, ← ha] at this
  exact this
theorem Blk.two {bs T n a : Nat} {d : Array α} (h : Blk lt bs (2 * T) n d) (ha : a = T * (2 * bs)) : SortedIn lt (a + bs) (min (a + 2 * bs) n) d := by
  have := h (2 * T + 1) (by omega)
  have e : 2 * T * bs = T * (2 * bs) := by rw [Nat.mul_comm 2 T, Nat.mul_assoc]
  rw [show 2 * T + 1 + 1 = 2 * T + 2 by omega, Nat.add_mul, Nat.add_mul, Nat.one_mul, e, ← ha] at this
  exact this
theorem Blk.step {bs T n a : Nat} {d d' : Array α} (h : Blk lt bs (2 * T) n d) (ha : a = T * (2 * bs)) (hp : PermIn a (a + 2 * bs) d d') : Blk lt bs (2 * (T + 1)) n d' := by
  intro t ht
  refine SortedIn.same (h t (by omega)) hp (.inr ?_)
  have e : 2 * T * bs = T * (2 * bs) := by rw [Nat.mul_comm 2 T, Nat.mul_assoc]
  have := Nat.mul_le_mul_right bs (show 2 * T + 2 ≤ t by omega)
  rw [Nat.add_mul, e, ← ha] at this
  exact this
end
end Go.Proofs.YtoogadidbbpplaaGreat
