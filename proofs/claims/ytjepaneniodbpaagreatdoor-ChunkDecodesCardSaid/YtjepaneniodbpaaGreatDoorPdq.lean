/- The sort's recursion, without the program: what a state of its loop owes. -/
import Derived.Sort.LotD2
import Derived.Sort.LotA
import Derived.Sort.LotB
import Derived.Sort.Lot0
namespace Go.Proofs.YtjepaneniodbpaaGreatDoor
open Go.Sort

abbrev ltN : Nat → Nat → Bool := fun x y => decide (x < y)
theorem swo_ltN : SWO ltN := ⟨fun x => by simp, fun x y z h1 h2 => by simp at *; omega, fun x y z h1 h2 => by simp at *; omega⟩

/-- what is left to sort of [x, y) is [a, b) -/
structure St (x y : Nat) (d : Array Nat) (a b : Nat) (e : Array Nat) : Prop where
  hx : x ≤ a
  hab : a ≤ b
  hy : b ≤ y
  hyd : y ≤ d.size
  size : e.size = d.size
  perm : PermIn x y d e
  below : Below ltN a b e
  glue : ∀ f, PermIn a b e f → SortedIn ltN a b f → SortedIn ltN x y f

theorem St.start {x y : Nat} {d : Array Nat} (h : x ≤ y) (hy : y ≤ d.size) (hb : Below ltN x y d) : St x y d x y d :=
  ⟨Nat.le_refl _, h, Nat.le_refl _, hy, rfl, permIn_refl _ _ _, hb, fun _ _ h => h⟩
theorem St.step {x y a b : Nat} {d e f : Array Nat} (h : St x y d a b e) (hp : PermIn a b e f) : St x y d a b f := by
  have hb : b ≤ e.size := by rw [h.size]; exact Nat.le_trans h.hy h.hyd
  have hf : f.size = e.size := hp.1
  have hy2 : y ≤ f.size := by rw [hf, h.size]; exact h.hyd
  exact ⟨h.hx, h.hab, h.hy, h.hyd, by rw [hf, h.size], permIn_trans _ _ _ _ _ h.perm (permIn_mono _ _ _ _ _ _ h.hx h.hy (by rw [h.size]; exact h.hyd) hp), h.below.perm hb hp,
    fun g hg hs => h.glue g (permIn_trans _ _ _ _ _ hp hg) hs⟩
theorem St.done {x y a b : Nat} {d e f : Array Nat} (h : St x y d a b e) (hp : PermIn a b e f) (hs : SortedIn ltN a b f) : f.size = d.size ∧ PermIn x y d f ∧ SortedIn ltN x y f :=
  ⟨(h.step hp).size, (h.step hp).perm, h.glue f hp hs⟩
theorem St.eq {x y a b m p : Nat} {d e f : Array Nat} (h : St x y d a b e) (ha : 0 < a) (hpe : p ≤ e[a - 1]!) (hm : a < m) (hmb : m ≤ b) (hp : PermIn a b e f) (h1 : ∀ t, a ≤ t → t < m → f[t]! ≤ p) (h2 : ∀ t, m ≤ t → t < b → p < f[t]!) : St x y d m b f := by
  have hb : b ≤ e.size := by rw [h.size]; exact Nat.le_trans h.hy h.hyd
  have hS := h.step hp
  have hf : f.size = e.size := hp.1
  refine ⟨by have := h.hx; omega, hmb, h.hy, h.hyd, hS.size, hS.perm, .inr fun t ht ht' => ?_, fun g hg hs => ?_⟩
  · have := h1 (m - 1) (by omega) (by omega)
    have := h2 t ht ht'
    simp only [decide_eq_false_iff_not]
    omega
  · have hpg : PermIn a b e g := permIn_trans _ _ _ _ _ hp (permIn_mono _ _ _ _ _ _ (by omega) (Nat.le_refl _) (by omega) hg)
    refine h.glue g hpg (sorted_glue_eq swo_ltN p hs ?_ ?_ ?_)
    · intro t ht ht'
      rw [hg.2.1 t (.inl ht')]
      have := h1 t ht ht'
      simp only [decide_eq_false_iff_not]
      omega
    · intro t ht ht'
      rw [hg.2.1 t (.inl ht')]
      rcases hS.below with h0 | h0
      · omega
      · have h3 := h0 t ht (by omega)
        rw [hp.2.1 (a - 1) (.inl (by omega))] at h3
        simp only [decide_eq_false_iff_not] at h3 ⊢
        omega
    · intro t ht ht'
      have := permIn_all f g m b (fun z => p < z) (by omega) hg (fun i hi hi' => h2 i hi hi') t ht ht'
      simp only [decide_eq_true_eq]
      exact this
theorem St.left {x y a b m : Nat} {d e f g : Array Nat} (h : St x y d a b e) (hm : a ≤ m) (hmb : m < b) (hp : PermIn a b e f) (h1 : ∀ t, a ≤ t → t < m → f[t]! < f[m]!) (h2 : ∀ t, m < t → t < b → f[m]! ≤ f[t]!)
    (hg : PermIn a m f g) (hs : SortedIn ltN a m g) : St x y d (m + 1) b g := by
  have hb : b ≤ e.size := by rw [h.size]; exact Nat.le_trans h.hy h.hyd
  have hf : f.size = e.size := hp.1
  have hgs : g.size = f.size := hg.1
  have hpg : PermIn a b e g := permIn_trans _ _ _ _ _ hp (permIn_mono _ _ _ _ _ _ (Nat.le_refl _) (by omega) (by omega) hg)
  have hS := h.step hpg
  have hgm : g[m]! = f[m]! := hg.2.1 m (.inr (Nat.le_refl _))
  have hlo : ∀ t, a ≤ t → t < m → g[t]! < f[m]! := permIn_all f g a m (fun z => z < f[m]!) (by omega) hg h1
  have hhi : ∀ t, m < t → t < b → f[m]! ≤ g[t]! := fun t ht ht' => by rw [hg.2.1 t (.inr (by omega))]; exact h2 t ht ht'
  refine ⟨by have := h.hx; omega, by omega, h.hy, h.hyd, hS.size, hS.perm, .inr fun t ht ht' => ?_, fun k hk hks => ?_⟩
  · rw [Nat.add_sub_cancel, hgm]
    have := hhi t (by omega) ht'
    simp only [decide_eq_false_iff_not]
    omega
  · have hkm : ∀ t, t ≤ m → k[t]! = g[t]! := fun t ht => hk.2.1 t (.inl (by omega))
    refine h.glue k (permIn_trans _ _ _ _ _ hpg (permIn_mono _ _ _ _ _ _ (by omega) (Nat.le_refl _) (by omega) hk)) (sorted_glue swo_ltN (hs.congr fun t _ ht => hkm t (by omega)) hks ?_ ?_)
    · intro t ht ht'
      rw [hkm t (by omega), hkm m (Nat.le_refl _), hgm]
      simp only [decide_eq_true_eq]
      exact hlo t ht ht'
    · intro t ht ht'
      rw [hkm m (Nat.le_refl _), hgm]
      have := permIn_all g k (m + 1) b (fun z => f[m]! ≤ z) (by omega) hk (fun i hi hi' => hhi i (by omega) hi') t (by omega) ht'
      simp only [decide_eq_false_iff_not]
      omega
theorem St.right {x y a b m : Nat} {d e f g : Array Nat} (h : St x y d a b e) (hm : a ≤ m) (hmb : m < b) (hp : PermIn a b e f) (h1 : ∀ t, a ≤ t → t < m → f[t]! < f[m]!) (h2 : ∀ t, m < t → t < b → f[m]! ≤ f[t]!)
    (hg : PermIn (m + 1) b f g) (hs : SortedIn ltN (m + 1) b g) : St x y d a m g := by
  have hb : b ≤ e.size := by rw [h.size]; exact Nat.le_trans h.hy h.hyd
  have hf : f.size = e.size := hp.1
  have hgs : g.size = f.size := hg.1
  have hpg : PermIn a b e g := permIn_trans _ _ _ _ _ hp (permIn_mono _ _ _ _ _ _ (by omega) (Nat.le_refl _) (by omega) hg)
  have hS := h.step hpg
  have hgm : ∀ t, t ≤ m → g[t]! = f[t]! := fun t ht => hg.2.1 t (.inl (by omega))
  have hhi : ∀ t, m < t → t < b → f[m]! ≤ g[t]! := fun t ht ht' => permIn_all f g (m + 1) b (fun z => f[m]! ≤ z) (by omega) hg (fun i hi hi' => h2 i (by omega) hi') t (by omega) ht'
  refine ⟨h.hx, hm, by have := h.hy; omega, h.hyd, hS.size, hS.perm, hS.below.mono (by omega), fun k hk hks => ?_⟩
  have hkm : ∀ t, m ≤ t → k[t]! = g[t]! := fun t ht => hk.2.1 t (.inr ht)
  refine h.glue k (permIn_trans _ _ _ _ _ hpg (permIn_mono _ _ _ _ _ _ (Nat.le_refl _) (by omega) (by omega) hk)) (sorted_glue swo_ltN hks (hs.congr fun t ht _ => hkm t (by omega)) ?_ ?_)
  · intro t ht ht'
    rw [hkm m (Nat.le_refl _), hgm m (Nat.le_refl _)]
    have := permIn_all g k a m (fun z => z < f[m]!) (by omega) hk (fun i hi hi' => by rw [hgm i (by omega)]; exact h1 i hi hi') t ht ht'
    simp only [decide_eq_true_eq]
    exact this
  · intro t ht ht'
    rw [hkm m (Nat.le_refl _), hkm t (by omega), hgm m (Nat.le_refl _)]
    have := hhi t ht ht'
    simp only [decide_eq_false_iff_not]
    omega
/-- what the recursion's own calls owe -/
theorem St.belowL {x y a b m : Nat} {d e f : Array Nat} (h : St x y d a b e) (hmb : m < b) (hp : PermIn a b e f) : Below ltN a m f := (h.step hp).below.mono (by omega)
theorem belowR {b m : Nat} {f : Array Nat} (h2 : ∀ t, m < t → t < b → f[m]! ≤ f[t]!) : Below ltN (m + 1) b f := .inr fun t ht ht' => by
  rw [Nat.add_sub_cancel]
  have := h2 t (by omega) ht'
  simp only [decide_eq_false_iff_not]
  omega
end Go.Proofs.YtjepaneniodbpaaGreatDoor
