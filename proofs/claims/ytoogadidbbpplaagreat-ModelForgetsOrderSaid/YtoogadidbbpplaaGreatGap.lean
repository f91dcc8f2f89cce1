/- A gap in a row of elements of two cells, and the append of one such element. -/
import Derived.Test.YtoogadidbbpplaaGreatNormM
namespace Go.Proofs.YtoogadidbbpplaaGreat
open Go Go.RowKit Go.Sort Go.Shelf
section
variable {α : Type}
/-- the gap at k: what stands before it, a cell that does not matter, what has been shifted -/
def gap (d : List α) (k : Nat) (v : α) : List α := d.take k ++ v :: d.drop k
theorem gap_length (d : List α) (k : Nat) (v : α) (hk : k ≤ d.length) : (gap d k v).length = d.length + 1 := by
  simp [gap]; omega
theorem gap_prev (d : List α) (k : Nat) (v : α) (hk : k < d.length) : (gap d (k + 1) v)[k]? = some d[k] := by
  unfold gap
  rw [List.getElem?_append_left (by simp; omega), List.getElem?_take]
  simp [hk]
theorem gap_shift (d : List α) (k : Nat) (v : α) (hk : k < d.length) : (gap d (k + 1) v).set (k + 1) d[k] = gap d k d[k] := by
  unfold gap
  rw [List.set_append_right _ _ (by simp; omega)]
  simp only [List.length_take]
  rw [show k + 1 - min (k + 1) d.length = 0 from by omega, List.set_cons_zero, List.take_succ_eq_append_getElem hk, List.append_assoc]
  congr 1
  rw [List.singleton_append, ← List.drop_eq_getElem_cons hk]
theorem gap_fill (d : List α) (k : Nat) (v x : α) (hk : k ≤ d.length) : (gap d k v).set k x = gap d k x := by
  unfold gap
  rw [List.set_append_right _ _ (by simp; omega)]
  simp only [List.length_take]
  rw [show k - min k d.length = 0 from by omega, List.set_cons_zero]
theorem gap_end (d : List α) (k : Nat) (v : α) (hk : d.length = k) : gap d k v = d ++ [v] := by
  unfold gap
  rw [List.take_of_length_le (by omega), List.drop_eq_nil_of_le (by omega)]
theorem gap_perm (d : List α) (k : Nat) (v : α) : (gap d k v).Perm (v :: d) := by
  unfold gap
  have h := List.perm_middle (a := v) (l₁ := d.take k) (l₂ := d.drop k)
  rwa [List.take_append_drop] at h
theorem gap_take {d l : List α} {k j : Nat} (hk : k < l.length) (h : d.Perm (l.take k)) : (gap d j l[k]).Perm (l.take (k + 1)) := by
  rw [List.take_succ_eq_append_getElem hk]
  exact (gap_perm d j _).trans ((List.Perm.cons _ h).trans (List.perm_append_singleton _ _).symm)
theorem gap_sorted {r : α → α → Prop} {d : List α} {k : Nat} {v : α} (h : d.Pairwise r) (h1 : ∀ y ∈ d.take k, r y v) (h2 : ∀ y ∈ d.drop k, r v y) : (gap d k v).Pairwise r := by
  unfold gap
  rw [List.pairwise_append]
  rw [← List.take_append_drop k d, List.pairwise_append] at h
  refine ⟨h.1, List.pairwise_cons.2 ⟨h2, h.2.1⟩, fun a ha b hb => ?_⟩
  rcases List.mem_cons.1 hb with rfl | hb
  · exact h1 a ha
  · exact h.2.2 a ha b hb
variable {f h : α → Value}
theorem two_ow {w : World} {b n c k : Nat} {e : TypeId} {A : Option Addr} {l : List α} (hO : Ow w b e 2 A n c (c2 f h l)) (hk : k < l.length) :
    A = some ⟨b, 0, none⟩ ∧ b < w.heap.size ∧ w.cell? ⟨b, k * 2, none⟩ = some (f l[k]) ∧ w.cell? ⟨b, k * 2 + 1, none⟩ = some (h l[k]) ∧ w.frozen? ⟨b, k * 2, none⟩ = false ∧ w.frozen? ⟨b, k * 2 + 1, none⟩ = false := by
  have hl := hO.len
  rw [c2_length] at hl
  obtain ⟨h1, h2, h3, h4⟩ := hO.at_ (j := k * 2) (by omega)
  obtain ⟨_, _, h5, h6⟩ := hO.at_ (j := k * 2 + 1) (by omega)
  obtain ⟨e1, e2⟩ := c2_at (f := f) (g := h) l k hk
  exact ⟨h1, h2, h3.trans e1, h5.trans e2, h4, h6⟩
theorem two_set {w : World} {b n c k : Nat} {e : TypeId} {A : Option Addr} {l : List α} (hO : Ow w b e 2 A n c (c2 f h l)) (z : α) :
    Ow ((w.setCell ⟨b, k * 2, none⟩ (f z)).setCell ⟨b, k * 2 + 1, none⟩ (h z)) b e 2 A n c (c2 f h (l.set k z)) := by
  have := (hO.set_ (k * 2) (f z)).set_ (k * 2 + 1) (h z)
  rwa [c2_set] at this
end
theorem Nw.set2 {w wr : World} (h : Nw w wr) {b i j : Nat} (hb : w.heap.size ≤ b) (u v : Value) : Nw w ((wr.setCell ⟨b, i, none⟩ u).setCell ⟨b, j, none⟩ v) := (h.setCell' (p := ⟨b, i, none⟩) hb u).setCell' (p := ⟨b, j, none⟩) hb v
section
variable {P : Program} {w : World} {b n c : Nat} {A : Option Addr} {xs : List Value} {e : TypeId}
theorem wpList_app2 {ops : Array Oper} {rest : List Oper} {o : Oper} {a : Act} {Q : Exit → Act → World → Prop} {t : TypeId} {z : Value} {bytes : Nat} (E : ElemT P t e z 2 bytes) (hgd : o.guard = none) (s x : Operand)
    (ho : o.op = .call { callee := .builtin .append, args := #[s, x], argTypes := #[t, t] })
    (hs : a.eval s = .slice A n c) (hown : Ow w b e 2 A n c xs) {u v : Value} (hx : a.eval x = .slice (some ⟨w.heap.size, 0, none⟩) 1 1) (h1 : u.oneCell' = true) (h1' : v.oneCell' = true)
    (hbytes : (n + 1) * bytes ≤ 140737488355328) (hby0 : 0 < bytes)
    (h : ∀ b' A' c' w', Ow w' b' e 2 A' (n + 1) c' (xs ++ [u, v]) → (b' = b ∨ w.heap.size ≤ b') → Kp b b w w' → wpList P ops Q rest (a.put o.dst (.slice A' (n + 1) c')) w') :
    wpList P ops Q (o :: rest) a (w.alloc (.cells #[u, v] e)) := by
  have hn : n + 1 ≤ 140737488355328 := Nat.le_trans (Nat.le_mul_of_pos_right _ hby0) hbytes
  have hnw : Nw w (w.alloc (.cells #[u, v] e)) := Nw.alloc' (Nw.refl w) _
  refine wpList_app E hgd s x ho hs (hown.nw hnw) (b2 := w.heap.size) (news := [u, v]) hx (Ow.lit w e 2 1 #[u, v] rfl (by omega)).rd (by simp) (by simp) (by intro y hy; simp at hy; rcases hy with rfl | rfl; exact h1; exact h1')
    (by simp only [maxLen]; omega) hbytes ?_
  intro b' A' c' w' h2 h3 h4 _
  have h6 := hnw.size
  exact h b' A' c' w' h2 (by rcases h3 with h3 | h3; exact .inl h3; right; omega) ((hnw.kp b b).trans h4 (.inl rfl) (.inl rfl))
end
end Go.Proofs.YtoogadidbbpplaaGreat
