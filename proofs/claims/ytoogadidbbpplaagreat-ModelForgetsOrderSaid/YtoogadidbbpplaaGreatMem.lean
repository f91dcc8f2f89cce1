/- Laws on append, make and stores over slices of the call's own, in this seat's words. Nothing of the program is named here. -/
import Derived.Test.YtoogadidbbpplaaGreatWords
namespace Go.Proofs.YtoogadidbbpplaaGreat
open Go Go.RowKit

/-- what the laws ask of a slice type t with elements of type e: the element's zero value, its cells, its bytes -/
structure ElemT (P : Program) (t e : TypeId) (z : Value) (size bytes : Nat) : Prop where
  und : P.underlying t = some (.slice e)
  info : ∃ i, P.info? e = some i ∧ i.zero = some z ∧ i.size = size ∧ i.bytes = bytes
  cells : z.cells.size = size
  pos : 0 < size

theorem ElemT.mk' {P : Program} {t e : TypeId} {z : Value} {size bytes : Nat} (h : P.underlying t = some (.slice e)) (h' : (P.info? e).map (fun i => (i.zero, i.size, i.bytes)) = some (some z, size, bytes))
    (hz : z.cells.size = size) (hp : 0 < size) : ElemT P t e z size bytes := ⟨h, info_parts h', hz, hp⟩

/-- the slice (A, n, c) is the call's own: nil, or at the head of block b, whose cells nobody else holds -/
def Ow (w : World) (b : Nat) (e : TypeId) (size : Nat) (A : Option Addr) (n c : Nat) (xs : List Value) : Prop :=
  (A = none ∧ n = 0 ∧ c = 0 ∧ xs = []) ∨
  (A = some ⟨b, 0, none⟩ ∧ b < w.heap.size ∧ w.ownsRow 0 e size (.slice A n c) n xs)

section
variable {P : Program} {w w' : World} {b g g' : Nat} {e : TypeId} {size n c : Nat} {A : Option Addr} {xs : List Value}
theorem Ow.nil (w : World) (b : Nat) (e : TypeId) (size : Nat) : Ow w b e size none 0 0 [] := .inl ⟨rfl, rfl, rfl, rfl⟩
theorem Ow.row (h : Ow w b e size A n c xs) : w.ownsRow 0 e size (.slice A n c) n xs := by
  rcases h with ⟨rfl, rfl, rfl, rfl⟩ | ⟨_, _, h⟩
  · exact World.ownsRow_nil _ _ _ _
  · exact h
theorem Ow.len (h : Ow w b e size A n c xs) : xs.length = n * size := h.row.1
theorem Ow.rd (h : Ow w b e size A n c xs) : Rd w b A xs := by
  rcases h with ⟨rfl, rfl, rfl, rfl⟩ | ⟨rfl, _, h⟩
  · exact Rd.nil _ _ _
  · simpa using Rd.of_own h
theorem Ow.of_row (h : w.ownsRow 0 e size (.slice A n c) n xs) (hb : (Value.slice A n c).ownBlock = some b ∨ A = none) : Ow w b e size A n c xs := by
  rcases h.2 with ⟨hv, hn⟩ | ⟨g, cap, cur, hv, _, hh, _⟩
  · injection hv with h1 h2 h3
    subst h1 h2 h3
    exact .inl ⟨rfl, rfl, rfl, List.eq_nil_of_length_eq_zero (by simpa using h.1)⟩
  · injection hv with h1 h2 h3
    subst h1
    rcases hb with hb | hb
    · obtain rfl : g = b := by simpa [Value.ownBlock] using hb
      exact .inr ⟨rfl, lt_of_block hh, h⟩
    · cases hb
theorem Ow.kp (h : Ow w b e size A n c xs) (hk : Kp g g' w w') (h1 : b ≠ g) (h2 : b ≠ g') : Ow w' b e size A n c xs := by
  rcases h with ⟨rfl, rfl, rfl, rfl⟩ | ⟨rfl, hlt, h⟩
  · exact Ow.nil _ _ _ _
  · refine .inr ⟨rfl, Nat.lt_of_lt_of_le hlt hk.size, h.1, ?_⟩
    rcases h.2 with ⟨hv, _⟩ | ⟨g0, cap, cur, hv, hbg, hh, r⟩
    · cases hv
    · have hg : b = g0 := by injection hv with x; injection x with x; injection x
      subst hg
      exact .inr ⟨b, cap, cur, hv, hbg, (hk.block b hlt h1 h2).trans hh, r⟩
theorem Ow.nw (h : Ow w b e size A n c xs) (hk : Nw w w') : Ow w' b e size A n c xs := by
  rcases h with ⟨rfl, rfl, rfl, rfl⟩ | ⟨rfl, hlt, h⟩
  · exact Ow.nil _ _ _ _
  · refine .inr ⟨rfl, Nat.lt_of_lt_of_le hlt hk.size, h.1, ?_⟩
    rcases h.2 with ⟨hv, _⟩ | ⟨g0, cap, cur, hv, hbg, hh, r⟩
    · cases hv
    · have hg : b = g0 := by injection hv with x; injection x with x; injection x
      subst hg
      exact .inr ⟨b, cap, cur, hv, hbg, (hk.block b hlt).trans hh, r⟩
theorem Ow.lt (h : Ow w b e size A n c xs) (hn : 0 < n) : b < w.heap.size := by
  rcases h with ⟨rfl, rfl, rfl, rfl⟩ | ⟨_, hlt, _⟩
  · omega
  · exact hlt
theorem Ow.cap (h : Ow w b e size A n c xs) : n ≤ c ∧ c ≤ 9223372036854775807 := by
  rcases h with ⟨rfl, rfl, rfl, rfl⟩ | ⟨_, hlt, h⟩
  · omega
  · rcases h.2 with ⟨hv, _⟩ | ⟨g0, cap, cur, hv, hbg, hh, r1, r2, _⟩
    · injection hv with h1 h2 h3; omega
    · injection hv with h1 h2 h3
      simp only [maxLen] at r2
      omega
/-- a store into an element's cell -/
theorem Ow.set_ (h : Ow w b e size A n c xs) (j : Nat) (u : Value) : Ow (w.setCell ⟨b, j, none⟩ u) b e size A n c (xs.set j u) := by
  rcases h with ⟨rfl, rfl, rfl, rfl⟩ | ⟨rfl, hlt, h⟩
  · exact .inl ⟨rfl, rfl, rfl, by simp⟩
  · exact .inr ⟨rfl, by simpa [World.setCell] using hlt, (h.stored j u).1⟩
theorem Ow.at_ (h : Ow w b e size A n c xs) {j : Nat} (hj : j < n * size) : A = some ⟨b, 0, none⟩ ∧ b < w.heap.size ∧ w.cell? ⟨b, j, none⟩ = xs[j]? ∧ w.frozen? ⟨b, j, none⟩ = false := by
  rcases h with ⟨rfl, rfl, rfl, rfl⟩ | ⟨rfl, hlt, h⟩
  · simp at hj
  · exact ⟨rfl, hlt, h.cellAt j hj, h.frozenAt j⟩
theorem own_slice {v : Value} (h : w.ownsRow 0 e size v n xs) : ∃ A c, v = .slice A n c := by
  rcases h.2 with ⟨hv, rfl⟩ | ⟨g, cap, cur, hv, _⟩
  · exact ⟨none, 0, hv⟩
  · exact ⟨_, _, hv⟩

/-- an empty slice that is not nil, just made -/
theorem Ow.empty (w : World) (e : TypeId) (size : Nat) : Ow (w.alloc (.cells #[] e)) w.heap.size e size (some ⟨w.heap.size, 0, none⟩) 0 0 [] :=
  .inr ⟨rfl, by simp, by simp, .inr ⟨w.heap.size, 0, #[], rfl, Nat.zero_le _, heap_alloc_new w _, by omega, by simp [maxLen], by simp, by simp⟩⟩
/-- a literal that was just made -/
theorem Ow.lit (w : World) (e : TypeId) (size n : Nat) (cs : Array Value) (hs : cs.size = n * size) (hn : n ≤ 9223372036854775807) : Ow (w.alloc (.cells cs e)) w.heap.size e size (some ⟨w.heap.size, 0, none⟩) n n cs.toList :=
  .inr ⟨rfl, by simp, by simpa using hs, .inr ⟨w.heap.size, n, cs, rfl, Nat.zero_le _, heap_alloc_new w _, by omega, by simpa [maxLen] using hn, hs, by rw [← hs, ← Array.length_toList, List.take_length]⟩⟩

/-- append of a slice that reads as a list -/
theorem wpList_app {ops : Array Oper} {rest : List Oper} {o : Oper} {a : Act} {Q : Exit → Act → World → Prop} {t : TypeId} {z : Value} {bytes : Nat} (E : ElemT P t e z size bytes) (hgd : o.guard = none) (s x : Operand)
    (ho : o.op = .call { callee := .builtin .append, args := #[s, x], argTypes := #[t, t] })
    (hs : a.eval s = .slice A n c) (hown : Ow w b e size A n c xs)
    {b2 : Nat} {A2 : Option Addr} {m c2 : Nat} {news : List Value} (hx : a.eval x = .slice A2 m c2) (hr : Rd w b2 A2 news) (hl : news.length = m * size) (hnil : A2 = none → c2 = 0) (h1 : ∀ u ∈ news, u.oneCell' = true)
    (h63 : n + m ≤ maxLen) (hbytes : (n + m) * bytes ≤ 140737488355328)
    (h : ∀ b' A' c' w', Ow w' b' e size A' (n + m) c' (xs ++ news) → (b' = b ∨ w.heap.size ≤ b') → Kp b b w w' → (A = none → Nw w w' ∧ (w.heap.size ≤ b' ∨ A' = none)) → wpList P ops Q rest (a.put o.dst (.slice A' (n + m) c')) w') :
    wpList P ops Q (o :: rest) a w := by
  obtain ⟨i, hi, hz, hsz, hby⟩ := E.info
  cases A2 with
  | none =>
    obtain rfl := hnil rfl
    have hn0 : news = [] := by
      rcases hr with h | ⟨o, h, _⟩
      · exact h
      · cases h
    subst hn0
    have hm : m = 0 := by
      rcases Nat.mul_eq_zero.1 (by simpa using hl.symm) with h | h
      · exact h
      · have := E.pos; omega
    subst hm
    refine wpList_append_own_none hgd s x t ho 0 e i size E.und hi _ n xs hs hown.row hx ?_
    have := h b A c w (by simpa using hown) (.inl rfl) (Kp.refl _ _ _) (fun e => ⟨Nw.refl w, .inr e⟩)
    simpa using this
  | some ad =>
    have hcells : ∀ j u, news[j]? = some u → w.cell? (ad.add j) = some u := by
      intro j u hu
      rcases hr with rfl | ⟨o, h, _, hc⟩
      · simp at hu
      · injection h with h
        subst h
        rw [add_lit']
        exact hc j u hu
    refine wpList_append_own_at w hgd s x t ho 0 e i z size bytes E.und hi hz hsz hby E.cells E.pos _ n xs hs hown.row ad m c2 news hx hl hcells h1 h63 hbytes (Nat.zero_le _) ?_
    intro v' w' hown' hgrow hnil' hat
    obtain ⟨A', c', rfl⟩ := own_slice hown'
    have hsize := hgrow.size
    have hkp : Kp b b w w' := (Kp.refl b b w).grown hgrow (by
      intro k hk
      rcases hown with ⟨rfl, rfl, rfl, rfl⟩ | ⟨rfl, _, _⟩
      · simp [Value.ownBlock] at hk
      · left; simpa [Value.ownBlock] using hk.symm)
    have hnn : A = none → Nw w w' := by
      rintro rfl
      exact (Nw.refl w).grown' hgrow (by intro k hk; simp [Value.ownBlock] at hk)
    rcases hat with hat | hat
    · have hb : (Value.slice A' (n + m) c').ownBlock = some b ∨ A' = none := by
        rcases hown with ⟨rfl, rfl, rfl, rfl⟩ | ⟨rfl, _, _⟩
        · right
          cases A' with
          | none => rfl
          | some q => simp [Value.ownBlock] at hat
        · left; simpa [Value.ownBlock] using hat
      exact h b A' c' w' (Ow.of_row hown' hb) (.inl rfl) hkp (fun e => ⟨hnn e, .inr (by subst e; cases A' with | none => rfl | some q => simp [Value.ownBlock] at hat)⟩)
    · exact h w.heap.size A' c' w' (Ow.of_row hown' (.inl hat)) (.inr (Nat.le_refl _)) hkp (fun e => ⟨hnn e, .inl (Nat.le_refl _)⟩)

/-- append of one element of one cell: the element lies in a block of its own -/
theorem wpList_app1 {ops : Array Oper} {rest : List Oper} {o : Oper} {a : Act} {Q : Exit → Act → World → Prop} {t : TypeId} {z : Value} {bytes : Nat} (E : ElemT P t e z 1 bytes) (hgd : o.guard = none) (s x : Operand)
    (ho : o.op = .call { callee := .builtin .append, args := #[s, x], argTypes := #[t, t] })
    (hs : a.eval s = .slice A n c) (hown : Ow w b e 1 A n c xs) {u : Value} (hx : a.eval x = .slice (some ⟨w.heap.size, 0, none⟩) 1 1) (h1 : u.oneCell' = true)
    (hbytes : (n + 1) * bytes ≤ 140737488355328) (hby0 : 0 < bytes)
    (h : ∀ b' A' c' w', Ow w' b' e 1 A' (n + 1) c' (xs ++ [u]) → (b' = b ∨ w.heap.size ≤ b') → Kp b b w w' → (A = none → Nw w w' ∧ w.heap.size ≤ b') → wpList P ops Q rest (a.put o.dst (.slice A' (n + 1) c')) w') :
    wpList P ops Q (o :: rest) a (w.alloc (.cells #[u] e)) := by
  have hn : n + 1 ≤ 140737488355328 := Nat.le_trans (Nat.le_mul_of_pos_right _ hby0) hbytes
  have hnw : Nw w (w.alloc (.cells #[u] e)) := Nw.alloc' (Nw.refl w) _
  refine wpList_app E hgd s x ho hs (hown.nw hnw) (b2 := w.heap.size) (news := [u]) hx (.inr ⟨0, rfl, by simp, fun j v hj => ?_⟩) (by simp) (by simp) (by intro v hv; simp at hv; subst hv; exact h1)
    (by simp only [maxLen]; omega) hbytes ?_
  · have := cell_one_new w u e j v hj
    rwa [add_lit'] at this
  · intro b' A' c' w' h2 h3 h4 h4n
    have h5 := h4.size
    have h6 := hnw.size
    refine h b' A' c' w' h2 (by rcases h3 with h3 | h3; exact .inl h3; right; omega) ?_ ?_
    · exact (hnw.kp b b).trans h4 (.inl rfl) (.inl rfl)
    · refine fun e => ⟨Nw.trans hnw (h4n e).1, ?_⟩
      rcases (h4n e).2 with h7 | rfl
      · omega
      · rcases h2 with ⟨_, h8, _⟩ | ⟨h8, _⟩
        · omega
        · cases h8

end
end Go.Proofs.YtoogadidbbpplaaGreat
