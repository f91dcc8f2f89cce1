/- Words for memory that all the walks of this seat share: a slice that reads as a list, a frame of two blocks, an owned row. Nothing of the program is named here. -/
import Derived.WalkKit
import Derived.Deep.Draws
import Derived.Maps.AppendAt
import Derived.Lib.Hide
import Derived.WalkSpells
import Derived.WalkLawsBesides
import Derived.Laws.AppendOwnNone
namespace Go.Proofs.YtoogadidbbpplaaGreat
open Go Go.RowKit

/-- the cells xs lie at address A, in block b -/
def Rd (w : World) (b : Nat) (A : Option Addr) (xs : List Value) : Prop :=
  xs = [] ∨ ∃ o, A = some ⟨b, o, none⟩ ∧ b < w.heap.size ∧ ∀ j u, xs[j]? = some u → w.cell? ⟨b, o + j, none⟩ = some u

theorem add_lit' (b o n : Nat) : (⟨b, o, none⟩ : Addr).add n = ⟨b, o + n, none⟩ := by unfold Addr.add; split <;> simp_all

/-- w' is w but for new blocks and what blocks g and g' hold -/
structure Kp (g g' : Nat) (w w' : World) : Prop where
  os : w'.os = w.os
  tape : w'.tape = w.tape
  output : w'.output = w.output
  size : w.heap.size ≤ w'.heap.size
  block : ∀ k, k < w.heap.size → k ≠ g → k ≠ g' → w'.heap[k]? = w.heap[k]?

/-- new blocks alone -/
abbrev Nw (w w' : World) : Prop := Below w.heap.size w w'

theorem Nw.refl (w : World) : Nw w w := Below.refl _ _
theorem Nw.trans {a b c : World} (h : Nw a b) (k : Nw b c) : Nw a c := Below.trans h (Below.mono k h.size)
theorem Nw.drewN (w : World) (n : Nat) : Nw w (w.drewN n) := ⟨rfl, rfl, rfl, Nat.le_refl _, fun _ _ => rfl⟩
theorem Nw.drewN' {a w : World} (h : Nw a w) (n : Nat) : Nw a (w.drewN n) := Nw.trans h (Nw.drewN w n)
theorem Nw.alloc' {a w : World} (h : Nw a w) (o : Obj) : Nw a (w.alloc o) := Below.alloc h h.size o
theorem Nw.kp {w w' : World} (h : Nw w w') (g g' : Nat) : Kp g g' w w' := ⟨h.os, h.tape, h.output, h.size, fun k hk _ _ => h.block k hk⟩
theorem Nw.setCell' {a w : World} (h : Nw a w) {p : Addr} (hp : a.heap.size ≤ p.block) (u : Value) : Nw a (w.setCell p u) := Below.setCell h hp u
theorem Kp.refl (g g' : Nat) (w : World) : Kp g g' w w := (Nw.refl w).kp g g'
theorem Kp.trans {g g' h h' : Nat} {a b c : World} (x : Kp g g' a b) (y : Kp h h' b c) (e : h = g ∨ h = g' ∨ a.heap.size ≤ h) (e' : h' = g ∨ h' = g' ∨ a.heap.size ≤ h') : Kp g g' a c :=
  ⟨y.os.trans x.os, y.tape.trans x.tape, y.output.trans x.output, Nat.le_trans x.size y.size, fun k hk h1 h2 =>
    (y.block k (Nat.lt_of_lt_of_le hk x.size) (by rcases e with e | e | e <;> omega) (by rcases e' with e' | e' | e' <;> omega)).trans (x.block k hk h1 h2)⟩
/-- what was written lies above: nothing old has turned -/
theorem Kp.nw {g g' : Nat} {a b c : World} (x : Nw a b) (y : Kp g g' b c) (e : a.heap.size ≤ g) (e' : a.heap.size ≤ g') : Nw a c :=
  ⟨y.os.trans x.os, y.tape.trans x.tape, y.output.trans x.output, Nat.le_trans x.size y.size, fun k hk =>
    (y.block k (Nat.lt_of_lt_of_le hk x.size) (by omega) (by omega)).trans (x.block k hk)⟩
theorem Kp.drewN' {g g' : Nat} {a b : World} (x : Kp g g' a b) (n : Nat) : Kp g g' a (b.drewN n) := x.trans ((Nw.drewN b n).kp g g') (.inl rfl) (.inr (.inl rfl))
theorem Kp.nw' {g g' : Nat} {a b c : World} (x : Kp g g' a b) (y : Nw b c) : Kp g g' a c := x.trans (y.kp g g') (.inl rfl) (.inr (.inl rfl))
theorem Kp.setCell' {g g' : Nat} {a w : World} (h : Kp g g' a w) {p : Addr} (hp : p.block = g ∨ p.block = g' ∨ a.heap.size ≤ p.block) (u : Value) : Kp g g' a (w.setCell p u) :=
  ⟨h.os, h.tape, h.output, by simpa [World.setCell] using h.size, fun k hk h1 h2 =>
    (Below.heap_setCell w p u k (by rintro rfl; rcases hp with hp | hp | hp <;> omega)).trans (h.block k hk h1 h2)⟩
theorem Kp.alloc' {g g' : Nat} {a w : World} (h : Kp g g' a w) (o : Obj) : Kp g g' a (w.alloc o) := h.nw' (Nw.alloc' (Nw.refl w) o)
theorem Kp.swap {g g' : Nat} {a w : World} (h : Kp g g' a w) : Kp g' g a w := ⟨h.os, h.tape, h.output, h.size, fun k hk h1 h2 => h.block k hk h2 h1⟩
theorem Kp.grown {g g' : Nat} {a w w' : World} {row : Option Nat} (h : Kp g g' a w) (hg : w.grownBy w' row) (hr : ∀ k, row = some k → k = g ∨ k = g' ∨ a.heap.size ≤ k) : Kp g g' a w' :=
  ⟨hg.os.trans h.os, hg.tape.trans h.tape, hg.output.trans h.output, Nat.le_trans h.size hg.size, fun k hk h1 h2 =>
    (hg.block k (Nat.lt_of_lt_of_le hk h.size) (fun e => by rcases hr k e.symm with x | x | x <;> omega)).trans (h.block k hk h1 h2)⟩
theorem Nw.grown' {a w w' : World} {row : Option Nat} (h : Nw a w) (hg : w.grownBy w' row) (hr : ∀ k, row = some k → a.heap.size ≤ k) : Nw a w' := Below.grown h hg h.size hr

section
variable {w w' : World} {b g g' : Nat} {A : Option Addr} {xs : List Value}
theorem Rd.nil (w : World) (b : Nat) (A : Option Addr) : Rd w b A [] := .inl rfl
theorem Rd.get {k : Nat} (h : Rd w b A xs) (hk : k < xs.length) : ∃ o, A = some ⟨b, o, none⟩ ∧ b < w.heap.size ∧ w.cell? ⟨b, o + k, none⟩ = some xs[k] := by
  rcases h with rfl | ⟨o, e, hlt, hc⟩
  · simp at hk
  · exact ⟨o, e, hlt, hc k _ (List.getElem?_eq_getElem hk)⟩
theorem Rd.kp (h : Rd w b A xs) (hk : Kp g g' w w') (h1 : b ≠ g) (h2 : b ≠ g') : Rd w' b A xs := by
  rcases h with rfl | ⟨o, e, hlt, hc⟩
  · exact .inl rfl
  · exact .inr ⟨o, e, Nat.lt_of_lt_of_le hlt hk.size, fun j u hu => (World.cell?_of_block (hk.block b hlt h1 h2)).trans (hc j u hu)⟩
theorem Rd.nw (h : Rd w b A xs) (hk : Nw w w') : Rd w' b A xs := by
  rcases h with rfl | ⟨o, e, hlt, hc⟩
  · exact .inl rfl
  · exact .inr ⟨o, e, Nat.lt_of_lt_of_le hlt hk.size, fun j u hu => (World.cell?_of_block (hk.block b hlt)).trans (hc j u hu)⟩
theorem Rd.drewN (h : Rd w b A xs) (n : Nat) : Rd (w.drewN n) b A xs := h.nw (Nw.drewN w n)
theorem Rd.take (h : Rd w b A xs) (k : Nat) : Rd w b A (xs.take k) := by
  rcases h with rfl | ⟨o, e, hlt, hc⟩
  · exact .inl (by simp)
  · exact .inr ⟨o, e, hlt, fun j u hu => hc j u (by rw [List.getElem?_take] at hu; split at hu <;> simp_all)⟩
/-- a cut of a slice: the model leaves the address as it was where the cut stands at the capacity -/
theorem Rd.cut {k cap size : Nat} (h : Rd w b A xs) (hk : xs.length ≤ cap * size) : Rd w b (if cap = k then A else A.map (·.add (k * size))) (xs.drop (k * size)) := by
  rcases h with rfl | ⟨o, rfl, hlt, hc⟩
  · exact .inl (by simp)
  · by_cases e : cap = k
    · subst e
      exact .inl (by rw [List.drop_eq_nil_iff]; exact hk)
    · rw [if_neg e]
      refine .inr ⟨o + k * size, by simp [add_lit'], hlt, fun j u hu => ?_⟩
      rw [Nat.add_assoc]
      exact hc _ u (by rw [← hu, List.getElem?_drop])
theorem Rd.of_own {base : Nat} {e : TypeId} {size n c : Nat} (h : w.ownsRow base e size (.slice A n c) n xs) : Rd w ((A.map (·.block)).getD 0) A xs := by
  have h' := h
  obtain ⟨hl, h2⟩ := h
  rcases h2 with ⟨hv, rfl⟩ | ⟨g, cap, cur, hv, hbg, hh, _⟩
  · exact .inl (List.eq_nil_of_length_eq_zero (by simpa using hl))
  · obtain ⟨rfl, _, _⟩ : A = some ⟨g, 0, none⟩ ∧ n = n ∧ c = cap := by injection hv with h1 h2 h3; exact ⟨h1, rfl, h3⟩
    exact .inr ⟨0, rfl, lt_of_block hh, fun j u hu => by have := h'.cells (g := g) rfl j u hu; rwa [add_lit'] at this⟩
end

/-- w' is w but for draws of the tape -/
def Dr (w w' : World) : Prop := ∃ q, w' = w.drewN q
theorem Dr.refl (w : World) : Dr w w := ⟨0, rfl⟩
theorem Dr.mk (w : World) (q : Nat) : Dr w (w.drewN q) := ⟨q, rfl⟩
theorem Dr.step {a b : World} (h : Dr a b) (q : Nat) : Dr a (b.drewN q) := by
  obtain ⟨p, rfl⟩ := h
  exact ⟨p + q, World.drewN_drewN ..⟩
theorem Dr.trans {a b c : World} (h : Dr a b) (k : Dr b c) : Dr a c := by
  obtain ⟨q, rfl⟩ := k
  exact h.step q
theorem Dr.nw {a b : World} (h : Dr a b) : Nw a b := by
  obtain ⟨q, rfl⟩ := h
  exact Nw.drewN a q
theorem Dr.of {a b : World} (h : Hid (b = a)) : Dr a b := ⟨0, h.out⟩

/-- a quiet call behind a quiet region -/
theorem quiet2 {P : Program} {f : FuncId} {args : Array Value} {w : World} {a n : Nat} {v : Value} (h : Calls P f args (w.drewN (a + n)) fun e w' => e = .returned v ∧ w.drewN (a + n) = w') :
    Calls P f args (w.drewN (a + n)) fun e w'' => e = .returned v ∧ ∃ m, w'' = w.drewN (a + m) := h.mono fun _ _ x => ⟨x.1, n, x.2.symm⟩
theorem quiet1 {P : Program} {f : FuncId} {args : Array Value} {w : World} {n : Nat} {v : Value} (h : Calls P f args (w.drewN n) fun e w' => e = .returned v ∧ w.drewN n = w') :
    Calls P f args (w.drewN n) fun e w'' => e = .returned v ∧ ∃ m, w'' = w.drewN m := h.mono fun _ _ x => ⟨x.1, n, x.2.symm⟩

/-- numbers of one kind as cells -/
abbrev cI (k : IntKind) (zs : List Int) : List Value := zs.map (Value.int k)
abbrev cN (k : IntKind) (xs : List Nat) : List Value := xs.map (fun x : Nat => Value.int k (x : Int))
abbrev cB (xs : List Bool) : List Value := xs.map Value.bool

end Go.Proofs.YtoogadidbbpplaaGreat
