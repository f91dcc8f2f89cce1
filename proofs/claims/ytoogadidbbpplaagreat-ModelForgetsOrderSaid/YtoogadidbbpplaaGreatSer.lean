/- Words for labels, samples and series in memory, and for a list of series that came in. -/
import Derived.Test.YtoogadidbbpplaaGreatMem
import Derived.Test.YtoogadidbbpplaaGreatChecked
import Derived.Deep.SlicePairs
import Derived.ProofKit
import Derived.OpenShut
import Derived.ShutString
import Derived.ChangeOld
import Derived.Below
namespace Go.Proofs.YtoogadidbbpplaaGreat
open Go Go.RowKit Go.ChangeShapes Go.WideShapes Go.Deep

/-- the cells of elements of two cells each -/
def c2 {α : Type} (f g : α → Value) (l : List α) : List Value := l.flatMap fun x => [f x, g x]
section
variable {α : Type} {f g : α → Value}
theorem c2_length (l : List α) : (c2 f g l).length = 2 * l.length := by
  induction l with
  | nil => rfl
  | cons z zs ih => simp only [c2, List.flatMap_cons, List.length_append] at ih ⊢; simp only [ih, List.length_cons, List.length_nil]; omega
theorem c2_append (a b : List α) : c2 f g (a ++ b) = c2 f g a ++ c2 f g b := by simp [c2]
theorem c2_at : ∀ (l : List α) (k : Nat) (h : k < l.length), (c2 f g l)[k * 2]? = some (f l[k]) ∧ (c2 f g l)[k * 2 + 1]? = some (g l[k]) := by
  intro l
  induction l with
  | nil => intro k h; simp at h
  | cons z zs ih =>
    intro k h
    cases k with
    | zero => exact ⟨rfl, rfl⟩
    | succ k =>
      obtain ⟨h1, h2⟩ := ih k (by simpa using h)
      exact ⟨by rw [show (k + 1) * 2 = k * 2 + 2 by omega]; simpa [c2] using h1, by rw [show (k + 1) * 2 + 1 = k * 2 + 1 + 2 by omega]; simpa [c2] using h2⟩
theorem c2_of (l : List α) (j : Nat) (u : Value) (h : (c2 f g l)[j]? = some u) : ∃ (hj : j / 2 < l.length), u = if j % 2 = 0 then f l[j / 2] else g l[j / 2] := by
  have hl : j < (c2 f g l).length := (List.getElem?_eq_some_iff.1 h).1
  rw [c2_length] at hl
  have hj : j / 2 < l.length := by omega
  obtain ⟨h1, h2⟩ := c2_at (f := f) (g := g) l (j / 2) hj
  refine ⟨hj, ?_⟩
  split
  · rename_i e; rw [show j / 2 * 2 = j by omega, h] at h1; exact Option.some.inj h1
  · rename_i e; rw [show j / 2 * 2 + 1 = j by omega, h] at h2; exact Option.some.inj h2
theorem c2_one (hf : ∀ x, (f x).oneCell' = true) (hg : ∀ x, (g x).oneCell' = true) (l : List α) : ∀ u ∈ c2 f g l, u.oneCell' = true := by
  intro u hu
  obtain ⟨z, _, hz⟩ := List.mem_flatMap.1 hu
  rcases List.mem_cons.1 hz with rfl | hz
  · exact hf z
  · rcases List.mem_cons.1 hz with rfl | hz
    · exact hg z
    · cases hz
theorem two_at {w : World} {b k : Nat} {A : Option Addr} {l : List α} (h : Rd w b A (c2 f g l)) (hk : k < l.length) :
    ∃ o, A = some ⟨b, o, none⟩ ∧ b < w.heap.size ∧ w.cell? ⟨b, o + k * 2, none⟩ = some (f l[k]) ∧ w.cell? ⟨b, o + k * 2 + 1, none⟩ = some (g l[k]) := by
  obtain ⟨o, rfl, hob, hc0⟩ := h.get (k := k * 2) (by rw [c2_length]; omega)
  obtain ⟨o', ho', _, hc1⟩ := h.get (k := k * 2 + 1) (by rw [c2_length]; omega)
  obtain ⟨g0, g1⟩ := c2_at (f := f) (g := g) l k hk
  rw [(List.getElem_eq_iff _).2 g0] at hc0
  rw [(List.getElem_eq_iff _).2 g1] at hc1
  injection ho' with ho'; injection ho' with _ ho'; subst ho'
  exact ⟨o, rfl, hob, hc0, hc1⟩
theorem lt_of_cell {w : World} {b o : Nat} {v : Value} (h : w.cell? ⟨b, o, none⟩ = some v) : b < w.heap.size := by
  simp only [World.cell?] at h
  cases hb : w.heap[b]? with
  | none => rw [hb] at h; simp at h
  | some o => exact (Array.getElem?_eq_some_iff.1 hb).1
/-- from a fact at each index to a list that lies at the address -/
theorem two_of {w : World} {q : Addr} {len : Nat} {p : α → Prop} (d : α) (h0 : 0 < len) (each : ∀ i, i < len → ∃ z : α, w.cell? (q.add (i * 2)) = some (f z) ∧ w.cell? (q.add (i * 2 + 1)) = some (g z) ∧ p z) :
    ∃ (b : Nat) (l : List α), Rd w b (some q) (c2 f g l) ∧ l.length = len ∧ b < w.heap.size ∧ ∀ z ∈ l, p z := by
  obtain ⟨b, off, spot⟩ := q
  have hspot : spot = none := by
    obtain ⟨z, hz, _⟩ := each 0 h0
    simpa [Addr.add] using World.cell?_spot hz
  subst hspot
  have hch : ∃ F : Nat → α, ∀ i, i < len → w.cell? ((⟨b, off, none⟩ : Addr).add (i * 2)) = some (f (F i)) ∧ w.cell? ((⟨b, off, none⟩ : Addr).add (i * 2 + 1)) = some (g (F i)) ∧ p (F i) := by
    refine ⟨fun i => if hi : i < len then (each i hi).choose else d, fun i hi => ?_⟩
    simp only [hi, dif_pos]
    exact (each i hi).choose_spec
  obtain ⟨F, hF⟩ := hch
  have hlt := lt_of_cell (by have := (hF 0 h0).1; rwa [add_lit'] at this)
  refine ⟨b, (List.range len).map F, ?_, by simp, hlt, ?_⟩
  · refine .inr ⟨off, rfl, hlt, fun j u hu => ?_⟩
    obtain ⟨hj, rfl⟩ := c2_of _ _ _ hu
    rw [List.length_map, List.length_range] at hj
    obtain ⟨f1, f2, _⟩ := hF (j / 2) hj
    rw [add_lit'] at f1 f2
    simp only [List.getElem_map, List.getElem_range]
    split
    · rename_i e; rw [show j / 2 * 2 = j by omega] at f1; exact f1
    · rename_i e; rw [show j / 2 * 2 + 1 = j by omega] at f2; exact f2
  · intro z hz
    obtain ⟨i, hi, rfl⟩ := List.mem_map.1 hz
    exact (hF i (List.mem_range.1 hi)).2.2
end

def I6 (x : Int) : Prop := -9223372036854775808 ≤ x ∧ x ≤ 9223372036854775807
abbrev Lab := ByteArray × ByteArray
abbrev Smpl := Int × Nat
/-- the cells of labels -/
def cL (l : List Lab) : List Value := c2 (fun x : Lab => .string x.1) (fun x => .string x.2) l
/-- the cells of samples -/
def cS (l : List Smpl) : List Value := c2 (fun z : Smpl => .int .i64 z.1) (fun z => .int .u64 (z.2 : Int)) l
def SmpOk (z : Smpl) : Prop := I6 z.1 ∧ z.2 < 18446744073709551616
def InS (l : List Smpl) : Prop := ∀ z ∈ l, SmpOk z
/-- a series, and where its lists lie -/
structure Ser where
  labs : List Lab
  smps : List Smpl
  bl : Nat
  al : Option Addr
  cl : Nat
  bs : Nat
  as_ : Option Addr
  cs : Nat
/-- the cells of series -/
def cR (l : List Ser) : List Value := c2 (fun s : Ser => .slice s.al s.labs.length s.cl) (fun s => .slice s.as_ s.smps.length s.cs) l
/-- labels that came in -/
structure InLab (w : World) (b : Nat) (A : Option Addr) (n c : Nat) (l : List Lab) : Prop where
  rd : Rd w b A (cL l)
  len : n = l.length
  nil : A = none → c = 0
  cap : n ≤ c
  max : c ≤ 9223372036854775807
  small : ∀ x ∈ l, x.1.size ≤ 9223372036854775807 ∧ x.2.size ≤ 9223372036854775807
/-- samples that came in -/
structure InSmp (w : World) (b : Nat) (A : Option Addr) (n c : Nat) (l : List Smpl) : Prop where
  rd : Rd w b A (cS l)
  len : n = l.length
  wf : InS l
  nil : A = none → c = 0
  cap : n ≤ c
  max : c ≤ 9223372036854775807
def SerOk (w : World) (s : Ser) : Prop := InLab w s.bl s.al s.labs.length s.cl s.labs ∧ InSmp w s.bs s.as_ s.smps.length s.cs s.smps
/-- series that came in -/
structure InSer (w : World) (b : Nat) (A : Option Addr) (n c : Nat) (l : List Ser) : Prop where
  rd : Rd w b A (cR l)
  len : n = l.length
  nil : A = none → c = 0
  cap : n ≤ c
  max : c ≤ 9223372036854775807
  ok : ∀ s ∈ l, SerOk w s
section
variable {w w' : World} {b n c : Nat} {A : Option Addr}
theorem InLab.nw {l : List Lab} (h : InLab w b A n c l) (hN : Nw w w') : InLab w' b A n c l := ⟨h.rd.nw hN, h.len, h.nil, h.cap, h.max, h.small⟩
theorem InSmp.nw {l : List Smpl} (h : InSmp w b A n c l) (hN : Nw w w') : InSmp w' b A n c l := ⟨h.rd.nw hN, h.len, h.wf, h.nil, h.cap, h.max⟩
theorem SerOk.nw {s : Ser} (h : SerOk w s) (hN : Nw w w') : SerOk w' s := ⟨h.1.nw hN, h.2.nw hN⟩
theorem InSer.nw {l : List Ser} (h : InSer w b A n c l) (hN : Nw w w') : InSer w' b A n c l := ⟨h.rd.nw hN, h.len, h.nil, h.cap, h.max, fun s hs => (h.ok s hs).nw hN⟩
end

section
variable {H : Type} {enc : TypeId × Value → H} {W : World} {base : Nat} {sp : Nat → Bool} {held : Bool} {fuel : Nat}
theorem InLab.of_trod {a : Option Addr} {len cap : Nat} {x : DataW H × List MemPlace} (h : DataW.trod enc Tryz.prog W base sp held fuel 34 [.slice a len cap] = some x) : ∃ b l, InLab W b a len cap l := by
  have cE : Tryz.prog.cellsOf 47 = 2 := by kernel_rfl
  have cT : Tryz.prog.cellsOf 9 = 1 := by kernel_rfl
  rcases open_slice_pairs Tryz.underlying34 Tryz.underlying47 cE rfl rfl cT cT h with ⟨hcs, _⟩ | ⟨q, l, c, m, f, V0, V1, D0, D1, P0, P1, hcs, _, hl, hm, hmm, _, hx⟩
  · injection hcs with hcs _
    injection hcs with h1 h2 h3
    subst h1 h2 h3
    exact ⟨0, [], Rd.nil _ _ _, rfl, fun _ => rfl, Nat.le_refl _, by omega, by simp⟩
  · injection hcs with hcs _
    injection hcs with h1 h2 h3
    subst h1 h2 h3
    have hlm : len ≤ m := by rw [hmm]; split <;> omega
    have hmx : cap ≤ 9223372036854775807 := by unfold maxLen at hm; exact hm
    by_cases h0 : len = 0
    · subst h0
      exact ⟨0, [], Rd.nil _ _ _, rfl, (fun e => by cases e), hl, hmx, by simp⟩
    · obtain ⟨b, l, hr, hlen, _, hp⟩ := two_of (w := W) (q := q) (len := len) (f := fun x : Lab => .string x.1) (g := fun x => .string x.2) (p := fun x => x.1.size ≤ 9223372036854775807 ∧ x.2.size ≤ 9223372036854775807) (.empty, .empty) (by omega) (by
        intro i hi
        obtain ⟨g0, g1, t0, t1⟩ := hx i (by omega)
        obtain ⟨k0, a0, _, w0⟩ := DataW.trod_string Tryz.underlying9 t0
        obtain ⟨k1, a1, _, w1⟩ := DataW.trod_string Tryz.underlying9 t1
        injection a0 with a0 _
        injection a1 with a1 _
        rw [a0] at g0
        rw [a1] at g1
        exact ⟨(k0, k1), g0, g1, by unfold maxLen at w0; exact w0, by unfold maxLen at w1; exact w1⟩)
      exact ⟨b, l, hr, hlen.symm, (fun e => by cases e), hl, hmx, hp⟩
theorem InSmp.of_trod {a : Option Addr} {len cap : Nat} {x : DataW H × List MemPlace} (h : DataW.trod enc Tryz.prog W base sp held fuel 35 [.slice a len cap] = some x) : ∃ b l, InSmp W b a len cap l := by
  have cE : Tryz.prog.cellsOf 41 = 2 := by kernel_rfl
  have cT : Tryz.prog.cellsOf 2 = 1 := by kernel_rfl
  have cV : Tryz.prog.cellsOf 39 = 1 := by kernel_rfl
  rcases open_slice_pairs Tryz.underlying35 Tryz.underlying41 cE rfl rfl cT cV h with ⟨hcs, _⟩ | ⟨q, l, c, m, f, V0, V1, D0, D1, P0, P1, hcs, _, hl, hm, hmm, _, hx⟩
  · injection hcs with hcs _
    injection hcs with h1 h2 h3
    subst h1 h2 h3
    exact ⟨0, [], Rd.nil _ _ _, rfl, (fun z hz => by cases hz), fun _ => rfl, Nat.le_refl _, by omega⟩
  · injection hcs with hcs _
    injection hcs with h1 h2 h3
    subst h1 h2 h3
    have hlm : len ≤ m := by rw [hmm]; split <;> omega
    have hmx : cap ≤ 9223372036854775807 := by unfold maxLen at hm; exact hm
    by_cases h0 : len = 0
    · subst h0
      exact ⟨0, [], Rd.nil _ _ _, rfl, (fun z hz => by cases hz), (fun e => by cases e), hl, hmx⟩
    · obtain ⟨b, l, hr, hlen, _, hp⟩ := two_of (w := W) (q := q) (len := len) (f := fun z : Smpl => .int .i64 z.1) (g := fun z => .int .u64 (z.2 : Int)) (p := SmpOk) (0, 0) (by omega) (by
        intro i hi
        obtain ⟨g0, g1, t0, t1⟩ := hx i (by omega)
        obtain ⟨k0, a0, _, w0⟩ := DataW.trod_int Tryz.underlying2 t0
        obtain ⟨k1, a1, _, w1⟩ := DataW.trod_int Tryz.underlying39 t1
        injection a0 with a0 _
        injection a1 with a1 _
        rw [a0] at g0
        rw [a1] at g1
        have b0 := bounds_i64 w0
        have b1 := bounds_u64 w1
        have e1 : ((k1.toNat : Nat) : Int) = k1 := Int.toNat_of_nonneg b1.1
        have e2 : k1.toNat < 18446744073709551616 := by omega
        exact ⟨(k0, k1.toNat), g0, g1.trans (by rw [e1]), b0, e2⟩)
      exact ⟨b, l, hr, hlen.symm, hp, (fun e => by cases e), hl, hmx⟩
theorem InSer.of_trod {a : Option Addr} {len cap : Nat} {x : DataW H × List MemPlace} (h : DataW.trod enc Tryz.prog W base sp held fuel 22 [.slice a len cap] = some x) : ∃ b l, InSer W b a len cap l := by
  have cE : Tryz.prog.cellsOf 37 = 2 := by kernel_rfl
  have cT : Tryz.prog.cellsOf 34 = 1 := by kernel_rfl
  have cV : Tryz.prog.cellsOf 35 = 1 := by kernel_rfl
  rcases open_slice_pairs Tryz.underlying22 Tryz.underlying37 cE rfl rfl cT cV h with ⟨hcs, _⟩ | ⟨q, l, c, m, f, V0, V1, D0, D1, P0, P1, hcs, _, hl, hm, hmm, _, hx⟩
  · injection hcs with hcs _
    injection hcs with h1 h2 h3
    subst h1 h2 h3
    exact ⟨0, [], Rd.nil _ _ _, rfl, fun _ => rfl, Nat.le_refl _, by omega, by simp⟩
  · injection hcs with hcs _
    injection hcs with h1 h2 h3
    subst h1 h2 h3
    have hlm : len ≤ m := by rw [hmm]; split <;> omega
    have hmx : cap ≤ 9223372036854775807 := by unfold maxLen at hm; exact hm
    by_cases h0 : len = 0
    · subst h0
      exact ⟨0, [], Rd.nil _ _ _, rfl, (fun e => by cases e), hl, hmx, by simp⟩
    · obtain ⟨b, l, hr, hlen, _, hp⟩ := two_of (w := W) (q := q) (len := len) (f := fun s : Ser => .slice s.al s.labs.length s.cl) (g := fun s => .slice s.as_ s.smps.length s.cs) (p := SerOk W) ⟨[], [], 0, none, 0, 0, none, 0⟩ (by omega) (by
        intro i hi
        obtain ⟨g0, g1, t0, t1⟩ := hx i (by omega)
        have s0 : ∃ (a : Option Addr) (n c : Nat), V0 i = .slice a n c := by
          rcases open_slice Tryz.underlying34 t0 with ⟨e, _⟩ | ⟨a, l, c, _, _, _, _, e, _⟩ <;> (injection e with e _; exact ⟨_, _, _, e⟩)
        have s1 : ∃ (a : Option Addr) (n c : Nat), V1 i = .slice a n c := by
          rcases open_slice Tryz.underlying35 t1 with ⟨e, _⟩ | ⟨a, l, c, _, _, _, _, e, _⟩ <;> (injection e with e _; exact ⟨_, _, _, e⟩)
        obtain ⟨a0, n0, c0, e0⟩ := s0
        obtain ⟨a1, n1, c1, e1⟩ := s1
        rw [e0] at g0 t0
        rw [e1] at g1 t1
        obtain ⟨b0, l0, h0⟩ := InLab.of_trod t0
        obtain ⟨b1, l1, h1⟩ := InSmp.of_trod t1
        have hl0 := h0.len
        have hl1 := h1.len
        subst hl0 hl1
        exact ⟨⟨l0, l1, b0, a0, c0, b1, a1, c1⟩, g0, g1, h0, h1⟩)
      exact ⟨b, l, hr, hlen.symm, (fun e => by cases e), hl, hmx, hp⟩
end
end Go.Proofs.YtoogadidbbpplaaGreat
