/- What a law is told of its arguments, in this seat's words. -/
import Derived.Test.YtjepaneniodbpaaGreatDoorRows
import Derived.Test.YtjepaneniodbpaaGreatDoorMem
import Derived.ProofKit
import Derived.OpenShut
import Derived.ShutString
import Derived.ChangeOld
import Derived.Below
namespace Go.Proofs.YtjepaneniodbpaaGreatDoor
open Go Go.RowKit

/-- a slice of integers that came in: nil, or it leads to a row of cap cells, the numbers zs (the first len are its elements), each fitting its kind -/
def IsRow (k : IntKind) (w : World) (a : Option Addr) (len cap : Nat) (zs : List Int) : Prop :=
  (a = none ∧ len = 0 ∧ cap = 0 ∧ zs = []) ∨
  ∃ x, a = some x ∧ len ≤ cap ∧ cap ≤ maxLen ∧ zs.length = cap ∧ (∀ i, i < zs.length → w.cell? (x.add i) = some (.int k (zs.getD i 0))) ∧ ∀ n ∈ zs, (Lit.int k n).wf = true

theorem nats_of (zs : List Int) (h : ∀ z ∈ zs, 0 ≤ z) : ∃ xs : List Nat, zs = xs.map (fun x : Nat => (x : Int)) := by
  induction zs with
  | nil => exact ⟨[], rfl⟩
  | cons z zs ih =>
    obtain ⟨xs, rfl⟩ := ih fun y hy => h y (by simp [hy])
    have := h z (by simp)
    exact ⟨z.toNat :: xs, by simp; omega⟩

/-- in this seat's words: the elements as natural numbers, read at an address -/
structure InRow (k : IntKind) (w : World) (b : Nat) (A : Option Addr) (n c : Nat) (xs : List Nat) : Prop where
  rd : Rd w b A (cN k xs)
  len : n = xs.length
  wf : ∀ x ∈ xs, (Lit.int k (x : Int)).wf = true
  nil : A = none → c = 0
  cap : n ≤ c
  lt : xs ≠ [] → b < w.heap.size
  max : c ≤ 9223372036854775807

theorem InRow.of {k : IntKind} {w : World} {a : Option Addr} {len cap : Nat} {zs : List Int} (h : IsRow k w a len cap zs) (hk : ∀ z : Int, (Lit.int k z).wf = true → 0 ≤ z) : ∃ b xs, InRow k w b a len cap xs := by
  rcases h with ⟨rfl, rfl, rfl, rfl⟩ | ⟨x, rfl, hl, hm, hz, hc, hw⟩
  · exact ⟨0, [], Rd.nil _ _ _, rfl, by simp, fun _ => rfl, Nat.le_refl _, by simp, by omega⟩
  · obtain ⟨xs, rfl⟩ := nats_of zs fun z hz => hk z (hw z hz)
    rw [List.length_map] at hz
    have hlen : len = (xs.take len).length := by rw [List.length_take]; omega
    refine ⟨x.block, xs.take len, ?_, hlen, ?_, by simp, hl, ?_, by unfold maxLen at hm; exact hm⟩
    · by_cases h0 : len = 0
      · subst h0; simp [cN]; exact Rd.nil _ _ _
      · have h1 := hc 0 (by rw [List.length_map]; omega)
        obtain ⟨b, off, spot⟩ := x
        have hspot : spot = none := by simpa [Addr.add] using World.cell?_spot h1
        subst hspot
        refine .inr ⟨off, rfl, ?_, fun j u hu => ?_⟩
        · have : w.cell? (⟨b, off, none⟩ : Addr) ≠ none := by rw [add_lit'] at h1; rw [show off = off + 0 from rfl, h1]; simp
          simp only [World.cell?] at this
          cases hb : w.heap[b]? with
          | none => rw [hb] at this; simp at this
          | some o => exact (Array.getElem?_eq_some_iff.1 hb).1
        · rw [List.getElem?_map, List.getElem?_take] at hu
          split at hu
          · rename_i hj
            have hjx : j < xs.length := by omega
            rw [List.getElem?_eq_getElem hjx] at hu
            have hcj := hc j (by rw [List.length_map]; exact hjx)
            rw [add_lit'] at hcj
            rw [hcj]
            simp at hu
            rw [← hu, List.getD_eq_getElem?_getD, List.getElem?_map, List.getElem?_eq_getElem hjx]
            rfl
          · simp at hu
    · intro y hy
      exact hw _ (List.mem_map.2 ⟨y, List.mem_of_mem_take hy, rfl⟩)
    · intro hne
      have hpos : 0 < xs.length := by
        rcases Nat.eq_zero_or_pos xs.length with h | h
        · exact absurd (by rw [List.eq_nil_of_length_eq_zero h]; simp) hne
        · exact h
      have h1 := hc 0 (by rw [List.length_map]; omega)
      obtain ⟨b, off, spot⟩ := x
      have hspot : spot = none := by simpa [Addr.add] using World.cell?_spot h1
      subst hspot
      have : w.cell? (⟨b, off, none⟩ : Addr) ≠ none := by rw [add_lit'] at h1; rw [show off = off + 0 from rfl, h1]; simp
      simp only [World.cell?] at this
      cases hb : w.heap[b]? with
      | none => rw [hb] at this; simp at this
      | some o => exact (Array.getElem?_eq_some_iff.1 hb).1
theorem InRow.u64 {w : World} {a : Option Addr} {len cap : Nat} {zs : List Int} (h : IsRow .u64 w a len cap zs) : ∃ b xs, InRow .u64 w b a len cap xs ∧ ∀ x ∈ xs, x < 18446744073709551616 := by
  obtain ⟨b, xs, h⟩ := InRow.of h fun z hz => (bounds_u64 hz).1
  exact ⟨b, xs, h, fun x hx => by have := (bounds_u64 (h.wf x hx)).2; omega⟩
theorem InRow.u8 {w : World} {a : Option Addr} {len cap : Nat} {zs : List Int} (h : IsRow .u8 w a len cap zs) : ∃ b xs, InRow .u8 w b a len cap xs ∧ ∀ x ∈ xs, x < 256 := by
  obtain ⟨b, xs, h⟩ := InRow.of h fun z hz => (bounds_u8 hz).1
  exact ⟨b, xs, h, fun x hx => by have := (bounds_u8 (h.wf x hx)).2; omega⟩
end Go.Proofs.YtjepaneniodbpaaGreatDoor
