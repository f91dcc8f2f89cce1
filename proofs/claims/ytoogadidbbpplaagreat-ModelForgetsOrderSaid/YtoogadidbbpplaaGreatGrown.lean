/- Regions that draw their order, whose operations read and whose callees may lay blocks of their own; the same with a tail that comes last. Nothing of the program is named here. -/
import Derived.Test.YtoogadidbbpplaaGreatMem
import Derived.Deep.QuietTactic
import Derived.Sort.Grow
import Derived.StillTail
namespace Go.Proofs.YtoogadidbbpplaaGreat
open Go Go.RowKit Go.Sort

structure Gp where
  n : Nat
  os : Array Obj
instance : Inhabited Gp := ⟨⟨0, #[]⟩⟩
/-- w' is w after some draws, with some blocks laid behind it -/
abbrev Gr (w w' : World) : Prop := ∃ p : Gp, w' = grow (w.drewN p.n) p.os
theorem Gr.refl (w : World) : Gr w w := ⟨⟨0, #[]⟩, by rw [grow_empty]; rfl⟩
theorem Gr.trans {a b c : World} (h : Gr a b) (k : Gr b c) : Gr a c := by
  obtain ⟨⟨n, os⟩, rfl⟩ := h
  obtain ⟨⟨m, os'⟩, rfl⟩ := k
  exact ⟨⟨n + m, os ++ os'⟩, by show grow (grow ((a.drewN n).drewN m) os) os' = _; rw [grow_grow, World.drewN_drewN]⟩
theorem Gr.alloc (w : World) (o : Obj) : Gr w (w.alloc o) := ⟨⟨0, #[o]⟩, by rw [alloc_eq_grow]; rfl⟩
theorem Gr.drewN (w : World) (n : Nat) : Gr w (w.drewN n) := ⟨⟨n, #[]⟩, by rw [grow_empty]⟩
theorem Gr.of_dr {w w' : World} (h : Dr w w') : Gr w w' := by
  obtain ⟨n, rfl⟩ := h
  exact Gr.drewN w n
theorem Gr.nw {w w' : World} (h : Gr w w') : Nw w w' := by
  obtain ⟨⟨n, os⟩, rfl⟩ := h
  refine ⟨rfl, rfl, rfl, by simp [grow], fun k hk => ?_⟩
  exact heap_grow_old (w.drewN n) os hk
theorem modify_new {α : Type} (a b : Array α) (i : Nat) (f : α → α) (h : a.size ≤ i) : (a ++ b).modify i f = a ++ b.modify (i - a.size) f := by
  apply Array.ext
  · simp
  · intro j h1 h2
    rw [Array.getElem_modify, Array.getElem_append, Array.getElem_append]
    split <;> split
    · omega
    · rw [Array.getElem_modify, if_pos (by omega)]
    · rfl
    · rw [Array.getElem_modify, if_neg (by omega)]
theorem Gr.set {a w : World} (h : Gr a w) {p : Addr} (hp : a.heap.size ≤ p.block) (u : Value) : Gr a (w.setCell p u) := by
  obtain ⟨⟨n, os⟩, rfl⟩ := h
  have h1 : (a.drewN n).heap.size ≤ p.block := hp
  simp only [World.setCell, grow, modify_new _ _ _ _ h1]
  exact ⟨⟨n, _⟩, rfl⟩
theorem Calls.gr {P : Program} {f : FuncId} {args : Array Value} {w : World} {p : Gp} {v : Value} (h : Calls P f args (grow (w.drewN p.n) p.os) fun e w' => e = .returned v ∧ Gr (grow (w.drewN p.n) p.os) w') :
    Calls P f args (grow (w.drewN p.n) p.os) fun e w'' => e = .returned v ∧ ∃ q : Gp, w'' = grow (w.drewN q.n) q.os := h.mono fun _ _ x => ⟨x.1, Gr.trans ⟨p, rfl⟩ x.2⟩
theorem cell_gr {w : World} {a : Addr} {v : Value} (hb : a.block < w.heap.size) (h : w.cell? a = some v) (p : Gp) : (grow (w.drewN p.n) p.os).cell? a = some v := by
  rw [cell?_grow _ _ _ (by exact hb)]; exact h

theorem cell_old {w w' : World} {a : Addr} {v : Value} (hN : Nw w w') (hg : a.block < w.heap.size) (h : w.cell? a = some v) : w'.cell? a = some v :=
  (World.cell?_of_block (hN.block _ hg)).trans h

theorem Gr.alloc' {a w : World} (h : Gr a w) (o : Obj) : Gr a (w.alloc o) := h.trans (Gr.alloc w o)
theorem Gr.drewO (w : World) : Gr w w.drew := Gr.drewN w 1
theorem Gr.block {a w : World} (h : Gr a w) (k : Nat) (hk : k < a.heap.size) : w.heap[k]? = a.heap[k]? := h.nw.block k hk
theorem Gr.size {a w : World} (h : Gr a w) : a.heap.size ≤ w.heap.size := h.nw.size
theorem Nw.drewP {a w : World} (h : Nw a w) : Nw a w.drew := Nw.trans h ⟨rfl, rfl, rfl, Nat.le_refl _, fun _ _ => rfl⟩
theorem Nw.drewO (w : World) : Nw w w.drew := ⟨rfl, rfl, rfl, Nat.le_refl _, fun _ _ => rfl⟩

section
variable {P : Program} {ops : Array Oper} {md : Region.Mode} {C : World → Prop}

theorem wp_region_gr {id : Nat} {Q : Exit → Act → World → Prop} {a : Act} {w : World} {l : List Oper} (hm : P.follows .mixedOrders = true) (hB : Region.lexB .any l.toArray = true)
    (h : wpQuiet P l.toArray (fun w' => ∃ p : Gp, w' = grow (w.drewN p.n) p.os) (fun a' => ∀ w', (∃ p : Gp, w' = grow (w.drewN p.n) p.os) → Q .normal a' w') l a) : (Code.region id l.toArray true).wp P Q a w :=
  wp_region_quiet (C := fun w' => ∃ p : Gp, w' = grow (w.drewN p.n) p.os) hm hB ⟨⟨1, #[]⟩, by rw [grow_empty]; rfl⟩ (by simpa using h)

/-- the head of a region, every operation quiet in the class -/
def wpAnyLC (P : Program) (md : Region.Mode) (ops : Array Oper) (C : World → Prop) (n : Nat) (L : Array Bool → Act → Prop) : Nat → Array Bool → Act → Prop
  | 0, listed, a => L listed a
  | f + 1, listed, a =>
    Region.ready md ops listed ≠ [] ∧ ∀ i ∈ Region.ready md ops listed, i < n ∧ qOp P ops C i (wpAnyLC P md ops C n L f (listed.setIfInBounds i true)) a

theorem wpAny_of_headC {n g : Nat} {L : Array Bool → Act → Prop} {Q' : Exit → Act → World → Prop} (hL : ∀ listed a w, C w → L listed a → wpAny P md ops Q' g listed a w) :
    ∀ (f : Nat) (listed : Array Bool) (a : Act) (w : World), C w → wpAnyLC P md ops C n L f listed a → wpAny P md ops Q' (f + g) listed a w
  | 0, listed, a, w, hw, h => by rw [Nat.zero_add]; exact hL _ _ _ hw h
  | f + 1, listed, a, w, hw, h => by
    rw [show f + 1 + g = (f + g) + 1 by omega]
    exact ⟨fun h0 => absurd h0 h.1, fun i hi => wpOp_of_qOp hw (fun a' w' hw' h' => wpAny_of_headC hL f _ a' w' hw' h') (h.2 i hi).2⟩

theorem wpAnyLC_first {n i : Nat} {oi : Oper} {v : Value} {L : Array Bool → Act → Prop} (hi : ops[i]? = some oi) (hsel : ∀ (j : Nat) (o : Oper) cs b, ops[j]? = some o → o.op ≠ .select cs b)
    (hs : Region.sinkB md ops n = true) (hc : Region.chainB md ops n = true) (hn : n < ops.size) (hin : i < n)
    (hdone : ∀ listed a, L listed a → ∀ j ∈ Region.ready md ops listed, n ≤ j) :
    ∀ (f : Nat) (listed : Array Bool) (a : Act), HeadInv md ops n listed →
      (∀ j oj, ops[j]? = some oj → j ≠ i → listed.getD j true = false → (∀ e ∈ oj.after, Region.binds md e = true → e.on ≠ i) → oi.apart ops oj = true) →
      i ∈ Region.ready md ops listed → YieldsIn P ops C oi v a →
      wpAnyLC P md ops C n L f (listed.setIfInBounds i true) (a.put oi.dst v) → wpAnyLC P md ops C n L (f + 1) listed a := by
  intro f
  induction f with
  | zero =>
    intro listed a inv _ hr hy H
    have hun := (mem_ready.1 hr).1
    refine ⟨fun h => (by rw [h] at hr; cases hr), fun j hj => ?_⟩
    have hjn : j < n := by
      rcases Nat.lt_or_ge j n with h | h
      · exact h
      · exact absurd hj (tail_waits hs hc hn inv _ i rfl hin hun j h)
    refine ⟨hjn, ?_⟩
    by_cases hji : j = i
    · subst hji; exact hy.qOp hi H
    · have := hdone _ _ H j (ready_mono hj hji)
      omega
  | succ f ih =>
    intro listed a inv hfree hr hy H
    have hun := (mem_ready.1 hr).1
    refine ⟨fun h => (by rw [h] at hr; cases hr), fun j hj => ?_⟩
    have hjn : j < n := by
      rcases Nat.lt_or_ge j n with h | h
      · exact h
      · exact absurd hj (tail_waits hs hc hn inv _ i rfl hin hun j h)
    refine ⟨hjn, ?_⟩
    by_cases hji : j = i
    · subst hji; exact hy.qOp hi H
    · have h1 := (H.2 j (ready_mono hj hji)).2
      obtain ⟨hjun, oj, hoj, hall⟩ := mem_ready.1 hj
      have hnot : ∀ e ∈ oj.after, Region.binds md e = true → e.on ≠ i := fun e he hb heq => by
        have h1 := hall e he hb
        rw [heq, getD_both hun] at h1
        cases h1
      have h2 := qOp_put hoj (hfree j oj hoj hji hjun hnot) (fun cs b => hsel i oi cs b hi) (fun cs b => hsel j oj cs b hoj) hy h1
      have hfree' : ∀ k ok, ops[k]? = some ok → k ≠ i → (listed.setIfInBounds j true).getD k true = false →
          (∀ e ∈ ok.after, Region.binds md e = true → e.on ≠ i) → oi.apart ops ok = true := fun k ok hk hki hun hno => by
        refine hfree k ok hk hki ?_ hno
        by_cases hjk : j = k
        · subst hjk; exact hjun
        · rw [getD_set_ne true hjk] at hun; exact hun
      refine qOp_mono (fun a' h3 => ih (listed.setIfInBounds j true) a' (inv.set hj hjn) hfree' (ready_mono hr (Ne.symm hji)) h3.1 ?_) h2
      rw [Array.setIfInBounds_comm _ _ hji]
      exact h3.2

theorem wpAnyLC_lex {n g : Nat} {Lq : Act → Prop} (hsel : Region.noSelect ops = true) (hs : Region.sinkB md ops n = true) (hc : Region.chainB md ops n = true) (hn : n < ops.size) :
    ∀ (l : List Oper) (k : Nat) (listed : Array Bool) (a : Act), (∀ j, j < l.length → l[j]? = ops[k + j]?) → k + l.length = n → HeadInv md ops n listed →
    Region.lexHead md ops g l.length k listed = true → wpQuiet P ops C Lq l a →
    wpAnyLC P md ops C n (fun listed' a' => Region.seqB md ops g n listed' = true ∧ Lq a') l.length listed a
  | [], k, listed, a, _, hk, _, hB, h => by
    have : k = n := by simpa using hk
    subst this
    exact ⟨by simpa [Region.lexHead] using hB, h⟩
  | o :: l, k, listed, a, hl, hk, inv, hB, h => by
    have h0 : ops[k]? = some o := by simpa using (hl 0 (by simp)).symm
    simp only [List.length_cons, Region.lexHead, Bool.and_eq_true] at hB
    obtain ⟨⟨hr, hf⟩, hB'⟩ := hB
    have hkn : k < n := by simp only [List.length_cons] at hk; omega
    have hr' : k ∈ Region.ready md ops listed := by simpa using hr
    have hst : qOp P ops C k (wpQuiet P ops C Lq l) a := by unfold qOp; simp only [h0]; exact h
    obtain ⟨v, hy, hK⟩ := yieldsIn_of_qOp h0 hst
    exact wpAnyLC_first h0 (Region.noSelect_spec hsel) hs hc hn hkn (fun listed' a' hL => seqB_ready hL.1) l.length listed a inv (Region.free_spec h0 hf) hr' hy
      (wpAnyLC_lex hsel hs hc hn l (k + 1) _ _ (fun j hj => by have := hl (j + 1) (by simp; omega); simpa [Nat.add_assoc, Nat.add_comm 1 j] using this) (by simp only [List.length_cons] at hk; omega) (inv.set hr' hkn) hB' hK)

/-- a region whose first n operations read, call and lay blocks, and whose last ones wait for all of these -/
theorem wp_region_gr_tail {id : Nat} {Q : Exit → Act → World → Prop} {a : Act} {w : World} {l : List Oper} (n : Nat) (hm : P.follows .mixedOrders = true) (hB : Region.lexTailB .any l.toArray n = true)
    (h : wpQuiet P l.toArray (fun w' => ∃ p : Gp, w' = grow (w.drewN p.n) p.os) (fun a' => ∀ w', (∃ p : Gp, w' = grow (w.drewN p.n) p.os) → wpList P l.toArray Q (l.drop n) a' w') (l.take n) a) : (Code.region id l.toArray true).wp P Q a w := by
  simp only [Region.lexTailB, Bool.and_eq_true, decide_eq_true_eq] at hB
  obtain ⟨⟨⟨⟨hsel, hn⟩, hs⟩, hc⟩, hlex⟩ := hB
  have hn' : n < l.length := by simpa using hn
  have htl : (l.take n).length = n := by simp; omega
  have hdl : (l.drop n).length = l.toArray.size - n := by simp
  have inv0 : HeadInv .any l.toArray n (Array.replicate l.toArray.size false) :=
    ⟨by simp, fun j oj _ hl => (by rw [getD_replicate_false] at hl; cases hl), fun t _ ht => getD_in (by simpa using ht) (getD_replicate_false _ _)⟩
  have H := wpAnyLC_lex (md := .any) (g := l.toArray.size - n) hsel hs hc hn (l.take n) 0 _ a (fun j hj => by
    have hj' : j < n := by rw [htl] at hj; exact hj
    simp [hj']) (by simpa using htl) inv0 (by rw [htl]; exact hlex) h
  refine wp_region_any hm ?_
  have := wpAny_of_headC (Q' := Q) (g := l.toArray.size - n) (fun listed a' w' hw hL => by
    have := wpAny_of_seq (md := .any) (Q' := Q) (l.drop n) n listed a' w' (fun j => by simp [List.getElem?_drop]) (by rw [hdl]; exact hL.1) (hL.2 w' hw)
    rwa [hdl] at this) _ _ _ { w with drawn := w.drawn + 1 } ⟨⟨1, #[]⟩, by rw [grow_empty]; rfl⟩ H
  rw [htl, show n + (l.toArray.size - n) = l.toArray.size by omega] at this
  exact this
end
end Go.Proofs.YtoogadidbbpplaaGreat
