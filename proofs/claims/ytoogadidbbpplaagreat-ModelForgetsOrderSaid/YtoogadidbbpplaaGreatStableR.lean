/- slices.SortStableFunc at series, below 20 elements. -/
import Derived.Test.YtoogadidbbpplaaGreatStable
import Derived.Test.YtoogadidbbpplaaGreatOrder
namespace Go.Proofs.YtoogadidbbpplaaGreat
open Go Go.RowKit Go.Sort Go.Shelf

section
variable {w w' : World} {b n c g g' : Nat} {A : Option Addr}
theorem InLab.kp {l : List Lab} (h : InLab w b A n c l) (hk : Kp g g' w w') (h1 : b ≠ g) (h2 : b ≠ g') : InLab w' b A n c l := ⟨h.rd.kp hk h1 h2, h.len, h.nil, h.cap, h.max, h.small⟩
theorem InSmp.kp {l : List Smpl} (h : InSmp w b A n c l) (hk : Kp g g' w w') (h1 : b ≠ g) (h2 : b ≠ g') : InSmp w' b A n c l := ⟨h.rd.kp hk h1 h2, h.len, h.wf, h.nil, h.cap, h.max⟩
theorem SerOk.kp {s : Ser} (h : SerOk w s) (hk : Kp g g w w') (h1 : s.bl ≠ g) (h2 : s.bs ≠ g) : SerOk w' s := ⟨h.1.kp hk h1 h1, h.2.kp hk h2 h2⟩
end
/-- a series whose lists lie elsewhere than in g -/
def PS (w : World) (g : Nat) (s : Ser) : Prop := SerOk w s ∧ s.bl ≠ g ∧ s.bs ≠ g ∧ s.labs.length ≤ 1000000
abbrev fR : Ser → Value := fun s => .slice s.al s.labs.length s.cl
abbrev hR : Ser → Value := fun s => .slice s.as_ s.smps.length s.cs
theorem c2_val {α β : Type} {f h : β → Value} (κ : α → β) (l : List α) : c2 (fun x => f (κ x)) (fun x => h (κ x)) l = c2 f h (l.map κ) := by
  unfold c2
  rw [List.flatMap_map]
theorem pmap_val {α : Type} {p : α → Prop} (l : List α) (h : ∀ a ∈ l, p a) : (l.pmap Subtype.mk h).map (·.1) = l := by
  rw [List.map_pmap]
  simp

theorem cmpLaysR (w : World) (g size n c : Nat) (xs : List Value) [Inhabited {s : Ser // PS w g s}] (hO : Ow w g 37 2 (some ⟨g, 0, none⟩) n c xs) (hn : size = n) :
    CmpLays Tryz.prog 26 #[] (fun x : {s : Ser // PS w g s} => [fR x.1, hR x.1]) 2 (fun x y => cmpLs x.1.labs y.1.labs) g 0 size w := by
  intro m os dk hd x y
  have hk := (sort_ow (α := {s : Ser // PS w g s}) (f := fun x => fR x.1) (h := fun x => hR x.1) (m := m) hO (hd.trans hn) os).2
  refine (bySet_any _ x.1 y.1 (x.2.1.kp hk x.2.2.1 x.2.2.2.1) (y.2.1.kp hk y.2.2.1 y.2.2.2.1) x.2.2.2.2 y.2.2.2.2).mono ?_
  rintro e w' ⟨he, p, hp⟩
  exact ⟨he, p.n, p.os, hp⟩

/-- the insertion sort of series -/
theorem InsR_any (w : World) (g n c : Nat) (l : List Ser) (hn : n = l.length) (hm : n ≤ 1000000) (hO : Ow w g 37 2 (some ⟨g, 0, none⟩) n c (cR l)) (hP : ∀ s ∈ l, PS w g s) :
    Calls Tryz.prog 69 #[.slice (some ⟨g, 0, none⟩) n c, .int .i64 0, .int .i64 (n : Int), .func (.func 26) #[] #[]] w fun e w' => e = .returned (.tuple #[]) ∧ ∃ l', l'.Perm l ∧ l'.Pairwise (fun x y => ¬ cmpLs y.labs x.labs = -1) ∧ Ow w' g 37 2 (some ⟨g, 0, none⟩) n c (cR l') ∧ Kp g g w w' := by
  subst hn
  by_cases h0 : l = []
  · subst h0
    have h := AnyF.insertionSortCmpFunc_none Tryz.insSer (some ⟨g, 0, none⟩) c (.func (.func 26) #[] #[]) w
    refine (show Calls Tryz.prog 69 _ _ _ from h).mono ?_
    rintro e w' ⟨rfl, rfl⟩
    exact ⟨rfl, [], List.Perm.nil, List.Pairwise.nil, hO, Kp.refl _ _ _⟩
  · obtain ⟨s0, hs0⟩ : ∃ s, s ∈ l := by
      cases l with
      | nil => exact (h0 rfl).elim
      | cons x l => exact ⟨x, List.mem_cons_self⟩
    haveI : Inhabited {s : Ser // PS w g s} := ⟨⟨s0, hP s0 hs0⟩⟩
    obtain ⟨L, hL⟩ : ∃ L : List {s : Ser // PS w g s}, L.map (·.1) = l := ⟨_, pmap_val l hP⟩
    have hlen : L.length = l.length := by rw [← hL, List.length_map]
    have hO' : Ow w g 37 2 (some ⟨g, 0, none⟩) L.toArray.size c (c2 (fun x : {s : Ser // PS w g s} => fR x.1) (fun x => hR x.1) L.toArray.toList) := by
      rw [List.size_toArray, List.toList_toArray, c2_val (f := fR) (h := hR) (fun x : {s : Ser // PS w g s} => x.1) L, hL, hlen]
      exact hO
    obtain ⟨cs, hh, _⟩ := hO.heap
    have hcon := AnyQ.insertionSortCmpFunc Tryz.insSer 2 tyR szR (fun x : {s : Ser // PS w g s} => [fR x.1, hR x.1]) (fun _ => rfl) (fun x v hv => by simp at hv; rcases hv with rfl | rfl <;> rfl) (fun x y => cmpLs x.1.labs y.1.labs) 26 #[] g 0 c 0 L.toArray.size L.toArray w egR (cmpLaysR w g _ _ c _ hO (by simpa using hlen)) (holds_ow hO') (lt_of_block hh) (Nat.zero_le _) (Nat.le_refl _) (by simp; omega)
    change Calls Tryz.prog 69 _ _ _ at hcon
    rw [List.size_toArray, hlen] at hcon
    refine hcon.mono ?_
    rintro e w' ⟨rfl, m, os, rfl⟩
    obtain ⟨hp, hs⟩ := insertionSort_holds (lt := ltOf fun x y : {s : Ser // PS w g s} => cmpLs x.1.labs y.1.labs) (cmp3_Ls.swo fun x : {s : Ser // PS w g s} => x.1.labs) L.toArray 0 l.length (Nat.zero_le _) (by simp [hlen])
    generalize Sort.insertionSort (ltOf fun x y : {s : Ser // PS w g s} => cmpLs x.1.labs y.1.labs) L.toArray 0 l.length = d' at *
    have hd : d'.size = l.length := by have := hp.1; simpa [hlen] using this
    have hw := sort_ow (α := {s : Ser // PS w g s}) (f := fun x => fR x.1) (h := fun x => hR x.1) (m := m) hO hd os
    refine ⟨rfl, d'.toList.map (·.1), ?_, ?_, ?_, hw.2⟩
    · have := perm_of (d := L.toArray) (d' := d') (by simpa [hlen] using hp)
      rw [List.toList_toArray] at this
      rw [← hL]
      exact this.map _
    · rw [List.pairwise_map]
      refine (sorted_of hs hd.symm).imp ?_
      intro x y h h2
      rw [(cmp3_Ls.lt (κ := fun x : {s : Ser // PS w g s} => x.1.labs)).2 h2] at h
      cases h
    · have := hw.1
      rw [c2_val (f := fR) (h := hR) (fun x : {s : Ser // PS w g s} => x.1)] at this
      exact this

set_option maxRecDepth 100000 in
theorem stableR_any (w : World) (g n c : Nat) (l : List Ser) (hn : n = l.length) (hm : n < 20) (hO : Ow w g 37 2 (some ⟨g, 0, none⟩) n c (cR l)) (hP : ∀ s ∈ l, PS w g s) :
    Calls Tryz.prog 52 #[.slice (some ⟨g, 0, none⟩) n c, .int .i64 (n : Int), .func (.func 26) #[] #[]] w fun e w' => e = .returned (.tuple #[]) ∧ ∃ l', l'.Perm l ∧ l'.Pairwise (fun x y => ¬ cmpLs y.labs x.labs = -1) ∧ Ow w' g 37 2 (some ⟨g, 0, none⟩) n c (cR l') ∧ Kp g g w w' := by
  have HI := Lib.hid (InsR_any w g n c l hn (by omega) hO hP)
  have h1 : ¬ (20 : Int) ≤ (n : Int) := by omega
  have h2 : ¬ (20 : Int) < (n : Int) := by omega
  clear hO hn hP
  go_enter Tryz.func52, Tryz.ntmps52
  go_wp2
  refine wp_loop_rounds 1 ?_
  rw [rounds_succ]
  go_wp2_with (go_at_call 69; refine HI.out.mono ?_; rintro e w1 ⟨rfl, hR⟩)
  have HR := Lib.hid hR
  clear hR
  refine wp_loop_rounds 1 ?_
  rw [rounds_succ]
  go_wp2
  go_end0
  exact ⟨rfl, HR.out⟩
theorem StableR_any (w : World) (g n c : Nat) (l : List Ser) (hn : n = l.length) (hm : n < 20) (hO : Ow w g 37 2 (some ⟨g, 0, none⟩) n c (cR l)) (hP : ∀ s ∈ l, PS w g s) :
    Calls Tryz.prog 25 #[.slice (some ⟨g, 0, none⟩) n c, .func (.func 26) #[] #[]] w fun e w' => e = .returned (.tuple #[]) ∧ ∃ l', l'.Perm l ∧ l'.Pairwise (fun x y => ¬ cmpLs y.labs x.labs = -1) ∧ Ow w' g 37 2 (some ⟨g, 0, none⟩) n c (cR l') ∧ Kp g g w w' := by
  have HI := Lib.hid (stableR_any w g n c l hn hm hO hP)
  clear hO hn hP
  go_enter Tryz.func25, Tryz.ntmps25
  go_wp2_with (go_at_call 52; refine HI.out.mono ?_; rintro e w1 ⟨rfl, hR⟩)
  go_end0
  exact ⟨rfl, hR⟩
end Go.Proofs.YtoogadidbbpplaaGreat
