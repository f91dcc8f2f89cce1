/- A label set put in order: labels.Normalize. -/
import Derived.Test.YtoogadidbbpplaaGreatSortW
import Derived.Test.YtoogadidbbpplaaGreatShelfM
namespace Go.Proofs.YtoogadidbbpplaaGreat
open Go Go.RowKit Go.Sort Go.Shelf

/-- the first error of a label by itself -/
def oneAll : List Lab → Nat
  | [] => 0
  | x :: l => if oneE x ≠ 0 then oneE x else oneAll l

theorem CloneL_any (w : World) (b : Nat) (A : Option Addr) (n c : Nat) (l : List Lab) (hI : InLab w b A n c l) (hn : n ≤ 1000000) :
    Calls Tryz.prog 44 #[.slice A n c] w fun e w' => ∃ g A' c', e = .returned (.slice A' n c') ∧ Ow w' g 47 2 A' n c' (cL l) ∧ Nw w w' ∧ ((A' = none ∧ l = []) ∨ (A' = some ⟨g, 0, none⟩ ∧ w.heap.size ≤ g)) := by
  have hl := hI.len
  subst hl
  have HI := Lib.hid hI
  have q32 : ∀ (w : World) (a : Option Addr) (n c n' c' : Nat), (binOp .eql 34 (.slice a n c) (.slice none n' c')).run Tryz.prog w = .ok (.bool a.isNone) w := fun w a n c n' c' => Lib.run_eql_slice_nil w _ _ a n c n' c' Tryz.underlying34
  clear hI
  cases A with
  | none =>
    have h0 : l = [] := by
      have := HI.out.rd
      rcases this with h | ⟨o, h, _⟩
      · cases l with
        | nil => rfl
        | cons x l => simp [cL, c2] at h
      · cases h
    subst h0
    have hc := HI.out.nil rfl
    subst hc
    go_enter Tryz.func44, Tryz.ntmps44
    go_wp2
    go_ret
    exact ⟨0, none, 0, rfl, Ow.nil _ _ _ _, Nw.refl _, by simp⟩
  | some a =>
    have hOw := Ow.empty w 47 2
    have HOw := Lib.hid hOw
    clear hOw
    go_enter Tryz.func44, Tryz.ntmps44
    go_wp2_with (at_builtin; refine wpList_app E_lab rfl (.tmp 5) (.tmp 6) rfl rfl HOw.out rfl (HI.out.rd.nw ((Nw.refl w).alloc' _)) (by rw [show (cL l).length = 2 * l.length from c2_length _]; omega) (fun e => by cases e) (oc_L _) (by simp only [maxLen]; omega) (by omega) ?_; intro b3 A3 c3 w3 q1 q2 q3 q4; have Q1 := Lib.hid q1; have Q2 := Lib.hid q2; have Q3 := Lib.hid q3; clear q1 q2 q3 q4)
    go_ret
    have h1 := Q1.out
    rw [Nat.zero_add, List.nil_append] at h1
    refine ⟨b3, A3, c3, rfl, h1, Kp.nw ((Nw.refl w).alloc' _) Q3.out (Nat.le_refl _) (Nat.le_refl _), ?_⟩
    rcases h1 with ⟨h2, _, _, h3⟩ | ⟨h2, _⟩
    · refine .inl ⟨h2, ?_⟩
      cases l with
      | nil => rfl
      | cons x l => simp [cL, c2] at h3
    · refine .inr ⟨h2, ?_⟩
      rcases Q2.out with h | h
      · omega
      · simp at h; omega

theorem ltOf_name (x y : Lab) : ltOf (fun x y : Lab => cmpS x.1 y.1) x y = decide (cmpS x.1 y.1 < 0) := rfl
theorem lt_name {x y : Lab} : ltOf (fun x y : Lab => cmpS x.1 y.1) x y = true ↔ Op.bytesLess x.1.toList y.1.toList = true := by
  rw [ltOf_name, decide_eq_true_iff, ← cmpS_neg]
  rcases cmpS_in x.1 y.1 with h | h | h <;> rw [h] <;> decide
theorem swo_name : SWO (ltOf fun x y : Lab => cmpS x.1 y.1) where
  irrefl x := by
    rw [Bool.eq_false_iff]
    intro h
    rw [lt_name, bl_irrefl] at h
    cases h
  trans x y z h1 h2 := by
    rw [lt_name] at *
    exact bl_trans _ _ _ h1 h2
  ntrans x y z h1 h2 := by
    rw [Bool.eq_false_iff] at *
    intro h
    rw [ne_eq, lt_name] at *
    rcases bl_total x.1.toList y.1.toList with a | a | a
    · exact h1 a
    · rw [a] at h; exact h2 h
    · exact h2 (bl_trans _ _ _ a h)

theorem SortL_any (w : World) (g g0 n c : Nat) (a : Addr) (l : List Lab) (hn : n = l.length) (hm : n ≤ 1000000) (hO : Ow w g 47 2 (some a) n c (cL l)) (hc : w.cell? ⟨g0, 0, none⟩ = some (.func (.func 64) #[] #[])) (hne : g0 ≠ g) :
    Calls Tryz.prog 45 #[.slice (some a) n c, .func (.func 62) #[] #[.pointer (some ⟨g0, 0, none⟩)]] w fun e w' => e = .returned (.tuple #[]) ∧ ∃ l', l'.Perm l ∧ l'.Pairwise (fun x y => ¬ Op.bytesLess y.1.toList x.1.toList = true) ∧ Ow w' g 47 2 (some a) n c (cL l') ∧ Kp g g w w' := by
  subst hn
  obtain ⟨cs, hh, _, _, rfl⟩ := hO.heap
  have hg0 := lt_of_cell hc
  have eg : ∀ args w, (callFunc 62 args).run Tryz.prog w = .ok (.enter 62 args) w := enters_of Tryz.func62 (by kernel_rfl) rfl
  have hO' : Ow w g 47 2 (some ⟨g, 0, none⟩) l.toArray.size c (c2 (fun x : Lab => .string x.1) (fun x => .string x.2) l.toArray.toList) := by simpa [cL] using hO
  have hcmp : CmpLays Tryz.prog 62 #[.pointer (some ⟨g0, 0, none⟩)] (fun x : Lab => [.string x.1, .string x.2]) 2 (fun x y => cmpS x.1 y.1) g 0 l.toArray.size w := by
    intro m os dk hd x y
    have hk := (sort_ow (α := Lab) (f := fun x => .string x.1) (h := fun x => .string x.2) (m := m) hO' hd os).2
    have hcc := (World.cell?_of_block (hk.block g0 hg0 hne hne) (a := ⟨g0, 0, none⟩)).trans hc
    refine (byC1_any _ g0 x.1 x.2 y.1 y.2 hcc).mono ?_
    rintro e w' ⟨he, p, hp⟩
    exact ⟨he, p.n, p.os, hp⟩
  have hcon := AnyQ.slices_SortFunc Tryz.sortLab 2 (fun w => by kernel_rfl) (fun w => by kernel_rfl) (fun x : Lab => [.string x.1, .string x.2]) (fun _ => rfl) (fun x v hv => by simp at hv; rcases hv with rfl | rfl <;> rfl) (fun x y => cmpS x.1 y.1) swo_name 62 #[.pointer (some ⟨g0, 0, none⟩)] g 0 c l.toArray w eg hcmp (holds_ow hO') (lt_of_block hh) (by simp; omega)
  change Calls Tryz.prog 45 _ _ _ at hcon
  rw [List.size_toArray] at hcon
  refine hcon.mono ?_
  rintro e w' ⟨rfl, d', m, os, hp, hs, rfl⟩
  have hd : d'.size = l.length := by have := hp.1; simpa using this
  have hw := sort_ow (α := Lab) (f := fun x => .string x.1) (h := fun x => .string x.2) (m := m) hO hd os
  refine ⟨rfl, d'.toList, ?_, ?_, hw.1, hw.2⟩
  · have := perm_of (d := l.toArray) (d' := d') (by simpa using hp)
    simpa using this
  · refine (sorted_of hs hd.symm).imp ?_
    intro x y h h2
    rw [lt_name.2 h2] at h
    cases h
end Go.Proofs.YtoogadidbbpplaaGreat
