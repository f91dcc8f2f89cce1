/- slices.SortStableFunc at samples and at series, of any length. -/
import Derived.Test.YtoogadidbbpplaaGreatStableR
import Derived.Test.YtoogadidbbpplaaGreatStab4S
import Derived.Test.YtoogadidbbpplaaGreatStab4R
namespace Go.Proofs.YtoogadidbbpplaaGreat
open Go Go.RowKit Go.Sort Go.Shelf

theorem sw_ow {α : Type} [Inhabited α] {f h : α → Value} {w w' : World} {g n c : Nat} {e : TypeId} {xs : List Value} {d' : Array α} (hO : Ow w g e 2 (some ⟨g, 0, none⟩) n c xs) (hd : d'.size = n) (S : SWK (enc2 f h) 2 w g 0 d' w') : Ow w' g e 2 (some ⟨g, 0, none⟩) n c (c2 f h d'.toList) ∧ Kp g g w w' := by
  obtain ⟨m, os, rfl⟩ := S
  exact sort_ow hO hd os

theorem stableSA_any (w : World) (g n c : Nat) (l : List Smpl) (hn : n = l.length) (hm : n ≤ 1000000) (hO : Ow w g 41 2 (some ⟨g, 0, none⟩) n c (cS l)) :
    Calls Tryz.prog 49 #[.slice (some ⟨g, 0, none⟩) n c, .int .i64 (n : Int), .func (.func 23) #[] #[]] w fun e w' => e = .returned (.tuple #[]) ∧ ∃ l', l'.Perm l ∧ l'.Pairwise (fun x y => ¬ y.1 < x.1) ∧ Ow w' g 41 2 (some ⟨g, 0, none⟩) n c (cS l') ∧ Kp g g w w' := by
  subst hn
  have hO' : Ow w g 41 2 (some ⟨g, 0, none⟩) l.toArray.size c (c2 (fun z : Smpl => .int .i64 z.1) (fun z => .int .u64 (z.2 : Int)) l.toArray.toList) := by simpa [cS] using hO
  obtain ⟨cs, hh, _⟩ := hO.heap
  have hR : RowK (enc2 (fun z : Smpl => Value.int .i64 z.1) (fun z => .int .u64 (z.2 : Int))) 2 w g 0 l.toArray := ⟨fun _ => rfl, fun x v hv => by simp [enc2] at hv; rcases hv with rfl | rfl <;> rfl, holds_ow hO', lt_of_block hh⟩
  refine (stableGS_any tyS szS (fun x y => cmpI x.1 y.1) swo_time (cmpLaysS g _ w) egS hR l.length (by simp) (by omega) c l.toArray w (by simp) (SWK.start hR.hH)).mono ?_
  rintro e w' ⟨rfl, d', hp, hs, S⟩
  have hd : d'.size = l.length := by have := hp.1; simpa using this
  have hw := sw_ow hO hd S
  refine ⟨rfl, d'.toList, ?_, ?_, hw.1, hw.2⟩
  · have := perm_of (d := l.toArray) (d' := d') (by simpa using hp)
    simpa using this
  · refine (sorted_of hs hd.symm).imp ?_
    intro x y h h2
    rw [lt_time.2 h2] at h
    cases h
theorem StableSA_any (w : World) (g n c : Nat) (l : List Smpl) (hn : n = l.length) (hm : n ≤ 1000000) (hO : Ow w g 41 2 (some ⟨g, 0, none⟩) n c (cS l)) :
    Calls Tryz.prog 22 #[.slice (some ⟨g, 0, none⟩) n c, .func (.func 23) #[] #[]] w fun e w' => e = .returned (.tuple #[]) ∧ ∃ l', l'.Perm l ∧ l'.Pairwise (fun x y => ¬ y.1 < x.1) ∧ Ow w' g 41 2 (some ⟨g, 0, none⟩) n c (cS l') ∧ Kp g g w w' := by
  have HI := Lib.hid (stableSA_any w g n c l hn hm hO)
  clear hO hn hm
  go_enter Tryz.func22, Tryz.ntmps22
  go_wp2_with (go_at_call 49; refine HI.out.mono ?_; rintro e w1 ⟨rfl, hR⟩)
  go_end0
  exact ⟨rfl, hR⟩

theorem stableRA_any (w : World) (g n c : Nat) (l : List Ser) (hn : n = l.length) (hm : n ≤ 1000000) (hO : Ow w g 37 2 (some ⟨g, 0, none⟩) n c (cR l)) (hP : ∀ s ∈ l, PS w g s) :
    Calls Tryz.prog 52 #[.slice (some ⟨g, 0, none⟩) n c, .int .i64 (n : Int), .func (.func 26) #[] #[]] w fun e w' => e = .returned (.tuple #[]) ∧ ∃ l', l'.Perm l ∧ l'.Pairwise (fun x y => ¬ cmpLs y.labs x.labs = -1) ∧ Ow w' g 37 2 (some ⟨g, 0, none⟩) n c (cR l') ∧ Kp g g w w' := by
  by_cases h0 : l = []
  · exact stableR_any w g n c l hn (by subst h0; subst hn; exact Nat.zero_lt_succ _) hO hP
  · subst hn
    obtain ⟨s0, hs0⟩ : ∃ s, s ∈ l := by
      cases l with
      | nil => exact (h0 rfl).elim
      | cons x l => exact ⟨x, List.mem_cons_self⟩
    haveI : Inhabited {s : Ser // PS w g s} := ⟨⟨s0, hP s0 hs0⟩⟩
    obtain ⟨L, hL⟩ : ∃ L : List {s : Ser // PS w g s}, L.map (·.1) = l := ⟨_, pmap_val l hP⟩
    have hlen : L.length = l.length := by rw [← hL, List.length_map]
    have hO' : Ow w g 37 2 (some ⟨g, 0, none⟩) L.toArray.size c (c2 (fun x : {s : Ser // PS w g s} => fR x.1) (fun x => hR x.1) L.toArray.toList) := by
      rw [List.size_toArray, List.toList_toArray, c2_val (f := fR) (h := hR) (fun x : {s : Ser // PS w g s} => x.1) L, hL, hlen]
      exact hO
    obtain ⟨cs, hh, _⟩ := hO.heap
    have hRw : RowK (enc2 (fun x : {s : Ser // PS w g s} => fR x.1) (fun x => hR x.1)) 2 w g 0 L.toArray := ⟨fun _ => rfl, fun x v hv => by simp [enc2] at hv; rcases hv with rfl | rfl <;> rfl, holds_ow hO', lt_of_block hh⟩
    refine (stableGR_any tyR szR (fun x y => cmpLs x.1.labs y.1.labs) (cmp3_Ls.swo fun x : {s : Ser // PS w g s} => x.1.labs) (cmpLaysR w g _ _ c _ hO (by simpa using hlen)) egR hRw l.length (by simpa using hlen) (by omega) c L.toArray w (by simpa using hlen) (SWK.start hRw.hH)).mono ?_
    rintro e w' ⟨rfl, d', hp, hs, S⟩
    have hd : d'.size = l.length := by have := hp.1; simpa [hlen] using this
    have hw := sw_ow hO hd S
    refine ⟨rfl, d'.toList.map (·.1), ?_, ?_, ?_, hw.2⟩
    · have := perm_of (d := L.toArray) (d' := d') (by simpa [hlen] using hp)
      rw [List.toList_toArray] at this
      rw [← hL]
      exact this.map _
    · rw [List.pairwise_map]
      refine (sorted_of hs hd.symm).imp ?_
      intro x y h h2
      rw [(cmp3_Ls.lt (κ := fun x : {s : Ser // PS w g s} => x.1.labs)).2 h2] at h
      cases h
    · have := hw.1
      rw [c2_val (f := fR) (h := hR) (fun x : {s : Ser // PS w g s} => x.1)] at this
      exact this
theorem StableRA_any (w : World) (g n c : Nat) (l : List Ser) (hn : n = l.length) (hm : n ≤ 1000000) (hO : Ow w g 37 2 (some ⟨g, 0, none⟩) n c (cR l)) (hP : ∀ s ∈ l, PS w g s) :
    Calls Tryz.prog 25 #[.slice (some ⟨g, 0, none⟩) n c, .func (.func 26) #[] #[]] w fun e w' => e = .returned (.tuple #[]) ∧ ∃ l', l'.Perm l ∧ l'.Pairwise (fun x y => ¬ cmpLs y.labs x.labs = -1) ∧ Ow w' g 37 2 (some ⟨g, 0, none⟩) n c (cR l') ∧ Kp g g w w' := by
  have HI := Lib.hid (stableRA_any w g n c l hn hm hO hP)
  clear hO hn hP hm
  go_enter Tryz.func25, Tryz.ntmps25
  go_wp2_with (go_at_call 52; refine HI.out.mono ?_; rintro e w1 ⟨rfl, hR⟩)
  go_end0
  exact ⟨rfl, hR⟩
end Go.Proofs.YtoogadidbbpplaaGreat
