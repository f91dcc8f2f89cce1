/- The reference of chunk: put, Size, Choose. -/
import Derived.Test.YtjepaneniodbpaaGreatDoorRef7
import Derived.Test.YtjepaneniodbpaaGreatDoorChunkLaw
import Derived.Test.YtjepaneniodbpaaGreatDoorRPut
namespace Go.Proofs.YtjepaneniodbpaaGreatDoor
open Go Go.RowKit

theorem AppR.other {w w' : World} {b : Nat} {m : Nat} {bs X : List Bool} {e : Ending} (h : AppR w b none m bs X e w') (b2 : Nat) : AppR w b2 none m bs X e w' := by
  obtain ⟨b', A', c', rfl, hO, _, _, hn⟩ := h
  obtain ⟨hN, h | rfl⟩ := hn rfl
  · exact ⟨b', A', c', rfl, hO, .inr h, hN.kp _ _, fun _ => ⟨hN, .inl h⟩⟩
  · rcases hO with ⟨_, h1, h2, h3⟩ | ⟨h, _⟩
    · exact ⟨b2, none, c', rfl, .inl ⟨rfl, h1, h2, h3⟩, .inl rfl, hN.kp _ _, fun _ => ⟨hN, .inr rfl⟩⟩
    · cases h
/-- what a call leaves that appends bits and tells whether it did -/
def AppT (w : World) (b : Nat) (A : Option Addr) (m : Nat) (bs X : List Bool) (e : Ending) (w' : World) : Prop :=
  ∃ b' A' c', e = .returned (.tuple #[.slice A' (m + X.length) c', .bool true]) ∧ Ow w' b' 4 1 A' (m + X.length) c' (cB (bs ++ X)) ∧ (b' = b ∨ w.heap.size ≤ b') ∧ Kp b b w w' ∧ (A = none → Nw w w' ∧ (w.heap.size ≤ b' ∨ A' = none))

set_option maxRecDepth 100000 in
theorem RVPut_any (w : World) (b bl : Nat) (A Al : Option Addr) (m c n cl tag : Nat) (bs : List Bool) (l : List Nat) (htag : 1 ≤ tag ∧ tag ≤ 3) (h3 : tag = 3 → (dict l).length ≤ 128) (hO : Ow w b 4 1 A m c (cB bs)) (hn : n = l.length) (hm : n ≤ 10000) (hb : m ≤ 1000000000) (hbw : b < w.heap.size) (hne : bl ≠ b)
    (hr : Rd w bl Al (cN .u64 l)) (hx : ∀ x ∈ l, x < 18446744073709551616) :
    Calls Tryz.prog 24 #[.slice A m c, .int .i64 (tag : Int), .slice Al n cl] w (AppT w b A m bs (vput tag l)) := by
  have hc : tag = 1 ∨ tag = 2 ∨ tag = 3 := by omega
  rcases hc with rfl | rfl | rfl
  · have HP := Lib.hid (RXPut_any w b bl A Al m c n cl bs l hO hn hm hb hne hr hx)
    have HE := Lib.hid (show vput 1 l = xput l from rfl)
    rw [HE.out]
    clear hO hr hx h3 hn
    go_enter Tryz.func24, Tryz.ntmps24
    go_wp2_with (go_at_call 49; refine HP.out.mono ?_; rintro e w1 ⟨b', A', c', rfl, h1, h2, h3, h4⟩; have H1 := Lib.hid h1; have H4 := Lib.hid h4; clear h1 h4)
    go_ret2
    exact ⟨b', A', c', rfl, H1.out, h2, h3, H4.out⟩
  · have HP := Lib.hid (RRPut_any w b bl A Al m c n cl bs l hO hn hm hb hbw hr hx)
    have HE := Lib.hid (show vput 2 l = rput l from rfl)
    rw [HE.out]
    clear hO hr hx h3 hn
    go_enter Tryz.func24, Tryz.ntmps24
    go_wp2_with (go_at_call 50; refine HP.out.mono ?_; rintro e w1 ⟨b', A', c', rfl, h1, h2, h3, h4⟩; have H1 := Lib.hid h1; have H4 := Lib.hid h4; clear h1 h4)
    go_ret2
    exact ⟨b', A', c', rfl, H1.out, h2, h3, H4.out⟩
  · have HE := Lib.hid (show vput 3 l = putBits l from rfl)
    rw [HE.out]
    have HP : Hid (Calls Tryz.prog 51 #[.slice A m c, .slice Al n cl] w (AppT w b A m bs (putBits l))) := by
      refine Lib.hid ?_
      by_cases hl : l = []
      · subst hl hn
        refine (RPut_empty w A Al m c cl).mono ?_
        rintro e w' ⟨rfl, hN⟩
        exact ⟨b, A, c, rfl, by simpa [putBits] using hO.nw hN, .inl rfl, hN.kp _ _, fun e => ⟨hN, .inr e⟩⟩
      · exact RPut_ok w b bl A Al m c n cl bs l hO hn (by omega) hb hbw hne hr hx (h3 rfl) hl
    clear hO hr hx h3 hn
    go_enter Tryz.func24, Tryz.ntmps24
    go_wp2_with (go_at_call 51; refine HP.out.mono ?_; rintro e w1 ⟨b', A', c', rfl, h1, h2, h3, h4⟩; have H1 := Lib.hid h1; have H4 := Lib.hid h4; clear h1 h4)
    go_ret2
    exact ⟨b', A', c', rfl, H1.out, h2, h3, H4.out⟩
set_option maxRecDepth 100000 in
theorem RVPut_limit (w : World) (bl : Nat) (A Al : Option Addr) (m c n cl : Nat) (l : List Nat) (h3 : 128 < (dict l).length) (hn : n = l.length) (hm : n ≤ 10000) (hr : Rd w bl Al (cN .u64 l)) :
    Calls Tryz.prog 24 #[.slice A m c, .int .i64 3, .slice Al n cl] w fun e w' => e = .returned (.tuple #[.slice A m c, .bool false]) ∧ Nw w w' := by
  have HP := Lib.hid (RPut_limit w bl A Al m c n cl l hn (by omega) hr h3)
  clear hr h3 hn
  go_enter Tryz.func24, Tryz.ntmps24
  go_wp2_with (go_at_call 51; refine HP.out.mono ?_; rintro e w1 ⟨rfl, hN⟩)
  go_ret2
  exact ⟨rfl, hN⟩

/-- the size that goes with a tag -/
def sizeT (tag : Nat) (l : List Nat) : Int := if tag = 3 then szOf l else ((vput tag l).length : Int)
set_option maxRecDepth 100000 in
theorem RSize_any (w : World) (bl : Nat) (Al : Option Addr) (n cl tag : Nat) (l : List Nat) (htag : 1 ≤ tag ∧ tag ≤ 3) (hlt : ∃ b, b < w.heap.size ∧ bl ≠ b) (hn : n = l.length) (hm : n ≤ 10000) (hr : Rd w bl Al (cN .u64 l)) (hx : ∀ x ∈ l, x < 18446744073709551616) :
    Calls Tryz.prog 48 #[.int .i64 (tag : Int), .slice Al n cl] w fun e w' => e = .returned (.int .i64 (sizeT tag l)) ∧ Nw w w' := by
  by_cases h3 : tag = 3 ∧ 128 < (dict l).length
  · obtain ⟨rfl, hd⟩ := h3
    have HP := Lib.hid (RVPut_limit w bl none Al 0 0 n cl l hd hn hm hr)
    have hs : sizeT 3 l = -1 := szOf_limit l hd
    rw [hs]
    clear hd hn hr hx hlt hs
    go_enter Tryz.func48, Tryz.ntmps48
    go_wp2_with (go_at_call 24; refine HP.out.mono ?_; rintro e w1 ⟨rfl, hN⟩)
    go_ret
    exact ⟨rfl, hN⟩
  · obtain ⟨b, hbw, hne⟩ := hlt
    have h3' : tag = 3 → (dict l).length ≤ 128 := fun e => by
      by_cases h : (dict l).length ≤ 128
      · exact h
      · exact absurd ⟨e, by omega⟩ h3
    have HP := Lib.hid (RVPut_any w b bl none Al 0 0 n cl tag [] l htag h3' (Ow.nil _ _ _ _) hn hm (by omega) hbw hne hr hx)
    have hs : sizeT tag l = ((vput tag l).length : Int) := by
      unfold sizeT
      split
      · rename_i e
        subst e
        exact szOf_put l (h3' rfl)
      · rfl
    rw [hs]
    generalize vput tag l = X at *
    clear h3' h3 hn hr hx hs hbw hne
    go_enter Tryz.func48, Tryz.ntmps48
    go_wp2_with (go_at_call 24; refine HP.out.mono ?_; rintro e w1 ⟨b', A', c', rfl, h1, h2, h3, h4⟩; have H4 := Lib.hid (h4 rfl).1; clear h1 h2 h3 h4)
    go_ret
    exact ⟨by simp, H4.out⟩

/-- the reference's Choose, by what the sizes are -/
theorem rchoose_walk (w : World) (A : Option Addr) (n c : Nat) (s1 s2 s3 : Int) (t : Nat) (hS1 : ∀ W, Nw w W → Calls Tryz.prog 48 #[.int .i64 1, .slice A n c] W fun e w' => e = .returned (.int .i64 s1) ∧ Nw W w')
    (hS2 : ∀ W, Nw w W → Calls Tryz.prog 48 #[.int .i64 2, .slice A n c] W fun e w' => e = .returned (.int .i64 s2) ∧ Nw W w')
    (hS3 : ∀ W, Nw w W → Calls Tryz.prog 48 #[.int .i64 3, .slice A n c] W fun e w' => e = .returned (.int .i64 s3) ∧ Nw W w')
    (h2 : 0 ≤ s2) (ht : pick3 s1 s2 s3 = t) :
    Calls Tryz.prog 23 #[.slice A n c] w fun e w' => e = .returned (.int .i64 (t : Int)) ∧ Nw w w' := by
  have H1 := Lib.hid hS1
  have H2 := Lib.hid hS2
  have H3 := Lib.hid hS3
  have HT := Lib.hid ht
  clear hS1 hS2 hS3 ht
  by_cases c3 : 0 ≤ s3 <;> by_cases c21 : s2 < s1 <;> by_cases c31 : s3 < s1 <;> by_cases c32 : s3 < s2
  all_goals
    first
    | (exfalso; omega)
    | (have hp : t = pick3 s1 s2 s3 := HT.out.symm
       unfold pick3 at hp
       simp only [c3, c21, c31, c32, h2, and_self, and_true, and_false, if_true, if_false] at hp
       subst hp
       clear HT
       go_enter Tryz.func23, Tryz.ntmps23
       go_wp2_with (go_at_call 48; refine (H1.out _ (Nw.refl _)).mono ?_; rintro e w1 ⟨rfl, hN1⟩)
       refine wp_loop_rounds 3 ?_
       rw [rounds_succ]
       go_wp2_with (go_at_call 48; refine (H2.out _ hN1).mono ?_; rintro e w2 ⟨rfl, hN2⟩)
       rw [rounds_succ]
       go_wp2_with (go_at_call 48; refine (H3.out _ (hN1.trans hN2)).mono ?_; rintro e w3 ⟨rfl, hN3⟩)
       rw [rounds_succ]
       go_wp2_with fail
       go_ret
       exact ⟨rfl, (hN1.trans hN2).trans hN3⟩)

theorem RChoose_any (w : World) (b : Nat) (A : Option Addr) (n c : Nat) (l : List Nat) (hlt : ∃ g, g < w.heap.size ∧ b ≠ g) (hn : n = l.length) (hm : n ≤ 10000) (hr : Rd w b A (cN .u64 l)) (hx : ∀ x ∈ l, x < 18446744073709551616) :
    Calls Tryz.prog 23 #[.slice A n c] w fun e w' => e = .returned (.int .i64 (tagOf l : Int)) ∧ Nw w w' := by
  have hlt' : ∀ W, Nw w W → ∃ g, g < W.heap.size ∧ b ≠ g := fun W hN => by
    obtain ⟨g, h1, h2⟩ := hlt
    exact ⟨g, Nat.lt_of_lt_of_le h1 hN.size, h2⟩
  exact rchoose_walk w A n c _ _ _ _ (fun W hN => RSize_any W b A n c 1 l ⟨by omega, by omega⟩ (hlt' W hN) hn hm (hr.nw hN) hx) (fun W hN => RSize_any W b A n c 2 l ⟨by omega, by omega⟩ (hlt' W hN) hn hm (hr.nw hN) hx)
    (fun W hN => RSize_any W b A n c 3 l ⟨by omega, by omega⟩ (hlt' W hN) hn hm (hr.nw hN) hx) (by show (0 : Int) ≤ ((rput l).length : Int); omega) rfl
end Go.Proofs.YtjepaneniodbpaaGreatDoor
