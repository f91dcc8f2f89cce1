/- A label set put in order: labels.Normalize. -/
import Derived.Test.YtoogadidbbpplaaGreatNormL
import Derived.Shelf.SlSortCmp.NoneTotal
namespace Go.Proofs.YtoogadidbbpplaaGreat
open Go Go.RowKit Go.Sort Go.Shelf

/-- the labels in an order of their names -/
def InOrder (l' l : List Lab) : Prop := l'.Perm l ∧ l'.Pairwise fun x y => ¬ Op.bytesLess y.1.toList x.1.toList = true
theorem SortL0_any (w : World) (A : Option Addr) (c : Nat) (fv : Value) : Calls Tryz.prog 45 #[.slice A 0 c, fv] w fun e w' => e = .returned (.tuple #[]) ∧ w' = w := AnyF.slices_SortFunc_none Tryz.sortLab A c fv w
theorem SortLA_any (w : World) (g g0 n c : Nat) (A : Option Addr) (l : List Lab) (hn : n = l.length) (hm : n ≤ 1000000) (hO : Ow w g 47 2 A n c (cL l)) (hc : w.cell? ⟨g0, 0, none⟩ = some (.func (.func 64) #[] #[])) (hne : A = none ∨ g0 ≠ g) :
    Calls Tryz.prog 45 #[.slice A n c, .func (.func 62) #[] #[.pointer (some ⟨g0, 0, none⟩)]] w fun e w' => e = .returned (.tuple #[]) ∧ ∃ l', InOrder l' l ∧ Ow w' g 47 2 A n c (cL l') ∧ Kp g g w w' ∧ (A = none → Nw w w') := by
  cases A with
  | none =>
    have hl0 : l = [] := by
      rcases hO with ⟨_, h, _⟩ | ⟨h, _⟩
      · subst h; exact List.eq_nil_of_length_eq_zero hn.symm
      · cases h
    subst hl0
    subst hn
    refine (SortL0_any w none c _).mono ?_
    rintro e w' ⟨rfl, rfl⟩
    exact ⟨rfl, [], ⟨List.Perm.nil, List.Pairwise.nil⟩, hO, Kp.refl _ _ _, fun _ => Nw.refl _⟩
  | some a =>
    refine (SortL_any w g g0 n c a l hn hm hO hc (by rcases hne with h | h; cases h; exact h)).mono ?_
    rintro e w' ⟨rfl, l', h1, h2, h3, h4⟩
    exact ⟨rfl, l', ⟨h1, h2⟩, h3, h4, fun h => by cases h⟩

/-- what labels.Normalize leaves: nil and an error, or the labels in an order of their names, in a block of their own -/
def NormGot (w : World) (l : List Lab) (e : Ending) (w' : World) : Prop :=
  Nw w w' ∧ ((oneAll l ≠ 0 ∧ e = .returned (.tuple #[.slice none 0 0, .int .i64 (oneAll l : Nat)])) ∨
    (oneAll l = 0 ∧ ∃ l', InOrder l' l ∧
      ((chkL l' ≠ 0 ∧ e = .returned (.tuple #[.slice none 0 0, .int .i64 (chkL l' : Nat)])) ∨
       (chkL l' = 0 ∧ ∃ g A c, e = .returned (.tuple #[.slice A l.length c, .int .i64 0]) ∧ Ow w' g 47 2 A l.length c (cL l') ∧ ((A = none ∧ l = []) ∨ (A = some ⟨g, 0, none⟩ ∧ w.heap.size ≤ g))))))

set_option maxRecDepth 100000 in
set_option maxHeartbeats 1600000 in
theorem NormL_any (w : World) (b : Nat) (A : Option Addr) (n c : Nat) (l : List Lab) (hI : InLab w b A n c l) (hn : n ≤ 1000000) :
    Calls Tryz.prog 21 #[.slice A n c] w (NormGot w l) := by
  have hl := hI.len
  subst hl
  have HR := Lib.hid hI.rd
  have HCl := Lib.hid fun W (hN : Nw w W) => CloneL_any W b A l.length c l (hI.nw hN) hn
  have i0 : ∀ W, (Instr.index 81 (.agg partFs) (.int .i64 0)).run Tryz.prog W = .ok (.agg #[.func (.func 64) #[] #[]]) W := fun _ => by kernel_rfl
  have fl0 : ∀ W, (Instr.field 80 (.agg #[.func (.func 64) #[] #[]]) 0).run Tryz.prog W = .ok (.func (.func 64) #[] #[]) W := fun _ => by kernel_rfl
  clear hI
  go_enter Tryz.func21, Tryz.ntmps21
  go_wp2
  go_loopw [11] (fun i wr => ∃ k : Nat, k ≤ l.length ∧ i = .int .i64 k ∧ Hid (oneAll l = oneAll (l.drop k)) ∧ Hid (Nw w wr)) (fun i _ => l.length - (intOf i).toNat)
  case atStart => exact ⟨0, by omega, rfl, Lib.hid rfl, Lib.hid (Nw.refl _)⟩
  case round =>
    obtain ⟨k, hk, rfl, HX, HN⟩ := hrel
    by_cases hlt : k < l.length
    · have hltI : (k : Int) < (l.length : Int) := by omega
      obtain ⟨o, rfl, hbw, hc0, hc1⟩ := two_at (HR.out.nw HN.out) hlt
      have hX := HX.out
      rw [drop_cons hlt, show ∀ x m, oneAll (x :: m) = if oneE x ≠ 0 then oneE x else oneAll m from fun _ _ => rfl] at hX
      generalize l[k] = x at *
      obtain ⟨a, d⟩ := x
      dsimp only at hc0 hc1
      have HS := Lib.hid fun W => single_any W a d
      obtain ⟨E, hE⟩ : ∃ E, oneE (a, d) = E := ⟨_, rfl⟩
      rw [hE] at HS hX
      have HNA := Lib.hid (HN.out.alloc' (.cells #[.string a, .string d] 47))
      clear hE
      by_cases hE0 : E = 0
      · have hE1 : ((E : Int) != 0) = false := by rw [bne_eq_false_iff_eq]; omega
        rw [if_neg (by simp [hE0])] at hX
        have HX2 := Lib.hid hX
        clear hX HX
        go_wp2_with (go_at_call 43; refine (HS.out _).mono ?_; rintro e w3 ⟨rfl, hN3⟩)
        go_roundw
        case rel => exact ⟨k + 1, by omega, by go_num, HX2, Lib.hid (HNA.out.trans hN3)⟩
        case measure => simp [intOf]; omega
      · have hE1 : ((E : Int) != 0) = true := by rw [bne_iff_ne]; omega
        rw [if_pos hE0] at hX
        have HX2 := Lib.hid hX
        have HE0 := Lib.hid hE0
        clear hX HX hE0
        go_wp2_with (go_at_call 43; refine (HS.out _).mono ?_; rintro e w3 ⟨rfl, hN3⟩)
        go_ret2
        exact ⟨HNA.out.trans hN3, .inl ⟨by rw [HX2.out]; exact HE0.out, by rw [HX2.out]; rfl⟩⟩
    · obtain rfl : k = l.length := by omega
      have hX := HX.out
      rw [List.drop_length] at hX
      have HX2 := Lib.hid (show oneAll l = 0 from hX)
      clear hX HX
      go_wp2_with (first
        | (go_at_call 44; refine (HCl.out _ HN.out).mono ?_; rintro e w1 ⟨g, A', c', rfl, hO1, hN1, hA1⟩)
        | (go_at_call 45; refine (SortLA_any _ g w2.heap.size _ _ A' l rfl hn (hO1.nw (hgr.nw.alloc' _)) (by rw [cell_at (heap_alloc_new w2 _)]; rfl) (by rcases hA1 with h | h; exact .inl h.1; right; have h5 := hO1; rw [h.1] at h5; obtain ⟨_, h6, _⟩ := h5.heap; have h7 := lt_of_block h6; have h8 := hgr.nw.size; omega)).mono ?_; rintro e w4 ⟨rfl, l', hio, hO4, hK4, hZ4⟩)
        | (go_at_call 46; refine (by_any _ _).mono ?_; rintro e w3 ⟨rfl, rfl⟩)
        | (go_at_call 47; refine (parts_any _).mono ?_; rintro e w2 ⟨rfl, hgr⟩))
      have hlen : l'.length = l.length := hio.1.length_eq
      have HCK := Lib.hid (CheckL_any w4 g A' l.length c' l' hlen.symm (by omega) hO4.rd)
      have HIO := Lib.hid hio
      have HO4 := Lib.hid hO4
      have HA1 := Lib.hid hA1
      have hN4 : Nw wr w4 := by
        have hN3 : Nw wr (w2.alloc (.cells #[.func (.func 64) #[] #[]] 78)) := (hN1.trans hgr.nw).alloc' _
        rcases hA1 with ⟨h1, _⟩ | ⟨_, h⟩
        · exact hN3.trans (hZ4 h1)
        · exact Kp.nw hN3 hK4 h h
      have HN4 := Lib.hid (HN.out.trans hN4)
      clear hio hO4 hA1 hN4 hK4 hO1 hN1 hgr hZ4
      obtain ⟨C, hC⟩ : ∃ C, chkL l' = C := ⟨_, rfl⟩
      rw [hC] at HCK
      have HC := Lib.hid hC
      clear hC
      refine HCK.out.mono ?_
      rintro e w5 ⟨rfl, hN5⟩
      by_cases h0 : C = 0
      · have h0b : ((C : Int) != 0) = false := by rw [bne_eq_false_iff_eq]; omega
        have HC0 := Lib.hid (HC.out.trans h0)
        clear h0
        go_wp2
        go_ret2
        refine ⟨HN4.out.trans hN5, .inr ⟨HX2.out, l', HIO.out, .inr ⟨HC0.out, g, A', c', rfl, HO4.out.nw hN5, ?_⟩⟩⟩
        rcases HA1.out with h | ⟨h, h2⟩
        · exact .inl h
        · exact .inr ⟨h, Nat.le_trans HN.out.size h2⟩
      · have h0b : ((C : Int) != 0) = true := by rw [bne_iff_ne]; omega
        have HC0 := Lib.hid h0
        clear h0
        go_wp2
        go_ret2
        exact ⟨HN4.out.trans hN5, .inr ⟨HX2.out, l', HIO.out, .inl ⟨by rw [HC.out]; exact HC0.out, by rw [HC.out]; rfl⟩⟩⟩
end Go.Proofs.YtoogadidbbpplaaGreat
