/- model.Normalize: what becomes of a list of series. -/
import Derived.Test.YtoogadidbbpplaaGreatStableG
namespace Go.Proofs.YtoogadidbbpplaaGreat
open Go Go.RowKit Go.Sort Go.Shelf

abbrev Val := List Lab × List Smpl
/-- the error of a series, by its value -/
def valE (y : Val) : Nat := if chkL y.1 ≠ 0 then chkL y.1 else if y.2.length = 0 then 21 else tmE y.2
theorem serE_val (s : Ser) : serE s = valE (valS s) := rfl
/-- the error of series behind one, by their values -/
def asV : Val → List Val → Nat
  | _, [] => 0
  | p, x :: l => if cmpLs p.1 x.1 = 0 then 19 else if cmpLs p.1 x.1 = 1 then 16 else asV x l
def asVE : List Val → Nat
  | [] => 0
  | x :: l => asV x l
theorem asF_val : ∀ (p : Ser) (l : List Ser), asF p l = asV (valS p) (l.map valS)
  | _, [] => rfl
  | p, x :: l => by
    show (if cmpLs p.labs x.labs = 0 then 19 else if cmpLs p.labs x.labs = 1 then 16 else asF x l) = _
    rw [asF_val x l]; rfl
theorem asE_val (l : List Ser) : asE l = asVE (l.map valS) := by
  cases l with
  | nil => rfl
  | cons x l => exact asF_val x l
/-- what becomes of one series: E is its error, y what it is behind -/
def SerTo (x : Val) (E : Nat) (y : Val) : Prop :=
  (oneAll x.1 ≠ 0 ∧ E = oneAll x.1) ∨
  (oneAll x.1 = 0 ∧ InOrder y.1 x.1 ∧ ((chkL y.1 ≠ 0 ∧ E = chkL y.1) ∨
    (chkL y.1 = 0 ∧ y.2.Perm x.2 ∧ y.2.Pairwise (fun a b : Smpl => ¬ b.1 < a.1) ∧ E = valE y)))
def AllTo (l m : List Val) : Prop := m.length = l.length ∧ ∀ (i : Nat) (x y : Val), l[i]? = some x → m[i]? = some y → SerTo x 0 y
theorem AllTo.nil : AllTo [] [] := ⟨rfl, fun i x y h => by simp at h⟩
theorem AllTo.snoc {l m : List Val} {x y : Val} (h : AllTo l m) (k : SerTo x 0 y) : AllTo (l ++ [x]) (m ++ [y]) := by
  refine ⟨by simp [h.1], fun i a b ha hb => ?_⟩
  by_cases hi : i < l.length
  · rw [List.getElem?_append_left hi] at ha
    rw [List.getElem?_append_left (by rw [h.1]; exact hi)] at hb
    exact h.2 i a b ha hb
  · rw [List.getElem?_append_right (by omega)] at ha
    rw [List.getElem?_append_right (by rw [h.1]; omega), h.1] at hb
    by_cases h0 : i - l.length = 0
    · rw [h0] at ha hb
      simp at ha hb
      subst ha hb
      exact k
    · rw [List.getElem?_eq_none (by simp; omega)] at ha
      cases ha
/-- what becomes of a list of series -/
def ListTo (l : List Val) (E : Nat) (r : List Val) : Prop :=
  (∃ (k : Nat) (x y : Val) (m : List Val), l[k]? = some x ∧ AllTo (l.take k) m ∧ SerTo x E y ∧ E ≠ 0) ∨
  (∃ m, AllTo l m ∧ r.Perm m ∧ r.Pairwise (fun a b => ¬ cmpLs b.1 a.1 = -1) ∧ E = asVE r)
/-- what model.Normalize leaves -/
def MGot (w : World) (l : List Val) (n : Nat) (e : Ending) (w' : World) : Prop :=
  Nw w w' ∧ ∃ E r, ListTo l E r ∧ ((E ≠ 0 ∧ e = .returned (.tuple #[.slice none 0 0, .int .i64 (E : Nat)])) ∨
    (E = 0 ∧ ∃ g l', e = .returned (.tuple #[.slice (some ⟨g, 0, none⟩) n n, .int .i64 0]) ∧ l'.map valS = r ∧ l'.length = n ∧ w.heap.size ≤ g ∧ Ow w' g 37 2 (some ⟨g, 0, none⟩) n n (cR l') ∧ ∀ s ∈ l', SerOk w' s))

/-- a series that is done -/
structure Dn (w : World) (g N : Nat) (s : Ser) : Prop where
  ok : SerOk w s
  bl : N ≤ s.bl
  bs : s.bs < N
  ne : s.bs ≠ g
  small : Small s
section
variable {w w' : World} {g g' N lo : Nat} {s : Ser}
theorem SerOk.kp2 (h : SerOk w s) (hk : Kp g g' w w') (h1 : s.bl ≠ g) (h2 : s.bl ≠ g') (h3 : s.bs ≠ g) (h4 : s.bs ≠ g') : SerOk w' s := ⟨h.1.kp hk h1 h2, h.2.kp hk h3 h4⟩
theorem Dn.kp (h : Dn w g N s) (hk : Kp g g' w w') (hg : g < N) (hg' : g' < N) (h4 : s.bs ≠ g') : Dn w' g N s :=
  ⟨h.ok.kp2 hk (by have := h.bl; omega) (by have := h.bl; omega) h.ne h4, h.bl, h.bs, h.ne, h.small⟩
end

theorem c2_set1 {α : Type} {f h : α → Value} : ∀ (L : List α) (k : Nat) (z : α) (hk : k < L.length), h L[k] = h z → (c2 f h L).set (k * 2) (f z) = c2 f h (L.set k z) := by
  intro L
  induction L with
  | nil => intro k z hk; simp at hk
  | cons y L ih =>
    intro k z hk he
    have e : ∀ (M : List α) y, c2 f h (y :: M) = f y :: h y :: c2 f h M := fun _ _ => rfl
    cases k with
    | zero =>
      rw [e, Nat.zero_mul, List.set_cons_zero, List.set_cons_zero, e]
      rw [List.getElem_cons_zero] at he
      rw [he]
    | succ k =>
      rw [e, show (k + 1) * 2 = k * 2 + 1 + 1 by omega, List.set_cons_succ, List.set_cons_succ, ih k z (by simpa using hk) (by simpa using he), List.set_cons_succ, e]
/-- the block of a list that labels.Normalize has laid, told so that it is new -/
theorem ow_new {w w' : World} {g n c : Nat} {A : Option Addr} {l0 : List Lab} {xs : List Value} (hO : Ow w' g 47 2 A n c xs) (hA : (A = none ∧ l0 = []) ∨ (A = some ⟨g, 0, none⟩ ∧ w.heap.size ≤ g)) : ∃ g', w.heap.size ≤ g' ∧ Ow w' g' 47 2 A n c xs := by
  rcases hA with ⟨rfl, _⟩ | ⟨_, h⟩
  · rcases hO with ⟨_, rfl, rfl, rfl⟩ | ⟨h, _⟩
    · exact ⟨w.heap.size, Nat.le_refl _, Ow.nil _ _ _ _⟩
    · cases h
  · exact ⟨g, h, hO⟩

set_option maxRecDepth 100000 in
set_option maxHeartbeats 3200000 in
theorem NormM_any (w : World) (b : Nat) (A : Option Addr) (n c : Nat) (l : List Ser) (hI : InSer w b A n c l) (hs : smpSum l ≤ 100000) (hn : n ≤ 100000) (hsm : ∀ s ∈ l, s.labs.length ≤ 100000 ∧ s.smps.length ≤ 100000) :
    Calls Tryz.prog 7 #[.slice A n c] w (MGot w (l.map valS) n) := by
  have HK := Lib.hid (check_any w b A n c l hI hs (by omega))
  have hl := hI.len
  subst hl
  have HCL := Lib.hid fun W (hN : Nw w W) => Clone_any W b A l.length c l (hI.nw hN) (fun s h => ⟨by have := (hsm s h).1; omega, by have := (hsm s h).2; omega⟩) (by omega)
  have HSM := Lib.hid fun x (h : x ∈ l.map valS) => (show x.1.length ≤ 100000 ∧ x.2.length ≤ 100000 from by obtain ⟨s, h1, rfl⟩ := List.mem_map.1 h; exact hsm s h1)
  have hVl : (l.map valS).length = l.length := List.length_map _
  generalize l.map valS = V at *
  clear hI hs hsm
  go_enter Tryz.func7, Tryz.ntmps7
  go_wp2_with (first
    | (go_at_call 19; refine (HCL.out _ hN1).mono ?_; rintro e w2 ⟨l', rfl, hV, hO, hC, hA, hN2⟩)
    | (go_at_call 20; refine HK.out.mono ?_; rintro e w1 ⟨rfl, hN1⟩))
  obtain ⟨g, hg⟩ : ∃ g, w1.heap.size = g := ⟨_, rfl⟩
  rw [hg] at hO hC hA ⊢
  have hll : l'.length = l.length := by rw [← hVl, ← hV, List.length_map]
  have hgw : w.heap.size ≤ g := by rw [← hg]; exact hN1.size
  obtain ⟨N, hN⟩ : ∃ N, w2.heap.size = N := ⟨_, rfl⟩
  have hgN : g < N := by
    obtain ⟨cs, hh, _⟩ := hO.heap
    rw [← hN]
    exact lt_of_block hh
  have HNW := Lib.hid (hN1.trans hN2)
  have HO0 := Lib.hid hO
  have HC0 := Lib.hid hC
  have HA0 := Lib.hid hA
  have HV := Lib.hid hV
  have HW2 := Lib.hid hN
  clear hO hC hA hV hN1 hN2 hN HK HCL
  go_wp2
  go_loopw [21] (fun i wr => ∃ (k : Nat) (m : List Ser), k ≤ l.length ∧ i = .int .i64 k ∧ m.length = k ∧ Hid (AllTo (V.take k) (m.map valS)) ∧ Hid (Ow wr g 37 2 (some ⟨g, 0, none⟩) l.length l.length (cR (m ++ l'.drop k))) ∧ Hid (∀ s ∈ m, Dn wr g N s ∧ ∀ t ∈ l'.drop k, s.bs ≠ t.bs) ∧
    Hid (∀ s ∈ l'.drop k, Cl wr g s ∧ s.bl < N ∧ s.bs < N) ∧ Hid (Ap g (l'.drop k)) ∧ Hid (Nw w wr) ∧ Hid (N ≤ wr.heap.size)) (fun i _ => l.length - (intOf i).toNat)
  case atStart =>
    refine ⟨0, [], by omega, rfl, rfl, Lib.hid AllTo.nil, Lib.hid (by simpa using HO0.out), Lib.hid (by simp), Lib.hid ?_, Lib.hid (by simpa using HA0.out), HNW, Lib.hid (by rw [HW2.out]; exact Nat.le_refl _)⟩
    intro s hs
    rw [List.drop_zero] at hs
    have h := HC0.out s hs
    have h1 := h.lol
    have h2 := h.los
    have h3 := HW2.out
    exact ⟨h, by omega, by omega⟩
  case round =>
    obtain ⟨k, m, hk, rfl, hm, HT, HO, HD, HC, HA, HN, HNr⟩ := hrel
    by_cases hlt : k < l.length
    · have hltI : (k : Int) < (l.length : Int) := by omega
      have hlt' : k < l'.length := by omega
      have hOs := fun W (hN : Nw wr W) => Ow.ser (HO.out.nw hN) (k := k) (by rw [List.length_append, List.length_drop]; omega)
      have hdrop := drop_cons hlt'
      have hx : (m ++ l'.drop k)[k]'(by rw [List.length_append, List.length_drop]; omega) = l'[k] := by
        rw [List.getElem_append_right (by omega)]
        simp [hm]
      rw [hx] at hOs
      have HVk := Lib.hid (show V[k]? = some (valS l'[k]) from by rw [← HV.out, List.getElem?_map, List.getElem?_eq_getElem hlt']; rfl)
      rw [hdrop] at HO HD HC HA
      generalize l'[k] = x at *
      obtain ⟨h0, h1⟩ := hOs wr (Nw.refl _)
      have HOs := Lib.hid hOs
      have hxs := HSM.out (valS x) (List.mem_of_getElem? HVk.out)
      have HXC := Lib.hid (HC.out x List.mem_cons_self)
      have HNL := Lib.hid (NormL_any wr x.bl x.al x.labs.length x.cl x.labs HXC.out.1.ok.1 (by have := hxs.1; dsimp only at this; omega))
      obtain ⟨h00, _⟩ := h0
      obtain ⟨h10, _⟩ := h1
      have hxs1 : x.labs.length ≤ 100000 := hxs.1
      have hxs2 : x.smps.length ≤ 1000000 := Nat.le_trans hxs.2 (by omega)
      clear hOs hx hdrop hxs
      go_wp2_with fail
      refine HNL.out.mono ?_
      rintro e w3 ⟨hN3, hcase⟩
      rcases hcase with ⟨hE, rfl⟩ | ⟨hE, l1, hio, hcase⟩
      · obtain ⟨E, hEE⟩ : ∃ E, oneAll x.labs = E := ⟨_, rfl⟩
        rw [hEE] at hE ⊢
        have HE := Lib.hid hEE
        have HE0 := Lib.hid hE
        have hE1 : ((E : Int) != 0) = true := by rw [bne_iff_ne]; omega
        clear hEE hE
        go_wp2
        go_ret2
        exact ⟨HN.out.trans hN3, E, [], .inl ⟨k, valS x, (x.labs, []), _, HVk.out, HT.out, .inl ⟨by rw [HE.out]; exact HE0.out, HE.out.symm⟩, HE0.out⟩, .inl ⟨HE0.out, rfl⟩⟩
      · have HEz := Lib.hid hE
        have HIO := Lib.hid hio
        clear hE hio
        rcases hcase with ⟨hC, rfl⟩ | ⟨hC, g1, A1, c1, rfl, hO1, hA1⟩
        · obtain ⟨E, hEE⟩ : ∃ E, chkL l1 = E := ⟨_, rfl⟩
          rw [hEE] at hC ⊢
          have HE := Lib.hid hEE
          have HE0 := Lib.hid hC
          have hE1 : ((E : Int) != 0) = true := by rw [bne_iff_ne]; omega
          clear hEE hC
          go_wp2
          go_ret2
          exact ⟨HN.out.trans hN3, E, [], .inl ⟨k, valS x, (l1, []), _, HVk.out, HT.out, .inr ⟨HEz.out, HIO.out, .inl ⟨by rw [HE.out]; exact HE0.out, HE.out.symm⟩⟩, HE0.out⟩, .inl ⟨HE0.out, rfl⟩⟩
        · obtain ⟨bl, hbl, hO1⟩ := ow_new hO1 hA1
          have hgr := HNr.out
          have hXbs := HXC.out.2.2
          have hXne : x.bs ≠ g := (HA.out.2 x List.mem_cons_self).1
          have hlx : l1.length = x.labs.length := HIO.out.1.length_eq
          obtain ⟨⟨t0, t1⟩, t2, t3⟩ := HOs.out _ hN3
          have hO4 := (HO.out.nw hN3).set_ (k * 2) (.slice A1 x.labs.length c1)
          have hK4 : Kp g g w3 (w3.setCell ⟨g, k * 2, none⟩ (.slice A1 x.labs.length c1)) := (Kp.refl g g w3).setCell' (.inl rfl) _
          have hLen := hO4.len
          rw [List.length_set, show (cR _).length = 2 * _ from c2_length _, List.length_append, List.length_cons, List.length_drop] at hLen
          have hLen2 : k * 2 + 1 < (cR (m ++ x :: l'.drop (k + 1))).length := by
            rw [show (cR _).length = 2 * _ from c2_length _, List.length_append, List.length_cons, List.length_drop]; omega
          have u0 : (w3.setCell ⟨g, k * 2, none⟩ (.slice A1 x.labs.length c1)).cell? ⟨g, k * 2, none⟩ = some (.slice A1 x.labs.length c1) := by
            obtain ⟨_, _, h, _⟩ := hO4.at_ (j := k * 2) (by omega)
            rw [h, List.getElem?_set_self (by omega)]
          have u1 : (w3.setCell ⟨g, k * 2, none⟩ (.slice A1 x.labs.length c1)).cell? ⟨g, k * 2 + 1, none⟩ = some (.slice x.as_ x.smps.length x.cs) := by
            obtain ⟨_, _, h, _⟩ := hO4.at_ (j := k * 2 + 1) (by omega)
            obtain ⟨_, _, h2, _⟩ := (HO.out.nw hN3).at_ (j := k * 2 + 1) (by omega)
            rw [h, List.getElem?_set_ne (by omega), ← h2, t2]
          have hS4 := (HXC.out.1.smp.nw hN3).kp hK4 hXne hXne
          have hL4 := hO1.kp hK4 (by omega) (by omega)
          have hCx : Kp g x.bs wr (w3.setCell ⟨g, k * 2, none⟩ (.slice A1 x.labs.length c1)) := (hN3.kp g x.bs).setCell' (.inl rfl) _
          have HS4 := Lib.hid hS4
          have HL4 := Lib.hid hL4
          have HO4 := Lib.hid hO4
          have HCx := Lib.hid hCx
          have has : x.as_ = some ⟨x.bs, 0, none⟩ := HXC.out.1.as_
          have HLx := Lib.hid hlx
          have HU := Lib.hid (And.intro u0 u1)
          have HLen := Lib.hid hLen
          have HC0 := Lib.hid hC
          have HBL := Lib.hid hbl
          have HXN := Lib.hid hXne
          rw [has] at u1
          clear hS4 hL4 hO4 hCx hK4 hO1 hA1 hLen hLen2 hC hbl hlx hXne h00 h10 t2 t3 has
          go_wp2_with fail
          obtain ⟨w4, hw4⟩ : ∃ w4, w3.setCell ⟨g, k * 2, none⟩ (.slice A1 x.labs.length c1) = w4 := ⟨_, rfl⟩
          rw [hw4] at HS4 HL4 HO4 HCx HU u0 u1 ⊢
          clear hw4
          have HAS := Lib.hid HXC.out.1.as_
          have hS := HS4.out
          rw [HAS.out] at hS
          refine (StableSA_any w4 x.bs x.smps.length x.cs x.smps rfl hxs2 hS).mono ?_
          rintro e w5 ⟨rfl, l2, hperm, hpw, hO5, hK5⟩
          have hxne := HXN.out
          have hbl := HBL.out
          have hgr := HNr.out
          have hXbs := HXC.out.2.2
          have hlx := HLx.out
          have hly : l2.length = x.smps.length := hperm.length_eq
          have hg4 := HCx.out.size
          have hgne : g ≠ x.bs := fun h => hxne h.symm
          have hOg := HO4.out.kp hK5 hgne hgne
          have hl5 := HL4.out.kp hK5 (by omega) (by omega)
          rw [← hlx] at hl5
          rw [← hly] at hO5
          have v0 := (World.cell?_of_block (hK5.block g (by omega) hgne hgne) (a := ⟨g, k * 2, none⟩)).trans u0
          have v1 := (World.cell?_of_block (hK5.block g (by omega) hgne hgne) (a := ⟨g, k * 2 + 1, none⟩)).trans u1
          have hok : SerOk w5 ⟨l1, l2, bl, A1, c1, x.bs, some ⟨x.bs, 0, none⟩, x.cs⟩ :=
            ⟨⟨hl5.rd, rfl, hl5.nil_cap, hl5.cap.1, hl5.cap.2, fun y hy => HXC.out.1.small y (HIO.out.1.mem_iff.1 hy)⟩, ⟨hO5.rd, rfl, fun y hy => HXC.out.1.wf y (hperm.mem_iff.1 hy), hO5.nil_cap, hO5.cap.1, hO5.cap.2⟩⟩
          have h22 := singleSer_any w5 ⟨l1, l2, bl, A1, c1, x.bs, some ⟨x.bs, 0, none⟩, x.cs⟩ hok (by dsimp only; omega) (by dsimp only; omega)
          rw [serE_val] at h22
          dsimp only [vSer, valS] at h22
          rw [hlx, hly] at h22
          obtain ⟨E, hE⟩ : ∃ E, valE (l1, l2) = E := ⟨_, rfl⟩
          rw [hE] at h22
          have HE := Lib.hid hE
          have H22 := Lib.hid h22
          have HTO := Lib.hid (show SerTo (valS x) E (l1, l2) from .inr ⟨HEz.out, HIO.out, .inr ⟨HC0.out, hperm, hpw, hE.symm⟩⟩)
          have HOK := Lib.hid hok
          have HOg := Lib.hid hOg
          have hK6 : Kp g x.bs wr w5 := HCx.out.trans hK5 (.inr (.inl rfl)) (.inr (.inl rfl))
          have HK6 := Lib.hid hK6
          have HLY := Lib.hid hly
          clear hS HS4 HL4 HO4 HCx HU u0 u1 hperm hpw hO5 hK5 hl5 hok h22 hE hOg hly hlx hK6 hg4 hxs2 hxs1 HOs HNL
          by_cases h0 : E = 0
          · have hE1 : ((E : Int) != 0) = false := by rw [bne_eq_false_iff_eq]; omega
            have HE0 := Lib.hid h0
            clear h0
            go_wp2_with (go_at_call 24; refine H22.out.mono ?_; rintro e w6 ⟨rfl, hN6⟩)
            have HN6 := Lib.hid hN6
            clear hN6
            go_roundw
            case rel =>
              have hbl := HBL.out
              have hgr := HNr.out
              have hxc := HXC.out
              have hxne := HXN.out
              have hk6 := HK6.out.nw' HN6.out
              have hto := HTO.out
              rw [HE0.out] at hto
              have hVt : V.take (k + 1) = V.take k ++ [valS x] := by
                have := List.getElem?_eq_some_iff.1 HVk.out
                obtain ⟨h1, h2⟩ := this
                rw [List.take_succ_eq_append_getElem h1, h2]
              refine ⟨k + 1, m ++ [⟨l1, l2, bl, A1, c1, x.bs, some ⟨x.bs, 0, none⟩, x.cs⟩], by omega, by go_num, by simp [hm], Lib.hid ?_, Lib.hid ?_, Lib.hid ?_, Lib.hid ?_, Lib.hid ?_, Lib.hid (Kp.nw HN.out hk6 hgw (by have := hxc.1.los.1; omega)), Lib.hid (Nat.le_trans hgr hk6.size)⟩
              · rw [hVt, List.map_append]
                exact HT.out.snoc hto
              · have h := HOg.out.nw HN6.out
                have hkl : k < (m ++ x :: l'.drop (k + 1)).length := by simp; omega
                have hgx : (m ++ x :: l'.drop (k + 1))[k] = x := by
                  rw [List.getElem_append_right (by omega)]
                  simp [hm]
                have e := c2_set1 (f := fR) (h := hR) (m ++ x :: l'.drop (k + 1)) k ⟨l1, l2, bl, A1, c1, x.bs, some ⟨x.bs, 0, none⟩, x.cs⟩ hkl (by rw [hgx]; dsimp only [hR]; rw [hxc.1.as_, HLY.out])
                dsimp only [fR] at e
                rw [HLx.out] at e
                unfold cR at h ⊢
                rw [e, List.set_append_right _ _ (by omega), hm, Nat.sub_self, List.set_cons_zero] at h
                rw [List.append_assoc]
                exact h
              · intro s hs
                rcases List.mem_append.1 hs with hs | hs
                · have h := HD.out s hs
                  refine ⟨h.1.kp hk6 hgN hxc.2.2 (h.2 x List.mem_cons_self), fun t ht => h.2 t (List.mem_cons_of_mem _ ht)⟩
                · obtain rfl := List.mem_singleton.1 hs
                  refine ⟨⟨HOK.out.nw HN6.out, by dsimp only; omega, hxc.2.2, hxne, ⟨by dsimp only; have := HLx.out; have := (HSM.out (valS x) (List.mem_of_getElem? HVk.out)).1; dsimp only at this; omega, by dsimp only; have := HLY.out; have := (HSM.out (valS x) (List.mem_of_getElem? HVk.out)).2; dsimp only at this; omega⟩⟩, fun t ht => ?_⟩
                  have := (List.pairwise_cons.1 HA.out.1).1 t ht
                  exact this.1
              · intro s hs
                have h := HC.out s (List.mem_cons_of_mem _ hs)
                have h1 := (List.pairwise_cons.1 HA.out.1).1 s hs
                have h2 := HA.out.2 s (List.mem_cons_of_mem _ hs)
                exact ⟨h.1.kp hk6 h2.2.1 (fun e => h1.2.1 e.symm) h2.1 (fun e => h1.1 e.symm), h.2⟩
              · exact ⟨(List.pairwise_cons.1 HA.out.1).2, fun s hs => HA.out.2 s (List.mem_cons_of_mem _ hs)⟩
            case measure => simp [intOf]; omega
          · have hE1 : ((E : Int) != 0) = true := by rw [bne_iff_ne]; omega
            have HE0 := Lib.hid h0
            clear h0
            go_wp2_with (go_at_call 24; refine H22.out.mono ?_; rintro e w6 ⟨rfl, hN6⟩)
            go_ret2
            exact ⟨Kp.nw HN.out (HK6.out.nw' hN6) hgw (by have := HXC.out.1.los.1; omega), E, [], .inl ⟨k, valS x, (l1, l2), _, HVk.out, HT.out, HTO.out, HE0.out⟩, .inl ⟨HE0.out, rfl⟩⟩
    · obtain rfl : k = l.length := by omega
      have hO := HO.out
      rw [List.drop_eq_nil_of_le (by omega), List.append_nil] at hO
      have hT := HT.out
      rw [List.take_of_length_le (by omega)] at hT
      have HST := Lib.hid (StableRA_any wr g l.length l.length m hm.symm (by omega) hO (fun s hs => by
        have h := (HD.out s hs).1
        exact ⟨h.ok, by have := h.bl; omega, h.ne, h.small.1⟩))
      have HT2 := Lib.hid hT
      have HDm := Lib.hid fun s (h : s ∈ m) => (HD.out s h).1
      clear hO hT HT HO HD HC HA
      go_wp2_with (go_at_call 25; refine HST.out.mono ?_; rintro e w3 ⟨rfl, l2, hperm, hpw, hO3, hK3⟩)
      have hl2 : l2.length = l.length := hperm.length_eq.trans hm
      have hD3 : ∀ s ∈ l2, SerOk w3 s ∧ s.labs.length ≤ 1000000 := fun s hs => by
        have h := HDm.out s (hperm.mem_iff.1 hs)
        exact ⟨h.ok.kp hK3 (by have := h.bl; omega) h.ne, h.small.1⟩
      have HAS := Lib.hid (ascR_any w3 g (some ⟨g, 0, none⟩) l.length l.length l2 hl2.symm (by omega) hO3.rd hD3)
      have HN3 := Lib.hid (Kp.nw HN.out hK3 hgw hgw)
      have hTo : ListTo V (asE l2) (l2.map valS) := .inr ⟨_, HT2.out, hperm.map _, by rw [List.pairwise_map]; exact hpw, asE_val l2⟩
      have HO3 := Lib.hid hO3
      have HD3 := Lib.hid fun s (h : s ∈ l2) => (hD3 s h).1
      have HL2 := Lib.hid hl2
      generalize asE l2 = E at *
      have HTo := Lib.hid hTo
      clear hperm hpw hO3 hK3 hD3 hTo hl2
      by_cases h0 : E = 0
      · have hE1 : ((E : Int) != 0) = false := by rw [bne_eq_false_iff_eq]; omega
        have HE0 := Lib.hid h0
        clear h0
        go_wp2_with (go_at_call 27; refine HAS.out.mono ?_; rintro e w4 ⟨rfl, hN4⟩)
        go_ret2
        exact ⟨HN3.out.trans hN4, E, l2.map valS, HTo.out, .inr ⟨HE0.out, g, l2, rfl, rfl, HL2.out, hgw, HO3.out.nw hN4, fun s hs => (HD3.out s hs).nw hN4⟩⟩
      · have hE1 : ((E : Int) != 0) = true := by rw [bne_iff_ne]; omega
        have HE0 := Lib.hid h0
        clear h0
        go_wp2_with (go_at_call 27; refine HAS.out.mono ?_; rintro e w4 ⟨rfl, hN4⟩)
        go_ret2
        exact ⟨HN3.out.trans hN4, E, l2.map valS, HTo.out, .inl ⟨HE0.out, rfl⟩⟩
end Go.Proofs.YtoogadidbbpplaaGreat
