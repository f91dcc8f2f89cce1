/- Clone of a list of series: the like, in blocks of its own. -/
import Derived.Test.YtoogadidbbpplaaGreatCopy
import Derived.WalkMore
namespace Go.Proofs.YtoogadidbbpplaaGreat
open Go Go.RowKit Go.Sort

/-- a series whose lists lie in blocks of their own -/
structure Cl (w : World) (lo : Nat) (s : Ser) : Prop where
  lab : Ow w s.bl 47 2 s.al s.labs.length s.cl (cL s.labs)
  smp : Ow w s.bs 41 2 s.as_ s.smps.length s.cs (cS s.smps)
  lol : lo ≤ s.bl ∧ s.bl < w.heap.size
  los : lo ≤ s.bs ∧ s.bs < w.heap.size
  wf : InS s.smps
  small : ∀ x ∈ s.labs, x.1.size ≤ 9223372036854775807 ∧ x.2.size ≤ 9223372036854775807
  as_ : s.as_ = some ⟨s.bs, 0, none⟩
theorem oc_S (l : List Smpl) : ∀ u ∈ cS l, u.oneCell' = true := c2_one (fun _ => rfl) (fun _ => rfl) l
/-- the blocks are all different, and not g -/
def Ap (g : Nat) (l : List Ser) : Prop := l.Pairwise (fun s t => s.bs ≠ t.bs ∧ s.bs ≠ t.bl ∧ s.bl ≠ t.bs ∧ s.bl ≠ t.bl) ∧ ∀ s ∈ l, s.bs ≠ g ∧ s.bl ≠ g ∧ s.bs ≠ s.bl
section
variable {w w' : World} {lo g g' b n c : Nat} {A : Option Addr} {s : Ser} {e : TypeId} {size : Nat} {xs : List Value}
theorem Ow.nil_cap (h : Ow w b e size A n c xs) : A = none → c = 0 := by
  rintro rfl
  rcases h with ⟨_, _, h, _⟩ | ⟨h, _⟩
  · exact h
  · cases h
theorem Cl.kp (h : Cl w lo s) (hk : Kp g g' w w') (h1 : s.bl ≠ g) (h2 : s.bl ≠ g') (h3 : s.bs ≠ g) (h4 : s.bs ≠ g') : Cl w' lo s :=
  ⟨h.lab.kp hk h1 h2, h.smp.kp hk h3 h4, ⟨h.lol.1, Nat.lt_of_lt_of_le h.lol.2 hk.size⟩, ⟨h.los.1, Nat.lt_of_lt_of_le h.los.2 hk.size⟩, h.wf, h.small, h.as_⟩
theorem Cl.nw (h : Cl w lo s) (hN : Nw w w') : Cl w' lo s :=
  ⟨h.lab.nw hN, h.smp.nw hN, ⟨h.lol.1, Nat.lt_of_lt_of_le h.lol.2 hN.size⟩, ⟨h.los.1, Nat.lt_of_lt_of_le h.los.2 hN.size⟩, h.wf, h.small, h.as_⟩
theorem Cl.ok (h : Cl w lo s) : SerOk w s :=
  ⟨⟨h.lab.rd, rfl, h.lab.nil_cap, h.lab.cap.1, h.lab.cap.2, h.small⟩, ⟨h.smp.rd, rfl, h.wf, h.smp.nil_cap, h.smp.cap.1, h.smp.cap.2⟩⟩
end
theorem Ow.ser {w : World} {g n c : Nat} {l : List Ser} (h : Ow w g 37 2 (some ⟨g, 0, none⟩) n c (cR l)) {k : Nat} (hk : k < l.length) :
    (w.cell? ⟨g, k * 2, none⟩ = some (.slice l[k].al l[k].labs.length l[k].cl) ∧ w.frozen? ⟨g, k * 2, none⟩ = false) ∧ w.cell? ⟨g, k * 2 + 1, none⟩ = some (.slice l[k].as_ l[k].smps.length l[k].cs) ∧ w.frozen? ⟨g, k * 2 + 1, none⟩ = false := by
  have hl := h.len
  rw [show (cR l).length = 2 * l.length from c2_length l] at hl
  obtain ⟨_, _, h1, h2⟩ := h.at_ (j := k * 2) (by omega)
  obtain ⟨_, _, h3, h4⟩ := h.at_ (j := k * 2 + 1) (by omega)
  obtain ⟨e1, e2⟩ := c2_at (f := fun s : Ser => Value.slice s.al s.labs.length s.cl) (g := fun s => .slice s.as_ s.smps.length s.cs) l k hk
  exact ⟨⟨h1.trans e1, h2⟩, h3.trans e2, h4⟩

set_option maxRecDepth 100000 in
set_option maxHeartbeats 3200000 in
theorem Clone_any (w : World) (b : Nat) (A : Option Addr) (n c : Nat) (l : List Ser) (hI : InSer w b A n c l) (hs : ∀ s ∈ l, Small s) (hn : n ≤ 1000000) :
    Calls Tryz.prog 19 #[.slice A n c] w fun e w' => ∃ l', e = .returned (.slice (some ⟨w.heap.size, 0, none⟩) n n) ∧ l'.map valS = l.map valS ∧ Ow w' w.heap.size 37 2 (some ⟨w.heap.size, 0, none⟩) n n (cR l') ∧ (∀ s ∈ l', Cl w' w.heap.size s) ∧ Ap w.heap.size l' ∧ Nw w w' := by
  have hl := hI.len
  subst hl
  have HR := Lib.hid hI.rd
  have HOK := Lib.hid fun s (h : s ∈ l) => And.intro (hI.ok s h) (hs s h)
  have mkR := fun W => make_any E_ser W l.length hn (by omega)
  have hz : Value.cells (.agg #[.slice none 0 0, .slice none 0 0]) = #[.slice none 0 0, .slice none 0 0] := rfl
  rw [hz] at mkR
  have hOw := made_ow 37 (.agg #[.slice none 0 0, .slice none 0 0]) 2 w l.length hn
  rw [hz] at hOw
  generalize madeCells #[Value.slice none 0 0, .slice none 0 0] (l.length * 2) = md at *
  have HOw := Lib.hid hOw
  clear hI hs hOw hz
  go_enter Tryz.func19, Tryz.ntmps19
  go_wp2_with (refine wpList_copyK E_ser rfl (.tmp 9) (.tmp 10) rfl rfl rfl HOw.out (HR.out.nw ((Nw.refl w).alloc' _)) (by rw [show (cR l).length = 2 * l.length from c2_length _]; omega) (c2_one (fun _ => rfl) (fun _ => rfl) l) ?_; intro w2 hO2 hK2 hsz2)
  have HO2 := Lib.hid hO2
  have HN2 := Lib.hid (Kp.nw ((Nw.refl w).alloc' (.cells md 37)) hK2 (Nat.le_refl _) (Nat.le_refl _))
  have hsz : w.heap.size < w2.heap.size := by rw [hsz2]; simp
  clear hO2 hK2 hsz2 HOw
  obtain ⟨g, hg⟩ : ∃ g, w.heap.size = g := ⟨_, rfl⟩
  rw [hg] at HO2 hsz
  simp only [hg]
  have HG := Lib.hid hg
  clear hg
  go_loopw [14] (fun i wr => ∃ (k : Nat) (m : List Ser), k ≤ l.length ∧ i = .int .i64 k ∧ m.length = k ∧ Hid (m.map valS = (l.take k).map valS) ∧ Hid (Ow wr g 37 2 (some ⟨g, 0, none⟩) l.length l.length (cR (m ++ l.drop k))) ∧ Hid (∀ s ∈ m, Cl wr g s) ∧ Hid (Ap g m) ∧ Hid (Nw w wr) ∧ Hid (g < wr.heap.size)) (fun i _ => l.length - (intOf i).toNat)
  case atStart => exact ⟨0, [], by omega, rfl, rfl, Lib.hid rfl, Lib.hid (by simpa using HO2.out), Lib.hid (by simp), Lib.hid ⟨.nil, by simp⟩, HN2, Lib.hid hsz⟩
  case round =>
    obtain ⟨k, m, hk, rfl, hm, HV, HO, HC, HA, HN, HGL⟩ := hrel
    by_cases hlt : k < l.length
    · have hltI : (k : Int) < (l.length : Int) := by omega
      have hOs := fun W (hN : Nw wr W) => Ow.ser (HO.out.nw hN) (k := k) (by rw [List.length_append, List.length_drop]; omega)
      have hx : (m ++ l.drop k)[k]'(by rw [List.length_append, List.length_drop]; omega) = l[k] := by
        rw [List.getElem_append_right (by omega)]
        simp [hm]
      rw [hx] at hOs
      have HTk := Lib.hid (show (l.take (k + 1)).map valS = (l.take k).map valS ++ [valS l[k]] from by rw [List.take_succ_eq_append_getElem hlt, List.map_append]; rfl)
      have HOx := Lib.hid (HOK.out l[k] (List.getElem_mem hlt))
      have hsplit : m ++ l.drop k = m ++ l[k] :: l.drop (k + 1) := by rw [drop_cons hlt]
      have HSP := Lib.hid hsplit
      generalize l[k] = x at *
      obtain ⟨⟨h0, _⟩, h1, _⟩ := hOs wr (Nw.refl _)
      have HOs := Lib.hid hOs
      obtain ⟨bx, hbx⟩ : ∃ o, o = Obj.cells #[.slice x.al x.labs.length x.cl, .slice x.as_ x.smps.length x.cs] 37 := ⟨_, rfl⟩
      have mkL := fun W => make_any E_lab W x.labs.length HOx.out.2.1 (by omega)
      have mkS := fun W => make_any E_smp W x.smps.length HOx.out.2.2 (by omega)
      rw [show Value.cells (.agg #[.string .empty, .string .empty]) = #[.string .empty, .string .empty] from rfl] at mkL
      rw [show Value.cells (.agg #[.int .i64 0, .int .u64 0]) = #[.int .i64 0, .int .u64 0] from rfl] at mkS
      have HmL := Lib.hid (made_ow 47 (.agg #[.string .empty, .string .empty]) 2 (wr.alloc bx) x.labs.length HOx.out.2.1)
      have HmS := Lib.hid fun W => made_ow 41 (.agg #[.int .i64 0, .int .u64 0]) 2 W x.smps.length HOx.out.2.2
      rw [show Value.cells (.agg #[.string .empty, .string .empty]) = #[.string .empty, .string .empty] from rfl] at HmL
      rw [show Value.cells (.agg #[.int .i64 0, .int .u64 0]) = #[.int .i64 0, .int .u64 0] from rfl] at HmS
      generalize madeCells #[Value.string .empty, .string .empty] (x.labs.length * 2) = mL at *
      generalize madeCells #[Value.int .i64 0, .int .u64 0] (x.smps.length * 2) = mS at *
      have hNB : Nw wr ((wr.alloc bx).alloc (.cells mL 47)) := ((Nw.refl wr).alloc' _).alloc' _
      obtain ⟨⟨s0, s1⟩, _, _⟩ := hOs _ hNB
      rw [hbx] at s0 s1
      clear hOs hsplit hx
      go_wp2_with fail
      rw [← hbx]
      have hCc : Kp g g wr (((wr.alloc bx).alloc (.cells mL 47)).setCell ⟨g, k * 2, none⟩ (.slice (some ⟨wr.heap.size + 1, 0, none⟩) x.labs.length x.labs.length)) := ((hNB.kp g g).setCell' (.inl rfl) _)
      have hOc := (HO.out.nw hNB).set_ (k * 2) (.slice (some ⟨wr.heap.size + 1, 0, none⟩) x.labs.length x.labs.length)
      have hgn := HGL.out
      have hne : ¬ g = wr.heap.size + 1 := by omega
      have hns : (wr.alloc bx).heap.size = wr.heap.size + 1 := by simp
      have hLc := HmL.out.kp ((Kp.refl g g ((wr.alloc bx).alloc (.cells mL 47))).setCell' (.inl rfl) (p := ⟨g, k * 2, none⟩) (.slice (some ⟨wr.heap.size + 1, 0, none⟩) x.labs.length x.labs.length)) (by rw [hns]; omega) (by rw [hns]; omega)
      rw [hns] at hLc
      have hbb : (((wr.alloc bx).alloc (.cells mL 47)).setCell ⟨g, k * 2, none⟩ (.slice (some ⟨wr.heap.size + 1, 0, none⟩) x.labs.length x.labs.length)).heap[wr.heap.size]? = some bx :=
        (Below.heap_setCell _ ⟨g, k * 2, none⟩ _ wr.heap.size (by show wr.heap.size ≠ g; omega)).trans ((((Nw.refl (wr.alloc bx)).alloc' _).block _ (by simp)).trans (heap_alloc_new _ _))
      have hsC : (((wr.alloc bx).alloc (.cells mL 47)).setCell ⟨g, k * 2, none⟩ (.slice (some ⟨wr.heap.size + 1, 0, none⟩) x.labs.length x.labs.length)).heap.size = wr.heap.size + 2 := by simp [World.setCell]
      generalize ((wr.alloc bx).alloc (.cells mL 47)).setCell ⟨g, k * 2, none⟩ (.slice (some ⟨wr.heap.size + 1, 0, none⟩) x.labs.length x.labs.length) = wC at *
      have hlen := hOc.len
      obtain ⟨nb, hnb⟩ : ∃ nb, wr.heap.size = nb := ⟨_, rfl⟩
      rw [hnb] at hOc hLc hbb hsC hgn hne ⊢
      have hpc : wC.cell? ⟨g, k * 2, none⟩ = some (.slice (some ⟨nb + 1, 0, none⟩) x.labs.length x.labs.length) := by
        rw [List.length_set, show (cR _).length = 2 * _ from c2_length _, List.length_append, List.length_drop] at hlen
        obtain ⟨_, _, h, _⟩ := hOc.at_ (j := k * 2) (by omega)
        rw [h, List.getElem?_set_self (by rw [show (cR _).length = 2 * _ from c2_length _, List.length_append, List.length_drop]; omega)]
      rw [hbx] at hbb
      have hb0 := (cell_at (k := 0) hbb).trans rfl
      have hb1 := (cell_at (k := 1) hbb).trans rfl
      have q0 : ∀ p' : Gp, (grow (wC.drewN p'.n) p'.os).cell? ⟨g, k * 2, none⟩ = some (.slice (some ⟨nb + 1, 0, none⟩) x.labs.length x.labs.length) := cell_gr (by show g < _; omega) hpc
      have q1 : ∀ p' : Gp, (grow (wC.drewN p'.n) p'.os).cell? ⟨nb, 0, none⟩ = some (.slice x.al x.labs.length x.cl) := cell_gr (by show nb < _; omega) hb0
      have HOc := Lib.hid hOc
      have HLc := Lib.hid hLc
      have HCc := Lib.hid hCc
      have HBB := Lib.hid hbb
      have HNB := Lib.hid hnb
      clear hOc hLc hCc hbb hnb h0 h1 s0 s1 HmL mkL hNB hpc hb0 hb1 hns hlen
      refine wp_region_gr_tail 7 (by kernel_rfl) (by kernel_rfl) ?_
      simp only [List.take_succ_cons, List.take_zero, List.drop_succ_cons, List.drop_zero]
      repeat (go_big_quiet_step (first | fail))
      refine wpQuiet_nil ?_
      rintro _ ⟨p', rfl⟩
      have hND := (Gr.nw ⟨p', rfl⟩ : Nw wC (grow (wC.drewN p'.n) p'.os))
      generalize grow (wC.drewN p'.n) p'.os = wD at *
      clear q0 q1
      have hCd := HCc.out.trans (hND.kp g g) (.inl rfl) (.inl rfl)
      have HNwD := Lib.hid (Kp.nw HN.out hCd (Nat.le_of_eq HG.out) (Nat.le_of_eq HG.out))
      refine wpList_copyK E_lab rfl (.tmp 31) (.tmp 33) rfl rfl rfl (HLc.out.nw hND) (HOx.out.1.1.rd.nw HNwD.out) (by rw [show (cL x.labs).length = 2 * x.labs.length from c2_length _]; omega) (oc_L _) ?_
      intro wE hLe hKe hsE
      have hnb := HNB.out
      have hsD := hND.size
      have hCe := hCd.trans hKe (.inr (.inr (by omega))) (.inr (.inr (by omega)))
      have hOe := (HOc.out.nw hND).kp hKe hne hne
      have hBe := (hKe.block nb (by omega) (by omega) (by omega)).trans ((hND.block nb (by omega)).trans HBB.out)
      have hNF : Nw wE (wE.alloc (.cells mS 41)) := (Nw.refl wE).alloc' _
      have hlen := hOe.len
      rw [List.length_set, show (cR _).length = 2 * _ from c2_length _, List.length_append, List.length_drop] at hlen
      obtain ⟨_, _, f00, f1⟩ := (hOe.nw hNF).at_ (j := k * 2 + 1) (by omega)
      rw [List.getElem?_eq_getElem (by rw [List.length_set, show (cR _).length = 2 * _ from c2_length _, List.length_append, List.length_drop]; omega)] at f00
      obtain ⟨uf, f0⟩ : ∃ u, (wE.alloc (.cells mS 41)).cell? ⟨g, k * 2 + 1, none⟩ = some u := ⟨_, f00⟩
      clear f00
      have hb1 := (cell_at (k := 1) hBe).trans rfl
      have HLe := Lib.hid hLe
      have HCe := Lib.hid hCe
      have HOe := Lib.hid hOe
      have HBe := Lib.hid hBe
      have HsE := Lib.hid (show nb + 2 ≤ wE.heap.size from by omega)
      have HmS2 := Lib.hid (HmS.out wE)
      clear hLe hKe hCe hOe hBe hsE hsD hND hCd HLc HOc HCc HBB HmS hlen hsC
      go_wp2_with fail
      have hCh := (HCe.out.trans (hNF.kp g g) (.inl rfl) (.inl rfl)).setCell' (p := ⟨g, k * 2 + 1, none⟩) (.inl rfl) (.slice (some ⟨wE.heap.size, 0, none⟩) x.smps.length x.smps.length)
      have hOh := (HOe.out.nw hNF).set_ (k * 2 + 1) (.slice (some ⟨wE.heap.size, 0, none⟩) x.smps.length x.smps.length)
      have hKF : Kp g g wE ((wE.alloc (.cells mS 41)).setCell ⟨g, k * 2 + 1, none⟩ (.slice (some ⟨wE.heap.size, 0, none⟩) x.smps.length x.smps.length)) := (hNF.kp g g).setCell' (.inl rfl) _
      have hgE : g < wE.heap.size := by have := HsE.out; omega
      have hSh := HmS2.out.kp ((Kp.refl g g (wE.alloc (.cells mS 41))).setCell' (.inl rfl) (p := ⟨g, k * 2 + 1, none⟩) (.slice (some ⟨wE.heap.size, 0, none⟩) x.smps.length x.smps.length)) (by omega) (by omega)
      have hLh := HLe.out.kp hKF (by omega) (by omega)
      have hBh := (hKF.block nb (by have := HsE.out; omega) (by omega) (by omega)).trans HBe.out
      have hsH : ((wE.alloc (.cells mS 41)).setCell ⟨g, k * 2 + 1, none⟩ (.slice (some ⟨wE.heap.size, 0, none⟩) x.smps.length x.smps.length)).heap.size = wE.heap.size + 1 := by simp [World.setCell]
      generalize (wE.alloc (.cells mS 41)).setCell ⟨g, k * 2 + 1, none⟩ (.slice (some ⟨wE.heap.size, 0, none⟩) x.smps.length x.smps.length) = wH at *
      have hnE : nb + 1 < wE.heap.size := by have := HsE.out; omega
      obtain ⟨nc, hnc⟩ : ∃ nc, wE.heap.size = nc := ⟨_, rfl⟩
      rw [hnc] at hOh hSh hsH hgE hnE ⊢
      have hlen := hOh.len
      rw [List.length_set, List.length_set, show (cR _).length = 2 * _ from c2_length _, List.length_append, List.length_drop] at hlen
      have hpc : wH.cell? ⟨g, k * 2 + 1, none⟩ = some (.slice (some ⟨nc, 0, none⟩) x.smps.length x.smps.length) := by
        obtain ⟨_, _, h, _⟩ := hOh.at_ (j := k * 2 + 1) (by omega)
        rw [h, List.getElem?_set_self (by rw [List.length_set, show (cR _).length = 2 * _ from c2_length _, List.length_append, List.length_drop]; omega)]
      have hb2 := (cell_at (k := 1) hBh).trans rfl
      have q0 : ∀ p' : Gp, (grow (wH.drewN p'.n) p'.os).cell? ⟨g, k * 2 + 1, none⟩ = some (.slice (some ⟨nc, 0, none⟩) x.smps.length x.smps.length) := cell_gr (by show g < _; omega) hpc
      have q1 : ∀ p' : Gp, (grow (wH.drewN p'.n) p'.os).cell? ⟨nb, 1, none⟩ = some (.slice x.as_ x.smps.length x.cs) := cell_gr (by show nb < _; omega) hb2
      have HOh := Lib.hid hOh
      have HSh := Lib.hid hSh
      have HCh := Lib.hid hCh
      have HLh := Lib.hid hLh
      have HNC := Lib.hid hnc
      clear hOh hSh hCh hLh hBh f0 f1 hb1 hb2 hpc hKF hNF hlen hnc HmS2 mkS HLe HOe HBe HsE HCe
      refine wp_region_gr_tail 7 (by kernel_rfl) (by kernel_rfl) ?_
      simp only [List.take_succ_cons, List.take_zero, List.drop_succ_cons, List.drop_zero]
      repeat (go_big_quiet_step (first | fail))
      refine wpQuiet_nil ?_
      rintro _ ⟨p2, rfl⟩
      have hNI := (Gr.nw ⟨p2, rfl⟩ : Nw wH (grow (wH.drewN p2.n) p2.os))
      generalize grow (wH.drewN p2.n) p2.os = wI at *
      clear q0 q1
      have hCi := HCh.out.trans (hNI.kp g g) (.inl rfl) (.inl rfl)
      have hNwI := Kp.nw HN.out hCi (Nat.le_of_eq HG.out) (Nat.le_of_eq HG.out)
      refine wpList_copyK E_smp rfl (.tmp 47) (.tmp 49) rfl rfl rfl (HSh.out.nw hNI) (HOx.out.1.2.rd.nw hNwI) (by rw [show (cS x.smps).length = 2 * x.smps.length from c2_length _]; omega) (oc_S _) ?_
      intro wJ hSj hKj hsJ
      have hsI := hNI.size
      have hwr := HNB.out
      have hCj := hCi.trans hKj (.inr (.inr (by omega))) (.inr (.inr (by omega)))
      have hOj := (HOh.out.nw hNI).kp hKj (by omega) (by omega)
      have hLj := (HLh.out.nw hNI).kp hKj (by omega) (by omega)
      have HSj := Lib.hid hSj
      have HCj := Lib.hid hCj
      have HOj := Lib.hid hOj
      have HLj := Lib.hid hLj
      have HsJ := Lib.hid (show nc < wJ.heap.size ∧ wr.heap.size ≤ nb from by omega)
      clear hSj hKj hCj hOj hLj hsJ hsI hCi hNwI hNI HSh HCh HOh HLh
      go_wp2_with fail
      go_roundw
      case rel =>
        have hgn := HGL.out
        refine ⟨k + 1, m ++ [⟨x.labs, x.smps, nb + 1, some ⟨nb + 1, 0, none⟩, x.labs.length, nc, some ⟨nc, 0, none⟩, x.smps.length⟩], by omega, by go_num, by simp [hm], Lib.hid ?_, Lib.hid ?_, Lib.hid ?_, Lib.hid ?_, Lib.hid (Kp.nw HN.out HCj.out (Nat.le_of_eq HG.out) (Nat.le_of_eq HG.out)), Lib.hid (by have := HsJ.out; omega)⟩
        · rw [HTk.out, List.map_append, HV.out]; rfl
        · have h := HOj.out
          have e := c2_set (f := fun s : Ser => Value.slice s.al s.labs.length s.cl) (h := fun s => .slice s.as_ s.smps.length s.cs) (m ++ l.drop k) k ⟨x.labs, x.smps, nb + 1, some ⟨nb + 1, 0, none⟩, x.labs.length, nc, some ⟨nc, 0, none⟩, x.smps.length⟩
          unfold cR at h ⊢
          rw [e, HSP.out, List.set_append_right _ _ (by omega), hm, Nat.sub_self, List.set_cons_zero] at h
          rw [List.append_assoc]
          exact h
        · intro s hs
          rcases List.mem_append.1 hs with hs | hs
          · have h2 := HA.out.2 s hs
            exact (HC.out s hs).kp HCj.out h2.2.1 h2.2.1 h2.1 h2.1
          · obtain rfl := List.mem_singleton.1 hs
            have h3 := HsJ.out
            have h4 := HNB.out
            exact ⟨HLj.out, HSj.out, by dsimp only; omega, by dsimp only; omega, HOx.out.1.2.wf, HOx.out.1.1.small, rfl⟩
        · have h4 := HNB.out
          refine ⟨List.pairwise_append.2 ⟨HA.out.1, List.pairwise_singleton _ _, ?_⟩, ?_⟩
          · intro s hs t ht
            obtain rfl := List.mem_singleton.1 ht
            have h5 := HC.out s hs
            have h6 := h5.lol
            have h7 := h5.los
            dsimp only
            omega
          · intro s hs
            rcases List.mem_append.1 hs with hs | hs
            · exact HA.out.2 s hs
            · obtain rfl := List.mem_singleton.1 hs
              dsimp only
              omega
      case measure => simp [intOf]; omega
    · obtain rfl : k = l.length := by omega
      go_wp2
      go_ret
      rw [HG.out]
      refine ⟨m, rfl, ?_, ?_, HC.out, HA.out, HN.out⟩
      · rw [HV.out, List.take_length]
      · have h := HO.out
        rw [List.drop_length, List.append_nil] at h
        exact h
end Go.Proofs.YtoogadidbbpplaaGreat
