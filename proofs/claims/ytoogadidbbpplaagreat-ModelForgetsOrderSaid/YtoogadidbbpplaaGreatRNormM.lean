/- The reference's order of a list of series: tsblockref12.Normalize. (Printed by genrnormm.py.) -/
import Derived.Test.YtoogadidbbpplaaGreatRSort
import Derived.Test.YtoogadidbbpplaaGreatRNormL
namespace Go.Proofs.YtoogadidbbpplaaGreat
open Go Go.RowKit Go.Sort Go.Shelf

/-- what becomes of one series by the reference -/
def SerSp (x : Val) (E : Nat) (y : Val) : Prop :=
  (oneAll x.1 ≠ 0 ∧ E = oneAll x.1) ∨
  (oneAll x.1 = 0 ∧ ¬ (x.1.map (·.1)).Nodup ∧ E = 18) ∨
  (oneAll x.1 = 0 ∧ y.1.Perm x.1 ∧ y.1.Pairwise (fun a b => LtB a.1 b.1) ∧ ((x.2 = [] ∧ E = 21) ∨ (x.2 ≠ [] ∧ y.2.Perm x.2 ∧ y.2.Pairwise (fun a b : Smpl => ¬ b.1 < a.1) ∧ E = tmE y.2)))
def AllSp (l m : List Val) : Prop := m.length = l.length ∧ ∀ (i : Nat) (x y : Val), l[i]? = some x → m[i]? = some y → SerSp x 0 y
theorem AllSp.nil : AllSp [] [] := ⟨rfl, fun i x y h => by simp at h⟩
theorem AllSp.snoc {l m : List Val} {x y : Val} (h : AllSp l m) (k : SerSp x 0 y) : AllSp (l ++ [x]) (m ++ [y]) := by
  refine ⟨by simp [h.1], fun i a b ha hb => ?_⟩
  by_cases hi : i < l.length
  · rw [List.getElem?_append_left hi] at ha
    rw [List.getElem?_append_left (by rw [h.1]; exact hi)] at hb
    exact h.2 i a b ha hb
  · rw [List.getElem?_append_right (by omega)] at ha
    rw [List.getElem?_append_right (by rw [h.1]; omega), h.1] at hb
    by_cases h0 : i - l.length = 0
    · rw [h0] at ha hb
      simp at ha hb
      subst ha hb
      exact k
    · rw [List.getElem?_eq_none (by simp; omega)] at ha
      cases ha
/-- what becomes of a list of series by the reference -/
def ListSp (l : List Val) (E : Nat) (r : List Val) : Prop :=
  (∃ (k : Nat) (x y : Val) (m : List Val), l[k]? = some x ∧ AllSp (l.take k) m ∧ SerSp x E y ∧ E ≠ 0) ∨
  (∃ m, AllSp l m ∧ r.Perm m ∧ r.Pairwise (fun a b => ¬ cmpLs b.1 a.1 = -1) ∧ E = asVE r)
/-- what tsblockref12.Normalize leaves -/
def RMGot (w : World) (l : List Val) (n : Nat) (e : Ending) (w' : World) : Prop :=
  Nw w w' ∧ ∃ E r, ListSp l E r ∧ ((E ≠ 0 ∧ e = .returned (.tuple #[.slice none 0 0, .int .i64 (E : Nat)])) ∨
    (E = 0 ∧ ∃ g A c l', e = .returned (.tuple #[.slice A n c, .int .i64 0]) ∧ l'.map valS = r ∧ l'.length = n ∧ Ow w' g 37 2 A n c (cR l') ∧ ∀ s ∈ l', SerOk w' s ∧ s.labs.length ≤ 1000000))
/-- a series laid behind, its lists elsewhere than in bk -/
structure Out (w : World) (bk : Nat) (s : Ser) : Prop where
  ok : SerOk w s
  bl : s.bl ≠ bk ∧ s.bl < w.heap.size
  bs : s.bs ≠ bk ∧ s.bs < w.heap.size
  sm : s.labs.length ≤ 1000000
section
variable {w w' : World} {bk b3 : Nat} {s : Ser}
theorem Out.nw (h : Out w bk s) (hN : Nw w w') : Out w' bk s := ⟨h.ok.nw hN, ⟨h.bl.1, Nat.lt_of_lt_of_le h.bl.2 hN.size⟩, ⟨h.bs.1, Nat.lt_of_lt_of_le h.bs.2 hN.size⟩, h.sm⟩
theorem Out.kp (h : Out w bk s) (hk : Kp bk bk w w') : Out w' bk s := ⟨h.ok.kp hk h.bl.1 h.bs.1, ⟨h.bl.1, Nat.lt_of_lt_of_le h.bl.2 hk.size⟩, ⟨h.bs.1, Nat.lt_of_lt_of_le h.bs.2 hk.size⟩, h.sm⟩
theorem Out.app (h : Out w bk s) (hk : Kp bk bk w w') (h1 : b3 = bk ∨ w.heap.size ≤ b3) : Out w' b3 s := by
  have h2 := h.bl
  have h3 := h.bs
  have h4 := hk.size
  refine ⟨h.ok.kp hk h2.1 h3.1, ⟨?_, by omega⟩, ⟨?_, by omega⟩, h.sm⟩
  · rcases h1 with rfl | h1
    · exact h2.1
    · omega
  · rcases h1 with rfl | h1
    · exact h3.1
    · omega
end
/-- a row laid new lies in a block that is there, or in b -/
theorem ow_there {w w' : World} {g n c b : Nat} {e : TypeId} {A : Option Addr} {xs : List Value} (hO : Ow w' g e 2 A n c xs) (hg : w.heap.size ≤ g) : ∃ g', Ow w' g' e 2 A n c xs ∧ (g' = b ∨ (w.heap.size ≤ g' ∧ g' < w'.heap.size)) := by
  cases A with
  | none =>
    rcases hO with ⟨_, rfl, rfl, rfl⟩ | ⟨h, _⟩
    · exact ⟨b, Ow.nil _ _ _ _, .inl rfl⟩
    · cases h
  | some a =>
    obtain ⟨cs, hh, _⟩ := hO.heap
    exact ⟨g, hO, .inr ⟨hg, lt_of_block hh⟩⟩
theorem cmpLs_ntr {a b c : List Lab} (h1 : ¬ cmpLs b a = -1) (h2 : ¬ cmpLs c b = -1) : ¬ cmpLs c a = -1 := by
  intro h
  rcases cmp3_Ls.inn a b with h3 | h3 | h3
  · exact h2 (cmp3_Ls.trans _ _ _ h h3)
  · obtain rfl := (cmp3_Ls.zero _ _).1 h3
    exact h2 h
  · have := cmp3_Ls.swap a b
    omega
theorem cmpLs_pos {a b : List Lab} : cmpLs a b = 1 ↔ cmpLs b a = -1 := by
  have := cmp3_Ls.swap a b
  omega

set_option maxRecDepth 100000 in
set_option maxHeartbeats 8000000 in
theorem RNormM_any (w : World) (b : Nat) (A : Option Addr) (n c : Nat) (l : List Ser) (hI : InSer w b A n c l) (hs : smpSum l ≤ 100000) (hn : n ≤ 100000) (hsm : ∀ s ∈ l, s.labs.length ≤ 100000 ∧ s.smps.length ≤ 100000) :
    Calls Tryz.prog 8 #[.slice A n c] w (RMGot w (l.map valS) n) := by
  have HK := Lib.hid (large_any w b A n c l hI hs hn)
  have hl := hI.len
  subst hl
  have HR := Lib.hid hI.rd
  have HOK := Lib.hid fun s (h : s ∈ l) => And.intro (hI.ok s h) (hsm s h)
  have hVl : (l.map valS).length = l.length := List.length_map _
  have HVK := Lib.hid fun k (h : k < l.length) => (show (l.map valS)[k]? = some (valS l[k]) from by rw [List.getElem?_map, List.getElem?_eq_getElem h]; rfl)
  generalize l.map valS = V at *
  clear hI hs hsm
  go_enter Tryz.func8, Tryz.ntmps8
  go_wp2_with (go_at_call 28; refine HK.out.mono ?_; rintro e w1 ⟨rfl, hw1⟩; subst hw1)
  clear HK
  go_loopw [4, 5] (fun s i wr => ∃ (k : Nat) (out : List Ser) (m : List Val) (bk : Nat) (Ak : Option Addr) (ck : Nat), k ≤ l.length ∧ i = .int .i64 k ∧ s = .slice Ak k ck ∧ Hid (out.length = k) ∧ Hid (AllSp (V.take k) m) ∧ Hid ((out.map valS).Perm m) ∧ Hid (out.Pairwise (fun a b => ¬ cmpLs b.labs a.labs = -1)) ∧
    Hid (Ow wr bk 37 2 Ak k ck (cR out)) ∧ w.heap.size ≤ bk ∧ Hid (Ak = none ∨ bk < wr.heap.size) ∧ Hid (∀ s ∈ out, Out wr bk s) ∧ Hid (Nw w wr)) (fun _ i _ => l.length - (intOf i).toNat)
  case atStart => exact ⟨0, [], [], w.heap.size, none, 0, by omega, rfl, rfl, Lib.hid rfl, Lib.hid AllSp.nil, Lib.hid (List.Perm.refl _), Lib.hid List.Pairwise.nil, Lib.hid (Ow.nil _ _ _ _), Nat.le_refl _, Lib.hid (.inl rfl), Lib.hid (fun s h => absurd h List.not_mem_nil), Lib.hid (Nw.refl _)⟩
  case round =>
    obtain ⟨k, out, m, bk, Ak, ck, hk, rfl, rfl, HL, HT, HP, HS, HO, hbk, HBK, HQ, HN⟩ := hrel
    by_cases hlt : k < l.length
    · have hltI : (k : Int) < (l.length : Int) := by omega
      obtain ⟨o, rfl, hbr, hc0, hc1⟩ := two_at (HR.out.nw HN.out) hlt
      have hbw : b < w.heap.size := by obtain ⟨_, _, h, _⟩ := two_at HR.out hlt; exact h
      have HX := Lib.hid fun W (hN : Nw w W) => (show W.cell? ⟨b, o + k * 2, none⟩ = some (.slice l[k].al l[k].labs.length l[k].cl) ∧ W.cell? ⟨b, o + k * 2 + 1, none⟩ = some (.slice l[k].as_ l[k].smps.length l[k].cs) from by
        obtain ⟨o', e, h1, h2, h3⟩ := two_at (HR.out.nw hN) hlt
        cases e
        exact ⟨h2, h3⟩)
      have HOx := Lib.hid (HOK.out l[k] (List.getElem_mem hlt))
      have HVx := Lib.hid (HVK.out k hlt)
      generalize l[k] = x at *
      have hxl := HOx.out.2.1
      have hxs := HOx.out.2.2
      have HNL := Lib.hid (RNormL_any wr x.bl x.al x.labs.length x.cl x.labs (HOx.out.1.1.nw HN.out) (by omega))
      go_wp2_with fail
      clear hc0 hc1
      refine HNL.out.mono ?_
      rintro e w2 ⟨hN2, hcase⟩
      clear HNL
      rcases hcase with ⟨hE, rfl⟩ | ⟨hE, hD, rfl⟩ | ⟨hE, l1, g1, A1, c1, hp1, hs1, rfl, hO1, hg1⟩
      · obtain ⟨E, hEE⟩ : ∃ E, oneAll x.labs = E := ⟨_, rfl⟩
        rw [hEE] at hE ⊢
        have HE := Lib.hid hEE
        have HE0 := Lib.hid hE
        have hE1 : ((E : Int) != 0) = true := by rw [bne_iff_ne]; omega
        clear hEE hE
        go_wp2
        go_ret2
        exact ⟨HN.out.trans hN2, E, [], .inl ⟨k, valS x, ([], []), m, HVx.out, HT.out, .inl ⟨by rw [show (valS x).1 = x.labs from rfl, HE.out]; exact HE0.out, HE.out.symm⟩, HE0.out⟩, .inl ⟨HE0.out, rfl⟩⟩
      · have HE := Lib.hid hE
        have HD := Lib.hid hD
        clear hE hD
        go_wp2
        go_ret2
        exact ⟨HN.out.trans hN2, 18, [], .inl ⟨k, valS x, ([], []), m, HVx.out, HT.out, .inr (.inl ⟨HE.out, HD.out, rfl⟩), by decide⟩, .inl ⟨by decide, rfl⟩⟩
      · have HE := Lib.hid hE
        have HP1 := Lib.hid hp1
        have HS1 := Lib.hid hs1
        have hN2' := HN.out.trans hN2
        obtain ⟨d0, d1⟩ := HX.out w2 hN2'
        obtain ⟨bl, hO1, hbl⟩ := ow_there (b := b) hO1 hg1
        have HO1 := Lib.hid hO1
        clear hE hp1 hs1 hO1 hg1
        by_cases h0 : x.smps.length = 0
        · have h0b : ((x.smps.length : Int) == 0) = true := by rw [beq_iff_eq]; omega
          have H0 := Lib.hid (show x.smps = [] from List.eq_nil_of_length_eq_zero h0)
          clear h0
          go_wp2
          go_ret2
          exact ⟨hN2', 21, [], .inl ⟨k, valS x, (l1, []), m, HVx.out, HT.out, .inr (.inr ⟨HE.out, HP1.out, HS1.out, .inl ⟨H0.out, rfl⟩⟩), by decide⟩, .inl ⟨by decide, rfl⟩⟩
        · have h0b : ((x.smps.length : Int) == 0) = false := by rw [beq_eq_false_iff_ne]; omega
          have H0 := Lib.hid (show x.smps ≠ [] from fun h => h0 (by rw [h]; rfl))
          have HSO := Lib.hid (RSort_any w2 x.bs x.as_ x.smps.length x.cs x.smps (HOx.out.1.2.nw hN2') (by omega))
          clear h0
          go_wp2_with fail
          refine HSO.out.mono ?_
          rintro e w3 ⟨g2, A2, c2', rfl, l2, hp2, hs2, hO2, hg2, hN3⟩
          clear HSO d0 d1
          have hl2 : l2.length = x.smps.length := hp2.length_eq
          obtain ⟨bs, hO2, hbs⟩ := ow_there (b := b) hO2 hg2
          have HO2 := Lib.hid hO2
          have HP2 := Lib.hid hp2
          have HS2 := Lib.hid hs2
          have HTM := Lib.hid (times_any w3 bs A2 x.smps.length c2' l2 hl2.symm (by omega) hO2.rd)
          obtain ⟨E, hE⟩ : ∃ E, tmE l2 = E := ⟨_, rfl⟩
          rw [hE] at HTM
          have HEE := Lib.hid hE
          have HSP := Lib.hid (show SerSp (valS x) E (l1, l2) from .inr (.inr ⟨HE.out, HP1.out, HS1.out, .inr ⟨H0.out, hp2, hs2.imp (fun h => by omega), hE.symm⟩⟩))
          have HN3 := Lib.hid hN3
          clear hO2 hp2 hs2 hE hg2 hN3
          go_wp2_with fail
          refine HTM.out.mono ?_
          rintro e w4 ⟨rfl, hD4⟩
          have HN4 := Lib.hid (HN3.out.trans hD4.nw)
          have HD4 := Lib.hid hD4.nw
          clear hD4 HTM
          by_cases h1 : E = 0
          · have h1b : ((E : Int) != 0) = false := by rw [bne_eq_false_iff_eq]; omega
            rw [h1] at HSP HEE
            clear h1
            have hl1 : l1.length = x.labs.length := HP1.out.length_eq
            have HVt := Lib.hid (show V.take (k + 1) = V.take k ++ [valS x] from by
              obtain ⟨h1, h2⟩ := List.getElem?_eq_some_iff.1 HVx.out
              rw [List.take_succ_eq_append_getElem h1, h2])
            have hN4' := hN2'.trans HN4.out
            have hsz : (w4.alloc (.cells #[.slice A1 x.labs.length c1, .slice A2 x.smps.length c2'] 37)).heap.size = w4.heap.size + 1 := by simp
            have hNx : Nw w4 (w4.alloc (.cells #[.slice A1 x.labs.length c1, .slice A2 x.smps.length c2'] 37)) := (Nw.refl w4).alloc' _
            have hbx0 : (w4.alloc (.cells #[.slice A1 x.labs.length c1, .slice A2 x.smps.length c2'] 37)).cell? ⟨w4.heap.size, 0, none⟩ = some (.slice A1 x.labs.length c1) := by simp
            have hbx1 : (w4.alloc (.cells #[.slice A1 x.labs.length c1, .slice A2 x.smps.length c2'] 37)).cell? ⟨w4.heap.size, 1, none⟩ = some (.slice A2 x.smps.length c2') := by simp
            have hsml := fun u (hu : u ∈ l1) => HOx.out.1.1.small u (HP1.out.mem_iff.1 hu)
            have hswf := fun u (hu : u ∈ l2) => HOx.out.1.2.wf u (HP2.out.mem_iff.1 hu)
            have hNw4 : Nw w3 w4 := HD4.out
            have hOk4 : SerOk w4 ⟨l1, l2, bl, A1, c1, bs, A2, c2'⟩ := by
              have h1 := HO1.out.nw HN4.out
              have h2 := HO2.out.nw hNw4
              rw [← hl1] at h1
              rw [← hl2] at h2
              exact ⟨⟨h1.rd, rfl, h1.nil_cap, h1.cap.1, h1.cap.2, hsml⟩, ⟨h2.rd, rfl, hswf, h2.nil_cap, h2.cap.1, h2.cap.2⟩⟩
            have s2 := hN2.size
            have s3 := HN3.out.size
            have s4 := hNw4.size
            have s5 := hN2'.size
            have HYF : Hid (fR ⟨l1, l2, bl, A1, c1, bs, A2, c2'⟩ = Value.slice A1 x.labs.length c1 ∧ hR ⟨l1, l2, bl, A1, c1, bs, A2, c2'⟩ = Value.slice A2 x.smps.length c2') := Lib.hid ⟨by rw [← hl1], by rw [← hl2]⟩
            obtain ⟨y, hy⟩ : ∃ y : Ser, y = ⟨l1, l2, bl, A1, c1, bs, A2, c2'⟩ := ⟨_, rfl⟩
            have hyl : y.labs = l1 ∧ y.smps = l2 ∧ y.bl = bl ∧ y.bs = bs ∧ y.al = A1 ∧ y.cl = c1 := by rw [hy]; exact ⟨rfl, rfl, rfl, rfl, rfl, rfl⟩
            rw [← hy] at hOk4 HYF
            have HYL := Lib.hid hyl
            have HSPy : Hid (SerSp (valS x) 0 (valS y)) := Lib.hid (by rw [hy]; exact HSP.out)
            obtain ⟨n1, hn1⟩ : ∃ n, n = x.labs.length := ⟨_, rfl⟩
            obtain ⟨n2, hn2⟩ : ∃ n, n = x.smps.length := ⟨_, rfl⟩
            rw [← hn1, ← hn2] at hsz hNx hbx0 hbx1 HYF
            rw [← hn1] at hl1
            obtain ⟨bx, hbx⟩ : ∃ o, o = Obj.cells #[.slice A1 n1 c1, .slice A2 n2 c2'] 37 := ⟨_, rfl⟩
            have hst : ∃ bk', Ow (w4.alloc (.cells #[.slice A1 n1 c1, .slice A2 n2 c2'] 37)) bk' 37 2 Ak k ck (cR out) ∧ w.heap.size ≤ bk' ∧ (∀ s ∈ out, Out (w4.alloc (.cells #[.slice A1 n1 c1, .slice A2 n2 c2'] 37)) bk' s) ∧ Out (w4.alloc (.cells #[.slice A1 n1 c1, .slice A2 n2 c2'] 37)) bk' y ∧ (bk' < w4.heap.size ∨ w4.heap.size + 1 ≤ bk') := by
              have hNr : Nw wr (w4.alloc (.cells #[.slice A1 n1 c1, .slice A2 n2 c2'] 37)) := (hN2.trans HN4.out).trans hNx
              have hyx : SerOk (w4.alloc (.cells #[.slice A1 n1 c1, .slice A2 n2 c2'] 37)) y := hOk4.nw hNx
              have hyn : y.labs.length ≤ 1000000 := by rw [hyl.1]; omega
              by_cases hA : Ak = none
              · rcases HO.out with ⟨h1, h2, h3, h4⟩ | ⟨h1, _⟩
                · have ho : out = [] := List.eq_nil_of_length_eq_zero (by have := HL.out; omega)
                  subst h1 h2 h3
                  refine ⟨w4.heap.size + 1, (by rw [ho]; exact Ow.nil _ _ _ _), by omega, (fun s hs => absurd (ho ▸ hs) List.not_mem_nil), ⟨hyx, ⟨?_, ?_⟩, ⟨?_, ?_⟩, hyn⟩, .inr (Nat.le_refl _)⟩
                  all_goals (first | rw [hyl.2.2.1] | rw [hyl.2.2.2.1])
                  all_goals omega
                · rw [hA] at h1; cases h1
              · have hlt3 : bk < wr.heap.size := by rcases HBK.out with h | h; exact (hA h).elim; exact h
                refine ⟨bk, HO.out.nw hNr, hbk, fun s hs => (HQ.out s hs).nw hNr, ⟨hyx, ⟨?_, ?_⟩, ⟨?_, ?_⟩, hyn⟩, .inl (by omega)⟩
                all_goals (first | rw [hyl.2.2.1] | rw [hyl.2.2.2.1])
                all_goals omega
            obtain ⟨bk', hO', hbk', hQ', hY', hfar⟩ := hst
            have HO' := Lib.hid hO'
            have HQ' := Lib.hid hQ'
            have HY' := Lib.hid hY'
            have HBx := Lib.hid (And.intro hbx0 hbx1)
            have HNx := Lib.hid (hN4'.trans hNx)
            have HSZ := Lib.hid hsz
            have HL1 := Lib.hid hl1
            clear hbx hO' hQ' hY' hbx0 hbx1 hOk4 hsml hswf hNw4 HO HQ HBK HOx hl1 hl2 hyl hy hsz hNx hN4' hN2' hN2 HO1 HO2 HN3 HN4 HD4 s3
            rw [← hn1, ← hn2]
            clear hn1 hn2
            go_wp2_with (at_builtin; refine wpList_app2 E_ser rfl (.tmp 55) (.tmp 57) rfl rfl HO'.out (by rw [HSZ.out]; rfl) rfl rfl (by omega) (by omega) ?_; intro b3 A3 c3 w5 r1 r2 r3; have R1 := Lib.hid r1; have R2 := Lib.hid r2; have R3 := Lib.hid r3; clear r1 r2 r3)
            have hN5 : Nw w w5 := Kp.nw HNx.out R3.out hbk' hbk'
            have hb3 : w.heap.size ≤ b3 := by
              rcases R2.out with h | h
              · omega
              · have := HNx.out.size; omega
            have hO5 : Ow w5 b3 37 2 A3 (k + 1) c3 (cR (gap out k y)) := by
              have h := R1.out
              rw [gap_end out k y HL.out]
              unfold cR c2 at h ⊢
              rw [List.flatMap_append]
              rw [← HYF.out.1, ← HYF.out.2] at h
              exact h
            have HQ5 := Lib.hid fun s (hs : s ∈ out) => (HQ'.out s hs).app R3.out R2.out
            have HY := Lib.hid (HY'.out.app R3.out R2.out)
            have hBne : w4.heap.size ≠ b3 ∧ w4.heap.size ≠ bk' := by
              have h2 := HSZ.out
              rcases R2.out with h | h
              · omega
              · omega
            have HBX := Lib.hid fun W (hK : Kp b3 b3 w5 W) => (show W.cell? ⟨w4.heap.size, 0, none⟩ = some (.slice A1 n1 c1) ∧ W.cell? ⟨w4.heap.size, 1, none⟩ = some (.slice A2 n2 c2') from by
              have e1 := R3.out.block w4.heap.size (by rw [HSZ.out]; omega) hBne.2 hBne.2
              have e2 := hK.block w4.heap.size (by have := R3.out.size; have := HSZ.out; omega) hBne.1 hBne.1
              exact ⟨(World.cell?_of_block (e2.trans e1)).trans HBx.out.1, (World.cell?_of_block (e2.trans e1)).trans HBx.out.2⟩)
            have HO5 := Lib.hid hO5
            have HN5 := Lib.hid hN5
            have HSP := HSPy
            obtain ⟨rfl, hb3w, _, _⟩ := hO5.at_ (j := 0) (by omega)
            have HB3 := Lib.hid hb3w
            have HD0 : Hid (∀ t ∈ out.drop k, cmpLs t.labs l1 = 1) := Lib.hid (by rw [List.drop_eq_nil_of_le (by have := HL.out; omega)]; intro t ht; cases ht)
            clear hO5 hN5 R1 R2 R3 HQ' HY' HO' HBx hb3w hBne hfar
            rename World => wo
            go_loopw [9] (fun v wr => ∃ (j : Nat) (z : Ser), j ≤ k ∧ v = .int .i64 j ∧ Hid (Ow wr b3 37 2 (some ⟨b3, 0, none⟩) (k + 1) c3 (cR (gap out j z))) ∧ Hid (∀ t ∈ out.drop j, cmpLs t.labs l1 = 1) ∧ Hid (Kp b3 b3 wo wr)) (fun v _ => (intOf v).toNat)
            case atStart => exact ⟨k, y, Nat.le_refl _, rfl, HO5, HD0, Lib.hid (Kp.refl _ _ _)⟩
            case round =>
              clear HO5 HD0
              obtain ⟨j, z, hj, rfl, HO, HD, HK⟩ := hrel
              have hgl := gap_length out j z (by have := HL.out; omega)
              rw [HL.out] at hgl
              by_cases h0 : j = 0
              · have g0 : ¬ (0 : Int) < (j : Int) := by omega
                have g1 : decide ((0 : Int) < (j : Int)) = false := decide_eq_false g0
                have g3 : decide (0 < j) = false := by rw [decide_eq_false_iff_not]; omega
                have H00 := Lib.hid h0
                clear h0
                have HGr := Lib.hid (Gr.refl wr)
                have HKz := Lib.hid (HK.out.nw' HGr.out.nw)
                obtain ⟨x0, x1⟩ := HBX.out wr HKz.out
                obtain ⟨_, hb4, y0, y1, v2, v3⟩ := two_ow (k := j) (HO.out.nw HGr.out.nw) (by omega)
                obtain ⟨u0, v0⟩ : ∃ u, wr.cell? ⟨b3, j * 2, none⟩ = some u := ⟨_, y0⟩
                obtain ⟨u1, v1⟩ : ∃ u, wr.cell? ⟨b3, j * 2 + 1, none⟩ = some u := ⟨_, y1⟩
                have i1 : (j : Int) < (k : Int) + 1 := by omega
                clear y0 y1
                have HKe := Lib.hid ((HKz.out.setCell' (p := ⟨b3, j * 2, none⟩) (.inl rfl) (.slice A1 n1 c1)).setCell' (p := ⟨b3, j * 2 + 1, none⟩) (.inl rfl) (.slice A2 n2 c2'))
                go_wp2
                go_roundw
                case rel =>
                  refine ⟨k + 1, gap out j y, m ++ [valS y], b3, some ⟨b3, 0, none⟩, c3, by omega, by go_num, rfl, Lib.hid ?_, Lib.hid ?_, Lib.hid ?_, Lib.hid (gap_sorted HS.out ?_ (fun t ht => by rw [HYL.out.1, HD.out t ht]; decide)), Lib.hid ?_, hb3, Lib.hid (.inr (Nat.lt_of_lt_of_le HB3.out HKe.out.size)), Lib.hid (fun s hs => ?_), Lib.hid (Kp.nw HN5.out HKe.out hb3 hb3)⟩
                  · rw [gap_length out j y (by have := HL.out; omega), HL.out]
                  · rw [HVt.out]
                    exact HT.out.snoc HSP.out
                  · refine ((gap_perm out j y).map valS).trans ?_
                    rw [List.map_cons]
                    exact (List.Perm.cons _ HP.out).trans (List.perm_append_singleton _ _).symm
                  · rw [H00.out]; intro t ht; cases ht
                  · have h := two_set (k := j) (HO.out.nw HGr.out.nw) y
                    rw [gap_fill out j z y (by have := HL.out; omega), show Value.slice y.al y.labs.length y.cl = Value.slice A1 n1 c1 from HYF.out.1, show Value.slice y.as_ y.smps.length y.cs = Value.slice A2 n2 c2' from HYF.out.2] at h
                    exact h
                  · rcases List.mem_cons.1 ((gap_perm out j y).mem_iff.1 hs) with rfl | hs
                    · exact HY.out.kp HKe.out
                    · exact (HQ5.out s hs).kp HKe.out
                case measure => simp [intOf]; omega
              · obtain ⟨i, hi⟩ : ∃ i, j = i + 1 := ⟨j - 1, by omega⟩
                have g0 : (0 : Int) < (j : Int) := by omega
                have g1 : decide ((0 : Int) < (j : Int)) = true := decide_eq_true g0
                have g3 : decide (0 < j) = true := by rw [decide_eq_true_iff]; omega
                have hio : i < out.length := by have := HL.out; omega
                obtain ⟨_, hb4, t0, t1, _, _⟩ := two_ow (k := i) HO.out (by omega)
                have e0 : (gap out j z)[i]'(by omega) = out[i] := Option.some.inj (by rw [← List.getElem?_eq_getElem, hi, gap_prev out i z hio])
                rw [e0] at t0 t1
                have HE : Hid ((gap out j z)[i]? = some out[i]) := Lib.hid (by rw [hi]; exact gap_prev out i z hio)
                have HSH := Lib.hid (gap_shift out i z hio)
                have HDR := Lib.hid (show ∀ t ∈ out.drop i, t = out[i] ∨ t ∈ out.drop j from fun t ht => by rw [List.drop_eq_getElem_cons hio, List.mem_cons, ← hi] at ht; exact ht)
                have HTK := Lib.hid (show ∀ t ∈ out.take j, t = out[i] ∨ ¬ cmpLs out[i].labs t.labs = -1 from fun t ht => by
                  rw [hi, List.take_succ_eq_append_getElem hio, List.mem_append, List.mem_singleton] at ht
                  rcases ht with ht | ht
                  · right
                    have h := HS.out
                    rw [← List.take_append_drop i out, List.pairwise_append] at h
                    exact h.2.2 t ht out[i] (by rw [List.drop_eq_getElem_cons hio]; exact List.mem_cons_self)
                  · exact .inl ht)
                have HQi := Lib.hid (HQ5.out out[i] (List.getElem_mem hio))
                generalize out[i] = s at *
                have Hi : i + 1 ≤ j ∧ j ≤ i + 1 := by omega
                have HI := Lib.hid hi
                clear hi e0
                have j1 : (j : Int) - 1 = (i : Int) := by omega
                have j2 : (i : Int) < (k : Int) + 1 := by omega
                have j3 : (j : Int) < (k : Int) + 1 := by omega
                have hsO := HQi.out.kp HK.out
                have hyO := HY.out.kp HK.out
                have hyr := hyO.ok.1.rd
                rw [HYL.out.1, HYL.out.2.2.1, HYL.out.2.2.2.2.1] at hyr
                have hyn := hyO.sm
                rw [HYL.out.1, HL1.out] at hyn
                have HB := Lib.hid fun W (hN : Nw wr W) => RCompareL_any W s.bl bl s.al A1 s.labs.length s.cl n1 c1 s.labs l1 rfl HL1.out.symm hsO.sm hyn (hsO.ok.1.rd.nw hN) (hyr.nw hN)
                obtain ⟨v, hv⟩ : ∃ v, cmpLs s.labs l1 = v := ⟨_, rfl⟩
                have hvin := cmp3_Ls.inn s.labs l1
                rw [hv] at HB hvin
                have HVv := Lib.hid hv
                clear hv t1 hsO hyO hyr
                by_cases hv1 : v = 1
                · have g2 : (0 : Int) < v := by omega
                  have g4 : decide ((0 : Int) < v) = true := decide_eq_true g2
                  have HV1 := Lib.hid hv1
                  clear hv1 hvin
                  go_wp2_with fail
                  refine (HB.out _ (Nw.refl _)).mono ?_
                  rintro e wz ⟨rfl, hD⟩
                  have HGr := Lib.hid (Gr.of_dr hD)
                  clear hD t0
                  obtain ⟨_, hb4, y0, y1, v2, v3⟩ := two_ow (k := j) (HO.out.nw HGr.out.nw) (by omega)
                  obtain ⟨u0, v0⟩ : ∃ u, wz.cell? ⟨b3, j * 2, none⟩ = some u := ⟨_, y0⟩
                  obtain ⟨u1, v1⟩ : ∃ u, wz.cell? ⟨b3, j * 2 + 1, none⟩ = some u := ⟨_, y1⟩
                  clear y0 y1
                  obtain ⟨_, _, t0, t1, _, _⟩ := two_ow (k := i) (HO.out.nw HGr.out.nw) (by omega)
                  have e0 : (gap out j z)[i]'(by omega) = s := Option.some.inj (by rw [← List.getElem?_eq_getElem, HE.out])
                  rw [e0] at t0 t1
                  clear e0
                  have HKz := Lib.hid (HK.out.nw' HGr.out.nw)
                  go_wp2
                  go_roundw
                  case rel =>
                    refine ⟨i, s, by omega, by go_num, Lib.hid ?_, Lib.hid (fun t ht => ?_), Lib.hid ((HKz.out.setCell' (p := ⟨b3, j * 2, none⟩) (.inl rfl) _).setCell' (p := ⟨b3, j * 2 + 1, none⟩) (.inl rfl) _)⟩
                    · have h := two_set (k := j) (HO.out.nw HGr.out.nw) s
                      rw [HI.out, HSH.out, ← HI.out] at h
                      exact h
                    · rcases HDR.out t ht with rfl | ht
                      · rw [HVv.out, HV1.out]
                      · exact HD.out t ht
                  case measure => simp [intOf]; omega
                · have g2 : ¬ (0 : Int) < v := by omega
                  have g4 : decide ((0 : Int) < v) = false := decide_eq_false g2
                  have HV1 := Lib.hid hv1
                  clear hv1 hvin
                  go_wp2_with fail
                  refine (HB.out _ (Nw.refl _)).mono ?_
                  rintro e wz ⟨rfl, hD⟩
                  have HGr := Lib.hid (Gr.of_dr hD)
                  clear hD t0
                  have HKz := Lib.hid (HK.out.nw' HGr.out.nw)
                  obtain ⟨x0, x1⟩ := HBX.out wz HKz.out
                  obtain ⟨_, hb4, y0, y1, v2, v3⟩ := two_ow (k := j) (HO.out.nw HGr.out.nw) (by omega)
                  obtain ⟨u0, v0⟩ : ∃ u, wz.cell? ⟨b3, j * 2, none⟩ = some u := ⟨_, y0⟩
                  obtain ⟨u1, v1⟩ : ∃ u, wz.cell? ⟨b3, j * 2 + 1, none⟩ = some u := ⟨_, y1⟩
                  have i1 : (j : Int) < (k : Int) + 1 := by omega
                  clear y0 y1
                  have HKe := Lib.hid ((HKz.out.setCell' (p := ⟨b3, j * 2, none⟩) (.inl rfl) (.slice A1 n1 c1)).setCell' (p := ⟨b3, j * 2 + 1, none⟩) (.inl rfl) (.slice A2 n2 c2'))
                  go_wp2
                  go_roundw
                  case rel =>
                    refine ⟨k + 1, gap out j y, m ++ [valS y], b3, some ⟨b3, 0, none⟩, c3, by omega, by go_num, rfl, Lib.hid ?_, Lib.hid ?_, Lib.hid ?_, Lib.hid (gap_sorted HS.out ?_ (fun t ht => by rw [HYL.out.1, HD.out t ht]; decide)), Lib.hid ?_, hb3, Lib.hid (.inr (Nat.lt_of_lt_of_le HB3.out HKe.out.size)), Lib.hid (fun s hs => ?_), Lib.hid (Kp.nw HN5.out HKe.out hb3 hb3)⟩
                    · rw [gap_length out j y (by have := HL.out; omega), HL.out]
                    · rw [HVt.out]
                      exact HT.out.snoc HSP.out
                    · refine ((gap_perm out j y).map valS).trans ?_
                      rw [List.map_cons]
                      exact (List.Perm.cons _ HP.out).trans (List.perm_append_singleton _ _).symm
                    · have hls : ¬ cmpLs l1 s.labs = -1 := by rw [← cmpLs_pos, HVv.out]; exact HV1.out
                      intro t ht
                      rw [HYL.out.1]
                      rcases HTK.out t ht with rfl | h
                      · exact hls
                      · exact cmpLs_ntr h hls
                    · have h := two_set (k := j) (HO.out.nw HGr.out.nw) y
                      rw [gap_fill out j z y (by have := HL.out; omega), show Value.slice y.al y.labs.length y.cl = Value.slice A1 n1 c1 from HYF.out.1, show Value.slice y.as_ y.smps.length y.cs = Value.slice A2 n2 c2' from HYF.out.2] at h
                      exact h
                    · rcases List.mem_cons.1 ((gap_perm out j y).mem_iff.1 hs) with rfl | hs
                      · exact HY.out.kp HKe.out
                      · exact (HQ5.out s hs).kp HKe.out
                  case measure => simp [intOf]; omega
          · have h1b : ((E : Int) != 0) = true := by rw [bne_iff_ne]; omega
            have H1 := Lib.hid h1
            clear h1
            go_wp2
            go_ret2
            exact ⟨hN2'.trans HN4.out, E, [], .inl ⟨k, valS x, (l1, l2), m, HVx.out, HT.out, HSP.out, H1.out⟩, .inl ⟨H1.out, rfl⟩⟩
    · have hltI : ¬ (k : Int) < (l.length : Int) := by omega
      obtain ⟨N, hN1⟩ : ∃ N, l.length = N := ⟨_, rfl⟩
      have hP : out.length = l.length := by rw [HL.out]; omega
      have hT := HT.out
      have hkl : k = l.length := by omega
      rw [List.take_of_length_le (by omega)] at hT
      have HT2 := Lib.hid hT
      have hfin : ListSp V (asE out) (out.map valS) := .inr ⟨m, hT, HP.out, by rw [List.pairwise_map]; exact HS.out, asE_val out⟩
      obtain ⟨C, hC⟩ : ∃ C, asE out = C := ⟨_, rfl⟩
      rw [hC] at hfin
      have HF := Lib.hid hfin
      have HC := Lib.hid hC
      have HPo := Lib.hid hP
      have HKL := Lib.hid hkl
      clear hfin hC hT HT hP hkl hN1 hlt
      go_wp2
      rename World => wo
      go_loopw [11] (fun v wr => ∃ j : Nat, 1 ≤ j ∧ j ≤ k + 1 ∧ v = .int .i64 j ∧ Hid (C = asE (out.drop (j - 1))) ∧ Hid (Nw wo wr)) (fun v _ => k + 1 - (intOf v).toNat)
      case atStart => exact ⟨1, Nat.le_refl _, by omega, rfl, Lib.hid (by rw [← HC.out]; rfl), Lib.hid (Nw.refl _)⟩
      case round =>
        obtain ⟨j, hj1, hj2, rfl, HX, HN2⟩ := hrel
        by_cases hjk : j < k
        · have hjI : (j : Int) < (k : Int) := by omega
          obtain ⟨i, hi⟩ : ∃ i, j = i + 1 := ⟨j - 1, by omega⟩
          have hio : i < out.length := by have := HPo.out; have := HKL.out; omega
          have hjo : j < out.length := by have := HPo.out; have := HKL.out; omega
          have hX := HX.out
          rw [asE_step (by omega) hjo] at hX
          have hei : out[j - 1]'(by omega) = out[i] := by congr 1; omega
          rw [hei] at hX
          have hsrt := List.pairwise_iff_getElem.1 HS.out i j hio hjo (by omega)
          obtain ⟨_, hb4, t0, _, _, _⟩ := two_ow (k := i) (HO.out.nw HN2.out) hio
          obtain ⟨rfl, _, t2, _, _, _⟩ := two_ow (k := j) (HO.out.nw HN2.out) hjo
          have HQi := Lib.hid (HQ.out out[i] (List.getElem_mem hio))
          have HQj := Lib.hid (HQ.out out[j] (List.getElem_mem hjo))
          generalize out[i] = s at *
          generalize out[j] = t at *
          have hi1 : (j : Int) - 1 = (i : Int) := by omega
          have hi2 : (i : Int) < (k : Int) := by omega
          have HB := Lib.hid fun W (hN : Nw wr W) => RCompareL_any W s.bl t.bl s.al t.al s.labs.length s.cl t.labs.length t.cl s.labs t.labs rfl rfl HQi.out.sm HQj.out.sm ((HQi.out.ok.1.rd.nw HN2.out).nw hN) ((HQj.out.ok.1.rd.nw HN2.out).nw hN)
          obtain ⟨v, hv⟩ : ∃ v, cmpLs s.labs t.labs = v := ⟨_, rfl⟩
          have hvin := cmp3_Ls.inn s.labs t.labs
          have hv1 : ¬ v = 1 := by rw [← hv, cmpLs_pos]; exact hsrt
          rw [hv] at HB hvin hX
          rw [if_neg hv1] at hX
          have HXX := Lib.hid hX
          have q0 : ∀ p' : Gp, (grow (wr.drewN p'.n) p'.os).cell? ⟨bk, i * 2, none⟩ = some (.slice s.al s.labs.length s.cl) := cell_gr hb4 t0
          have q1 : ∀ p' : Gp, (grow (wr.drewN p'.n) p'.os).cell? ⟨bk, j * 2, none⟩ = some (.slice t.al t.labs.length t.cl) := cell_gr hb4 t2
          have HI := Lib.hid hi
          have Hi : i + 1 ≤ j ∧ j ≤ i + 1 := by omega
          clear hv hX t0 t2 hsrt hei hi
          by_cases hv0 : v = 0
          · have g1 : (v == 0) = true := by rw [beq_iff_eq]; exact hv0
            have HV0 := Lib.hid hv0
            clear hv0 hvin hv1
            go_wp2_with fail
            refine wp_region_gr (by kernel_rfl) (by kernel_rfl) ?_
            repeat (go_big_quiet_step (first | (go_at_call 32; refine Calls.gr ((HB.out _ (Gr.nw ⟨_, rfl⟩)).mono fun _ _ h => ⟨h.1, Gr.of_dr h.2⟩))))
            refine wpQuiet_nil ?_
            rintro _ ⟨p', rfl⟩
            have HGr := Lib.hid ((Gr.refl wr).trans (⟨p', rfl⟩ : Gr wr _))
            generalize grow (wr.drewN p'.n) p'.os = wz at *
            have hC : C = 19 := by have h := HXX.out; rw [if_pos HV0.out] at h; exact h
            go_wp2
            go_ret2
            exact ⟨HN.out.trans (HN2.out.trans HGr.out.nw), C, _, HF.out, .inl ⟨by rw [hC]; decide, by rw [hC]; rfl⟩⟩
          · have g1 : (v == 0) = false := by rw [beq_eq_false_iff_ne]; exact hv0
            have HV0 := Lib.hid hv0
            clear hv0 hvin hv1
            go_wp2_with fail
            refine wp_region_gr (by kernel_rfl) (by kernel_rfl) ?_
            repeat (go_big_quiet_step (first | (go_at_call 32; refine Calls.gr ((HB.out _ (Gr.nw ⟨_, rfl⟩)).mono fun _ _ h => ⟨h.1, Gr.of_dr h.2⟩))))
            refine wpQuiet_nil ?_
            rintro _ ⟨p', rfl⟩
            have HGr := Lib.hid ((Gr.refl wr).trans (⟨p', rfl⟩ : Gr wr _))
            generalize grow (wr.drewN p'.n) p'.os = wz at *
            go_wp2
            go_roundw
            case rel => exact ⟨j + 1, by omega, by omega, by go_num, Lib.hid (by have h := HXX.out; rw [if_neg HV0.out] at h; rw [Nat.add_sub_cancel]; exact h), Lib.hid (HN2.out.trans HGr.out.nw)⟩
            case measure => simp [intOf]; omega
        · have hjI : ¬ (j : Int) < (k : Int) := by omega
          have hC0 : C = 0 := by rw [HX.out, asE_end (by have := HPo.out; have := HKL.out; omega)]
          have HC0 := Lib.hid hC0
          have HF2 : Hid (ListSp V 0 (out.map valS)) := Lib.hid (by rw [← hC0]; exact HF.out)
          clear hC0
          go_wp2
          go_ret2
          exact ⟨HN.out.trans HN2.out, 0, _, HF2.out, .inr ⟨rfl, bk, Ak, ck, out, by rw [← HKL.out]; rfl, rfl, HPo.out, by rw [← HKL.out]; exact HO.out.nw HN2.out, fun s hs => ⟨(HQ.out s hs).ok.nw HN2.out, (HQ.out s hs).sm⟩⟩⟩
end Go.Proofs.YtoogadidbbpplaaGreat
