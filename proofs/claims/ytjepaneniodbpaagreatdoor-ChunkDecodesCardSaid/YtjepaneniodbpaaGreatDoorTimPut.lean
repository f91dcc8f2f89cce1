/- times.Put. -/
import Derived.Test.YtjepaneniodbpaaGreatDoorChanges
import Derived.Test.YtjepaneniodbpaaGreatDoorWriter
namespace Go.Proofs.YtjepaneniodbpaaGreatDoor
open Go Go.RowKit Go.Sort Go.Shelf
attribute [local go_sem] Oper.semAt_some

theorem Wtr.own {w w' : World} {g b : Nat} {bs : List Bool} {row : Option Nat} (h : Wtr w g b bs) (hg : w.grownBy w' row) (hr : ∀ r, row = some r → ∃ o : Obj, w.heap[r]? = some o ∧ o.isCells = false) : Wtr w' g b bs := by
  have hlt := h.glt
  obtain ⟨⟨A, c, hb, hO, hA1, hA2⟩, h3⟩ := h
  refine ⟨⟨A, c, ?_, ?_, hA1, hA2⟩, Nat.lt_of_lt_of_le h3 hg.size⟩
  · refine (hg.block g hlt ?_).trans hb
    intro e
    obtain ⟨o, h1, h2⟩ := hr _ e.symm
    rw [hb] at h1
    cases h1
    cases h2
  · rcases hO with ⟨rfl, h1, h2, h4⟩ | ⟨rfl, hlt2, hO⟩
    · exact .inl ⟨rfl, h1, h2, h4⟩
    · refine .inr ⟨rfl, Nat.lt_of_lt_of_le hlt2 hg.size, hO.1, ?_⟩
      rcases hO.2 with ⟨hv, _⟩ | ⟨g0, cap, cur, hv, hbg, hh, r⟩
      · cases hv
      · have hg0 : b = g0 := by injection hv with x; injection x with x; injection x
        subst hg0
        refine .inr ⟨b, cap, cur, hv, hbg, (hg.block b hlt2 ?_).trans hh, r⟩
        intro e
        obtain ⟨o, h1, h2⟩ := hr _ e.symm
        rw [hh] at h1
        cases h1
        cases h2
/-- a writer that holds bits: its bytes lie in a block of cells -/
theorem Wtr.cells {w : World} {g b : Nat} {bs : List Bool} (h : Wtr w g b bs) (hne : bs ≠ []) : ∃ cs t fr, w.heap[b]? = some (.cells cs t fr) := by
  obtain ⟨⟨A, c, hb, hO, hA1, hA2⟩, h3⟩ := h
  rcases hO with ⟨rfl, h1, h2, h4⟩ | ⟨rfl, hlt2, hO⟩
  · rw [pk_length] at h1
    exact absurd (List.eq_nil_of_length_eq_zero (by omega)) hne
  · rcases hO.2 with ⟨hv, _⟩ | ⟨g0, cap, cur, hv, hbg, hh, r⟩
    · cases hv
    · have hg0 : b = g0 := by injection hv with x; injection x with x; injection x
      subst hg0
      exact ⟨_, _, _, hh⟩

/-- the bits of the first time -/
def thead : List Int → List Bool
  | [] => []
  | t :: _ => bitsOf (uw t) 64
theorem tput_eq (l : List Int) : tput l = thead l ++ (chg l).flatMap tbits := by cases l <;> rfl
/-- between two rounds -/
def TPI (w : World) (gw b0 Bw B : Nat) (bs : List Bool) (l : List Int) (pre : List I6S) (W : World) : Prop :=
  (∃ b', Wtr W gw b' (bs ++ thead l ++ (pre.map (·.1)).flatMap tbits) ∧ (b' = b0 ∨ (w.heap.size ≤ b' ∧ b' ≠ Bw ∧ b' ≠ B))) ∧ Kp gw b0 w W ∧ W.heap[Bw]? = some (.cells #[.pointer (some ⟨gw, 0, none⟩)] 49 (0, 0)) ∧ B < W.heap.size

theorem chgF_length : ∀ (l : List Int) (t d : Int), (chgF t d l).length = l.length := by
  intro l
  induction l with
  | nil => intro t d; rfl
  | cons x l ih => intro t d; simp [chgF, ih]
theorem chg_length (t : Int) (l : List Int) : (chg (t :: l)).length = l.length := chgF_length l t 0
theorem tbits_le (x : Int) : (tbits x).length ≤ 68 := by
  unfold tbits
  rw [List.length_append, bitsOf_length, bitsOf_length]
  have := tform_le x
  generalize tform x = k at *
  have : k = 0 ∨ k = 1 ∨ k = 2 ∨ k = 3 ∨ k = 4 := by omega
  rcases this with rfl | rfl | rfl | rfl | rfl <;> simp [tlen, twid]
theorem tbits_flat_le (l : List Int) : (l.flatMap tbits).length ≤ 68 * l.length := by
  induction l with
  | nil => simp
  | cons x l ih =>
    have := tbits_le x
    simp only [List.flatMap_cons, List.length_append, List.length_cons]
    omega

theorem putObj_other (W : World) (l k : Nat) (o : Obj) (h : k ≠ l) : (W.putObj l o).heap[k]? = W.heap[k]? := by
  simp [World.putObj, Ne.symm h]
theorem KpC.putObj (B bl : Nat) (W : World) (l : Nat) (o : Obj) (h1 : B ≠ l) (h2 : bl ≠ l) : KpC B bl W (W.putObj l o) :=
  ⟨putObj_other W l B o h1, putObj_other W l bl o h2, by simp [World.putObj]⟩
theorem TPI.own {w : World} {gw b0 Bw B D : Nat} {bs : List Bool} {l : List Int} (hD : w.heap.size ≤ D) (hBw : Bw < D) : OwnFrom D (TPI w gw b0 Bw B bs l) := by
  intro pre W W' row h hg hr
  obtain ⟨⟨b', hW, hb'⟩, hK, hBx, hBs⟩ := h
  refine ⟨⟨b', hW.own hg (fun r e => (hr r e).2), hb'⟩, hK.grown hg (fun k e => .inr (.inr (Nat.le_trans hD (hr k e).1))), ?_, Nat.lt_of_lt_of_le hBs hg.size⟩
  exact (hg.block Bw (lt_of_block hBx) (fun e => by have := (hr Bw e.symm).1; omega)).trans hBx
theorem TPI.fin {w W : World} {gw b0 Bw B D : Nat} {bs : List Bool} {l : List Int} {pre : List I6S} {o o0 : Obj} (h : TPI w gw b0 Bw B bs l pre W) (hK : W.heap[D]? = some o0) (ho : o0.isCells = false) (hD : w.heap.size ≤ D) (hS : pre.map (·.1) = chg l) :
    ∃ b', Wtr (W.putObj D o) gw b' (bs ++ tput l) ∧ (b' = b0 ∨ w.heap.size ≤ b') ∧ Kp gw b0 w (W.putObj D o) := by
  obtain ⟨⟨b', hW, hb'⟩, hKp, _⟩ := h
  have hg := grownBy_putObj' W D o
  refine ⟨b', ?_, by rcases hb' with h | h; exact .inl h; exact .inr h.1, hKp.grown hg (fun k e => by cases e; exact .inr (.inr hD))⟩
  rw [tput_eq, ← hS, ← List.append_assoc]
  exact hW.own hg (fun r e => by cases e; exact ⟨_, hK, ho⟩)

set_option maxRecDepth 100000 in
set_option maxHeartbeats 2000000 in
theorem tPut_any (w : World) (gw b0 bl : Nat) (A : Option Addr) (n c : Nat) (bs : List Bool) (l : List Int) (hW : Wtr w gw b0 bs) (hbs : bs.length ≤ 1000000000) (hn : n = l.length) (hm : n ≤ 10000) (hr : Rd w bl A (cI .i64 l)) (hbl : bl < w.heap.size) (hx : ∀ x ∈ l, I6 x) (hG : Gl w)
    (h1 : bl ≠ gw) (h2 : bl ≠ b0) (e1 : 2 ≤ gw) (e2 : 2 ≤ b0) :
    Calls Tryz.prog 19 #[.pointer (some ⟨gw, 0, none⟩), .slice A n c] w fun e w' => e = .returned (.int .i64 0) ∧ ∃ b', Wtr w' gw b' (bs ++ tput l) ∧ (b' = b0 ∨ w.heap.size ≤ b') ∧ Kp gw b0 w w' := by
  subst hn
  have hs := hG.lt
  have hgw := hW.glt
  have hb0 := hW.lt
  have hnil : ∀ W, (binOp .eql 49 (.pointer (some ⟨gw, 0, none⟩)) (.pointer none)).run Tryz.prog W = .ok (.bool false) W := fun _ => by kernel_rfl
  have hw1 : Nw w (w.alloc (.cells #[.pointer (some ⟨gw, 0, none⟩)] 49)) := (Nw.refl w).alloc' _
  refine (callsIn_wide (n := 4)).1 ?_
  refine callsIn_of_wp_marks Tryz.func19 rfl trivial ?_ rfl
  simp only [Tryz.ntmps19, List.size_toArray, List.length_cons, List.length_nil, Nat.reduceAdd, Nat.reduceSub, Array.replicate_succ, Array.replicate_zero, List.push_toArray, List.append_toArray, List.nil_append, List.cons_append]
  have HC := Lib.hid fun W A n c => changes_any W A n c
  cases l with
  | nil =>
    gi_wp2_with (first | (refine ⟨trivial, ?_⟩; gi_at_call 36; refine (callsIn_wide.2 (HC.out _ _ _ _)).mono ?_; rintro e w2 ⟨rfl, rfl⟩) | (gi_at_call 36; refine (callsIn_wide.2 (HC.out _ _ _ _)).mono ?_; rintro e w2 ⟨rfl, rfl⟩))
    have hsz : ((w.alloc (.cells #[.pointer (some ⟨gw, 0, none⟩)] 49)).alloc (.cells #[.slice A 0 c] 48)).heap.size = w.heap.size + 2 := by simp
    have hbb : ((w.alloc (.cells #[.pointer (some ⟨gw, 0, none⟩)] 49)).alloc (.cells #[.slice A 0 c] 48)).heap[w.heap.size + 1]? = some (.cells #[.slice A 0 c] 48 (0, 0)) := by
      have := heap_alloc_new (w.alloc (.cells #[.pointer (some ⟨gw, 0, none⟩)] 49)) (.cells #[.slice A 0 c] 48)
      rwa [World.size_alloc] at this
    have hW0 : Nw w ((w.alloc (.cells #[.pointer (some ⟨gw, 0, none⟩)] 49)).alloc (.cells #[.slice A 0 c] 48)) := hw1.alloc' _
    refine wpIn_rangeFunc_ownG (F := Fence.wide) (n := 4) rfl (by omega) (gf := 65) (lb := #[.pointer (some ⟨w.heap.size + 1, 0, none⟩)]) rfl trivial (enters_of Tryz.func65 (by kernel_rfl) rfl)
      (changes_stops 3 (by omega) _ (w.heap.size + 1) bl A c [] (by simp at hm ⊢; try omega) hx hbb (Rd.nil _ _ _))
      KpC.trans (fun W lq o o' h1 _ _ _ => KpC.putObj _ _ W lq o' (by have := hsz; omega) (by have := hsz; omega)) (Below.refl _ _) (fun _ => rfl)
      (TPI w gw b0 w.heap.size (w.heap.size + 1) bs []) (fun _ _ _ => False) (TPI.own (by have := hsz; omega) (by have := hsz; omega)) (fun _ _ _ _ _ hs _ _ => hs) ?start ?a1 ?assign ?body ?done ?stop
    case assign =>
      intro l x W K hK
      gi_wp2
      exact hK
    case stop =>
      intro D c pre W _ _ h _
      exact h.elim
    case start =>
      refine ⟨⟨b0, ?_, .inl rfl⟩, hW0.kp _ _, ?_, by rw [hsz]; omega⟩
      · simpa [thead] using hW.nw hW0
      · exact (Below.heap_alloc _ _ _ (by simp)).trans (heap_alloc_new w _)
    case body =>
      intro l pre x W _ hlt
      exact absurd hlt (Nat.not_lt_zero _)
    case done =>
      intro D ys W hD hS hI hK
      gi_wp2
      refine ⟨by simp, .inl ⟨_, _, rfl, run_takeDeferred hK, ?_⟩⟩
      exact ⟨_, results_tmp rfl _ _ _, rfl, TPI.fin hI hK rfl (by have := hsz; omega) hS⟩
  | cons t l =>
    gi_wp2
    refine wpIn_wide.2 ?_
    have hux : IntKind.u64.wrap t = ((uw t : Nat) : Int) := by rw [IntKind.wrap_u64]; unfold uw; omega
    obtain ⟨o, rfl, _, hc0⟩ := hr.get (k := 0) (by simp)
    simp only [Nat.add_zero] at hc0
    have hc0' : w.cell? ⟨bl, o, none⟩ = some (.int .i64 t) := hc0
    have hs1 : (w.alloc (.cells #[.pointer (some ⟨gw, 0, none⟩)] 49)).heap.size = w.heap.size + 1 := by simp
    have hbx0 : (w.alloc (.cells #[.pointer (some ⟨gw, 0, none⟩)] 49)).heap[w.heap.size]? = some (.cells #[.pointer (some ⟨gw, 0, none⟩)] 49) := heap_alloc_new w _
    generalize hw1' : w.alloc (.cells #[.pointer (some ⟨gw, 0, none⟩)] 49) = w1 at *
    have hd0 : ∀ p : Gp, (grow (w1.drewN p.n) p.os).cell? ⟨w.heap.size, 0, none⟩ = some (.pointer (some ⟨gw, 0, none⟩)) := cell_gr (by simp only; omega) (by simp [World.cell?, hbx0])
    have hd1 : ∀ p : Gp, (grow (w1.drewN p.n) p.os).cell? ⟨bl, o, none⟩ = some (.int .i64 t) := cell_gr (by simp only; omega) (cell_old hw1 hbl hc0')
    refine wp_region_gr_tail 5 (by kernel_rfl) (by kernel_rfl) ?_
    simp only [List.take_succ_cons, List.take_zero, List.drop_succ_cons, List.drop_zero]
    repeat (quiet_step (fail))
    refine wpQuiet_nil ?_
    rintro _ ⟨p, rfl⟩
    generalize hw2 : grow (w1.drewN p.n) p.os = w2
    have hn2 : Nw w1 w2 := by rw [← hw2]; exact Gr.nw ⟨p, rfl⟩
    have HB := Lib.hid (WBits_any w2 gw b0 bs (uw t) 64 (hW.nw (hw1.trans hn2)) (by omega) (uw_lt t) (by omega))
    clear hd0 hd1 hw2
    go_wp2_with (go_at_call 18; refine HB.out.mono ?_; rintro e w3 ⟨rfl, b3, hW3, hb3, hK3⟩)
    gi_wp2_with (first | (refine ⟨trivial, ?_⟩; gi_at_call 36; refine (callsIn_wide.2 (HC.out _ _ _ _)).mono ?_; rintro e w4 ⟨rfl, rfl⟩) | (gi_at_call 36; refine (callsIn_wide.2 (HC.out _ _ _ _)).mono ?_; rintro e w4 ⟨rfl, rfl⟩))
    have hsz3 : w.heap.size + 1 ≤ w3.heap.size := by have := hn2.size; have := hK3.size; omega
    have hsz : (w3.alloc (.cells #[.slice (some ⟨bl, o, none⟩) (l.length + 1) c] 48)).heap.size = w3.heap.size + 1 := by simp
    have hbb : (w3.alloc (.cells #[.slice (some ⟨bl, o, none⟩) (l.length + 1) c] 48)).heap[w3.heap.size]? = some (.cells #[.slice (some ⟨bl, o, none⟩) (l.length + 1) c] 48 (0, 0)) := heap_alloc_new w3 _
    have hK1 : Kp gw b0 w w3 := ((hw1.trans hn2).kp gw b0).trans hK3 (.inl rfl) (.inr (.inl rfl))
    have hK4 : Kp gw b0 w (w3.alloc (.cells #[.slice (some ⟨bl, o, none⟩) (l.length + 1) c] 48)) := hK1.alloc' _
    have hrd := hr.kp hK4 h1 h2
    have hbx3 : w3.heap[w.heap.size]? = some (.cells #[.pointer (some ⟨gw, 0, none⟩)] 49) := (hK3.block _ (by have := hn2.size; omega) (by omega) (by omega)).trans ((hn2.block _ (by omega)).trans hbx0)
    refine wpIn_rangeFunc_ownG (F := Fence.wide) (n := 4) rfl (by omega) (gf := 65) (lb := #[.pointer (some ⟨w3.heap.size, 0, none⟩)]) rfl trivial (enters_of Tryz.func65 (by kernel_rfl) rfl)
      (changes_stops 3 (by omega) _ w3.heap.size bl (some ⟨bl, o, none⟩) c (t :: l) (by simp at hm ⊢; try omega) hx hbb hrd)
      KpC.trans (fun W lq o o' h1 _ _ _ => KpC.putObj _ _ W lq o' (by have := hsz; omega) (by have := hsz; omega)) (Below.refl _ _) (fun _ => rfl)
      (TPI w gw b0 w.heap.size w3.heap.size bs (t :: l)) (fun _ _ _ => False) (TPI.own (by have := hsz; omega) (by have := hsz; omega)) (fun _ _ _ _ _ hs _ _ => hs) ?startc ?a2 ?assignc ?bodyc ?donec ?stopc
    case assignc =>
      intro l x W K hK
      gi_wp2
      exact hK
    case stopc =>
      intro D c pre W _ _ h _
      exact h.elim
    case startc =>
      refine ⟨⟨b3, ?_, ?_⟩, hK4, (Below.heap_alloc _ _ _ (by omega)).trans hbx3, by rw [hsz]; omega⟩
      · simpa [thead] using hW3.nw ((Nw.refl _).alloc' (.cells #[.slice (some ⟨bl, o, none⟩) (l.length + 1) c] 48))
      · have := hW3.lt
        have := hn2.size
        rcases hb3 with h | h
        · exact .inl h
        · right; omega
    case donec =>
      intro D ys W hD hS hI hK
      gi_wp2
      refine ⟨by simp, .inl ⟨_, _, rfl, run_takeDeferred hK, ?_⟩⟩
      exact ⟨_, results_tmp rfl _ _ _, rfl, TPI.fin hI hK rfl (by have := hsz; omega) hS⟩
    case bodyc =>
      intro lq pre x W hI hlt
      obtain ⟨⟨b', hWt, hb'⟩, hKw, hbx, hBs⟩ := hI
      have hGW : Gl W := hG.kp hKw e1 e2
      have hxn : IntKind.u64.wrap x.1 = ((uw x.1 : Nat) : Int) := by rw [IntKind.wrap_u64]; unfold uw; omega
      have hxl := uw_lt x.1
      have hlen : pre.length ≤ l.length := by
        have h1 : (chg (t :: l)).length = l.length := chg_length t l
        omega
      have hpl : ((pre.map (·.1)).flatMap tbits).length ≤ 68 * pre.length := by
        have := tbits_flat_le (pre.map (·.1))
        simpa using this
      have hcs := hWt.cells (by intro h; have := congrArg List.length h; simp [thead, bitsOf_length] at this)
      have hlt1 : bs.length + 64 + ((pre.map (·.1)).flatMap tbits).length ≤ 1000700000 := by simp at hm; omega
      have htl : (bs ++ thead (t :: l) ++ (pre.map (·.1)).flatMap tbits).length = bs.length + 64 + ((pre.map (·.1)).flatMap tbits).length := by simp [thead, bitsOf_length]; omega
      have hcb : W.cell? ⟨w.heap.size, 0, none⟩ = some (.pointer (some ⟨gw, 0, none⟩)) := by simp [World.cell?, hbx]
      have hbl' := lt_of_block hbx
      have hn1 : w.heap.size ≠ gw := by omega
      have hn2 : w.heap.size ≠ b' := by rcases hb' with h | h <;> omega
      have hFo := formOf_any W x.1 x.2 hGW
      have hk5 : tform x.1 = 0 ∨ tform x.1 = 1 ∨ tform x.1 = 2 ∨ tform x.1 = 3 ∨ tform x.1 = 4 := by have := tform_le x.1; omega
      have hmap : (List.map (·.1) (pre ++ [x])).flatMap tbits = (pre.map (·.1)).flatMap tbits ++ tbits x.1 := by simp
      have fin : ∀ (w5 : World) (b5 : Nat) (ac : Act), Wtr w5 gw b5 (bs ++ thead (t :: l) ++ (pre.map (·.1)).flatMap tbits ++ bitsOf (tpre (tform x.1)) (tlen (tform x.1)) ++ bitsOf (uw x.1) (twid (tform x.1))) → (b5 = b' ∨ W.heap.size ≤ b5) → Kp gw b' W w5 →
          ownPostG ((w3.alloc (.cells #[.slice (some ⟨bl, o, none⟩) (l.length + 1) c] 48)).heap.size) (KpC w3.heap.size bl) (TPI w gw b0 w.heap.size w3.heap.size bs (t :: l)) (fun _ _ _ => False) (pre ++ [x]) W .normal ac w5 := by
        intro w5 b5 ac h1' h2' h3'
        have hWs := hKw.size
        refine ⟨⟨h3'.size, fun k o hk ho hoc => ?_⟩, ⟨h3'.block _ hBs (by omega) (by rcases hb' with h | h <;> omega), h3'.block _ (by omega) h1 (by rcases hb' with h | h <;> omega), h3'.size⟩, ⟨b5, ?_, ?_⟩, hKw.trans h3' (.inl rfl) (by rcases hb' with h | h; exact .inr (.inl h); exact .inr (.inr h.1)), (h3'.block _ hbl' hn1 hn2).trans hbx, Nat.lt_of_lt_of_le hBs h3'.size⟩
        · refine (h3'.block k (lt_of_block ho) ?_ ?_).trans ho
          · rintro rfl
            omega
          · rintro rfl
            obtain ⟨cs, ty, fr, hcs⟩ := hcs
            rw [hcs] at ho
            cases ho
            cases hoc
        · rw [hmap]
          rw [show tbits x.1 = bitsOf (tpre (tform x.1)) (tlen (tform x.1)) ++ bitsOf (uw x.1) (twid (tform x.1)) from rfl]
          simpa only [List.append_assoc] using h1'
        · rcases h2' with rfl | h2'
          · exact hb'
          · right; omega
      rcases hk5 with hk | hk | hk | hk | hk
      · rw [hk] at hFo fin
        have HFo := Lib.hid hFo
        have HFin := Lib.hid fin
        clear hFo fin
        gi_wp2_with fail
        refine ⟨trivial, ?_⟩
        refine (CallsIn.inRound lq (callsIn_wide.2 HFo.out)).mono ?_
        rintro e w2 ⟨rfl, hgr⟩
        have hn2' := hgr.nw
        have hsw2 := hn2'.size
        have hc0 := (hGW.nw hn2').forms 0 _ rfl
        have hc1 := (hGW.nw hn2').forms 1 _ rfl
        have hc2 := (hGW.nw hn2').forms 2 _ rfl
        have hcb2 := cell_old (v := .pointer (some ⟨gw, 0, none⟩)) (a := ⟨w.heap.size, 0, none⟩) hn2' hbl' hcb
        have hltn : w.heap.size < w2.heap.size := by omega
        have hnen : ¬ w.heap.size = w2.heap.size := by omega
        have hcb3 : (w2.alloc (.cells #[.int .u64 0, .int .i64 1, .int .i64 0] 94)).cell? ⟨w.heap.size, 0, none⟩ = some (.pointer (some ⟨gw, 0, none⟩)) := cell_old (a := ⟨w.heap.size, 0, none⟩) ((Nw.refl w2).alloc' _) hltn hcb2
        have hn3' : Nw W (w2.alloc (.cells #[.int .u64 0, .int .i64 1, .int .i64 0] 94)) := hn2'.alloc' _
        have HB1 := Lib.hid (WBits_any _ gw b' _ 0 1 (hWt.nw hn3') (by omega) (by omega) (by omega))
        clear hgr
        gi_wp2_with fail
        refine ⟨trivial, ?_⟩
        refine (CallsIn.inRound lq (callsIn_wide.2 HB1.out)).mono ?_
        rintro e w4 ⟨rfl, b4, hW4, hb4, hK4'⟩
        have hsz4 : w2.heap.size + 1 ≤ w4.heap.size := by have := hK4'.size; simpa using this
        have hfb : w4.heap[w2.heap.size]? = some (.cells #[.int .u64 0, .int .i64 1, .int .i64 0] 94 (0, 0)) := (hK4'.block _ (by simp) (by have := hWt.glt; omega) (by have := hWt.lt; omega)).trans (heap_alloc_new w2 _)
        have hc4 : w4.cell? ⟨w2.heap.size, 2, none⟩ = some (.int .i64 0) := by simp [World.cell?, hfb]
        have hcb4 : w4.cell? ⟨w.heap.size, 0, none⟩ = some (.pointer (some ⟨gw, 0, none⟩)) := (World.cell?_of_block (hK4'.block _ (by simp; omega) hn1 hn2)).trans (cell_old (a := ⟨w.heap.size, 0, none⟩) hn3' hbl' hcb)
        have HB2 := Lib.hid (WBits_any w4 gw b4 _ (uw x.1) 0 hW4 (by omega) hxl (by rw [List.length_append, bitsOf_length]; omega))
        have HK4 := Lib.hid hK4'
        clear hc0 hc1 hc2 hcb2 hcb3 hfb hK4'
        gi_wp2_with fail
        refine ⟨trivial, ?_⟩
        refine (CallsIn.inRound lq (callsIn_wide.2 HB2.out)).mono ?_
        rintro e w5 ⟨rfl, b5, hW5, hb5, hK5⟩
        gi_wp2
        refine HFin.out _ b5 _ hW5 ?_ ?_
        · rcases hb5 with rfl | hb5
          · rcases hb4 with rfl | hb4
            · exact .inl rfl
            · right; have : w2.heap.size + 1 ≤ b5 := (by simpa using hb4); omega
          · right; omega
        · refine ((hn3'.kp gw b').trans HK4.out (.inl rfl) (.inr (.inl rfl))).trans hK5 (.inl rfl) ?_
          rcases hb4 with rfl | hb4
          · exact .inr (.inl rfl)
          · right; right; have : w2.heap.size + 1 ≤ b4 := (by simpa using hb4); omega
      · rw [hk] at hFo fin
        have HFo := Lib.hid hFo
        have HFin := Lib.hid fin
        clear hFo fin
        gi_wp2_with fail
        refine ⟨trivial, ?_⟩
        refine (CallsIn.inRound lq (callsIn_wide.2 HFo.out)).mono ?_
        rintro e w2 ⟨rfl, hgr⟩
        have hn2' := hgr.nw
        have hsw2 := hn2'.size
        have hc0 := (hGW.nw hn2').forms 3 _ rfl
        have hc1 := (hGW.nw hn2').forms 4 _ rfl
        have hc2 := (hGW.nw hn2').forms 5 _ rfl
        have hcb2 := cell_old (v := .pointer (some ⟨gw, 0, none⟩)) (a := ⟨w.heap.size, 0, none⟩) hn2' hbl' hcb
        have hltn : w.heap.size < w2.heap.size := by omega
        have hnen : ¬ w.heap.size = w2.heap.size := by omega
        have hcb3 : (w2.alloc (.cells #[.int .u64 2, .int .i64 2, .int .i64 7] 94)).cell? ⟨w.heap.size, 0, none⟩ = some (.pointer (some ⟨gw, 0, none⟩)) := cell_old (a := ⟨w.heap.size, 0, none⟩) ((Nw.refl w2).alloc' _) hltn hcb2
        have hn3' : Nw W (w2.alloc (.cells #[.int .u64 2, .int .i64 2, .int .i64 7] 94)) := hn2'.alloc' _
        have HB1 := Lib.hid (WBits_any _ gw b' _ 2 2 (hWt.nw hn3') (by omega) (by omega) (by omega))
        clear hgr
        gi_wp2_with fail
        refine ⟨trivial, ?_⟩
        refine (CallsIn.inRound lq (callsIn_wide.2 HB1.out)).mono ?_
        rintro e w4 ⟨rfl, b4, hW4, hb4, hK4'⟩
        have hsz4 : w2.heap.size + 1 ≤ w4.heap.size := by have := hK4'.size; simpa using this
        have hfb : w4.heap[w2.heap.size]? = some (.cells #[.int .u64 2, .int .i64 2, .int .i64 7] 94 (0, 0)) := (hK4'.block _ (by simp) (by have := hWt.glt; omega) (by have := hWt.lt; omega)).trans (heap_alloc_new w2 _)
        have hc4 : w4.cell? ⟨w2.heap.size, 2, none⟩ = some (.int .i64 7) := by simp [World.cell?, hfb]
        have hcb4 : w4.cell? ⟨w.heap.size, 0, none⟩ = some (.pointer (some ⟨gw, 0, none⟩)) := (World.cell?_of_block (hK4'.block _ (by simp; omega) hn1 hn2)).trans (cell_old (a := ⟨w.heap.size, 0, none⟩) hn3' hbl' hcb)
        have HB2 := Lib.hid (WBits_any w4 gw b4 _ (uw x.1) 7 hW4 (by omega) hxl (by rw [List.length_append, bitsOf_length]; omega))
        have HK4 := Lib.hid hK4'
        clear hc0 hc1 hc2 hcb2 hcb3 hfb hK4'
        gi_wp2_with fail
        refine ⟨trivial, ?_⟩
        refine (CallsIn.inRound lq (callsIn_wide.2 HB2.out)).mono ?_
        rintro e w5 ⟨rfl, b5, hW5, hb5, hK5⟩
        gi_wp2
        refine HFin.out _ b5 _ hW5 ?_ ?_
        · rcases hb5 with rfl | hb5
          · rcases hb4 with rfl | hb4
            · exact .inl rfl
            · right; have : w2.heap.size + 1 ≤ b5 := (by simpa using hb4); omega
          · right; omega
        · refine ((hn3'.kp gw b').trans HK4.out (.inl rfl) (.inr (.inl rfl))).trans hK5 (.inl rfl) ?_
          rcases hb4 with rfl | hb4
          · exact .inr (.inl rfl)
          · right; right; have : w2.heap.size + 1 ≤ b4 := (by simpa using hb4); omega
      · rw [hk] at hFo fin
        have HFo := Lib.hid hFo
        have HFin := Lib.hid fin
        clear hFo fin
        gi_wp2_with fail
        refine ⟨trivial, ?_⟩
        refine (CallsIn.inRound lq (callsIn_wide.2 HFo.out)).mono ?_
        rintro e w2 ⟨rfl, hgr⟩
        have hn2' := hgr.nw
        have hsw2 := hn2'.size
        have hc0 := (hGW.nw hn2').forms 6 _ rfl
        have hc1 := (hGW.nw hn2').forms 7 _ rfl
        have hc2 := (hGW.nw hn2').forms 8 _ rfl
        have hcb2 := cell_old (v := .pointer (some ⟨gw, 0, none⟩)) (a := ⟨w.heap.size, 0, none⟩) hn2' hbl' hcb
        have hltn : w.heap.size < w2.heap.size := by omega
        have hnen : ¬ w.heap.size = w2.heap.size := by omega
        have hcb3 : (w2.alloc (.cells #[.int .u64 6, .int .i64 3, .int .i64 12] 94)).cell? ⟨w.heap.size, 0, none⟩ = some (.pointer (some ⟨gw, 0, none⟩)) := cell_old (a := ⟨w.heap.size, 0, none⟩) ((Nw.refl w2).alloc' _) hltn hcb2
        have hn3' : Nw W (w2.alloc (.cells #[.int .u64 6, .int .i64 3, .int .i64 12] 94)) := hn2'.alloc' _
        have HB1 := Lib.hid (WBits_any _ gw b' _ 6 3 (hWt.nw hn3') (by omega) (by omega) (by omega))
        clear hgr
        gi_wp2_with fail
        refine ⟨trivial, ?_⟩
        refine (CallsIn.inRound lq (callsIn_wide.2 HB1.out)).mono ?_
        rintro e w4 ⟨rfl, b4, hW4, hb4, hK4'⟩
        have hsz4 : w2.heap.size + 1 ≤ w4.heap.size := by have := hK4'.size; simpa using this
        have hfb : w4.heap[w2.heap.size]? = some (.cells #[.int .u64 6, .int .i64 3, .int .i64 12] 94 (0, 0)) := (hK4'.block _ (by simp) (by have := hWt.glt; omega) (by have := hWt.lt; omega)).trans (heap_alloc_new w2 _)
        have hc4 : w4.cell? ⟨w2.heap.size, 2, none⟩ = some (.int .i64 12) := by simp [World.cell?, hfb]
        have hcb4 : w4.cell? ⟨w.heap.size, 0, none⟩ = some (.pointer (some ⟨gw, 0, none⟩)) := (World.cell?_of_block (hK4'.block _ (by simp; omega) hn1 hn2)).trans (cell_old (a := ⟨w.heap.size, 0, none⟩) hn3' hbl' hcb)
        have HB2 := Lib.hid (WBits_any w4 gw b4 _ (uw x.1) 12 hW4 (by omega) hxl (by rw [List.length_append, bitsOf_length]; omega))
        have HK4 := Lib.hid hK4'
        clear hc0 hc1 hc2 hcb2 hcb3 hfb hK4'
        gi_wp2_with fail
        refine ⟨trivial, ?_⟩
        refine (CallsIn.inRound lq (callsIn_wide.2 HB2.out)).mono ?_
        rintro e w5 ⟨rfl, b5, hW5, hb5, hK5⟩
        gi_wp2
        refine HFin.out _ b5 _ hW5 ?_ ?_
        · rcases hb5 with rfl | hb5
          · rcases hb4 with rfl | hb4
            · exact .inl rfl
            · right; have : w2.heap.size + 1 ≤ b5 := (by simpa using hb4); omega
          · right; omega
        · refine ((hn3'.kp gw b').trans HK4.out (.inl rfl) (.inr (.inl rfl))).trans hK5 (.inl rfl) ?_
          rcases hb4 with rfl | hb4
          · exact .inr (.inl rfl)
          · right; right; have : w2.heap.size + 1 ≤ b4 := (by simpa using hb4); omega
      · rw [hk] at hFo fin
        have HFo := Lib.hid hFo
        have HFin := Lib.hid fin
        clear hFo fin
        gi_wp2_with fail
        refine ⟨trivial, ?_⟩
        refine (CallsIn.inRound lq (callsIn_wide.2 HFo.out)).mono ?_
        rintro e w2 ⟨rfl, hgr⟩
        have hn2' := hgr.nw
        have hsw2 := hn2'.size
        have hc0 := (hGW.nw hn2').forms 9 _ rfl
        have hc1 := (hGW.nw hn2').forms 10 _ rfl
        have hc2 := (hGW.nw hn2').forms 11 _ rfl
        have hcb2 := cell_old (v := .pointer (some ⟨gw, 0, none⟩)) (a := ⟨w.heap.size, 0, none⟩) hn2' hbl' hcb
        have hltn : w.heap.size < w2.heap.size := by omega
        have hnen : ¬ w.heap.size = w2.heap.size := by omega
        have hcb3 : (w2.alloc (.cells #[.int .u64 14, .int .i64 4, .int .i64 32] 94)).cell? ⟨w.heap.size, 0, none⟩ = some (.pointer (some ⟨gw, 0, none⟩)) := cell_old (a := ⟨w.heap.size, 0, none⟩) ((Nw.refl w2).alloc' _) hltn hcb2
        have hn3' : Nw W (w2.alloc (.cells #[.int .u64 14, .int .i64 4, .int .i64 32] 94)) := hn2'.alloc' _
        have HB1 := Lib.hid (WBits_any _ gw b' _ 14 4 (hWt.nw hn3') (by omega) (by omega) (by omega))
        clear hgr
        gi_wp2_with fail
        refine ⟨trivial, ?_⟩
        refine (CallsIn.inRound lq (callsIn_wide.2 HB1.out)).mono ?_
        rintro e w4 ⟨rfl, b4, hW4, hb4, hK4'⟩
        have hsz4 : w2.heap.size + 1 ≤ w4.heap.size := by have := hK4'.size; simpa using this
        have hfb : w4.heap[w2.heap.size]? = some (.cells #[.int .u64 14, .int .i64 4, .int .i64 32] 94 (0, 0)) := (hK4'.block _ (by simp) (by have := hWt.glt; omega) (by have := hWt.lt; omega)).trans (heap_alloc_new w2 _)
        have hc4 : w4.cell? ⟨w2.heap.size, 2, none⟩ = some (.int .i64 32) := by simp [World.cell?, hfb]
        have hcb4 : w4.cell? ⟨w.heap.size, 0, none⟩ = some (.pointer (some ⟨gw, 0, none⟩)) := (World.cell?_of_block (hK4'.block _ (by simp; omega) hn1 hn2)).trans (cell_old (a := ⟨w.heap.size, 0, none⟩) hn3' hbl' hcb)
        have HB2 := Lib.hid (WBits_any w4 gw b4 _ (uw x.1) 32 hW4 (by omega) hxl (by rw [List.length_append, bitsOf_length]; omega))
        have HK4 := Lib.hid hK4'
        clear hc0 hc1 hc2 hcb2 hcb3 hfb hK4'
        gi_wp2_with fail
        refine ⟨trivial, ?_⟩
        refine (CallsIn.inRound lq (callsIn_wide.2 HB2.out)).mono ?_
        rintro e w5 ⟨rfl, b5, hW5, hb5, hK5⟩
        gi_wp2
        refine HFin.out _ b5 _ hW5 ?_ ?_
        · rcases hb5 with rfl | hb5
          · rcases hb4 with rfl | hb4
            · exact .inl rfl
            · right; have : w2.heap.size + 1 ≤ b5 := (by simpa using hb4); omega
          · right; omega
        · refine ((hn3'.kp gw b').trans HK4.out (.inl rfl) (.inr (.inl rfl))).trans hK5 (.inl rfl) ?_
          rcases hb4 with rfl | hb4
          · exact .inr (.inl rfl)
          · right; right; have : w2.heap.size + 1 ≤ b4 := (by simpa using hb4); omega
      · rw [hk] at hFo fin
        have HFo := Lib.hid hFo
        have HFin := Lib.hid fin
        clear hFo fin
        gi_wp2_with fail
        refine ⟨trivial, ?_⟩
        refine (CallsIn.inRound lq (callsIn_wide.2 HFo.out)).mono ?_
        rintro e w2 ⟨rfl, hgr⟩
        have hn2' := hgr.nw
        have hsw2 := hn2'.size
        have hc0 := (hGW.nw hn2').forms 12 _ rfl
        have hc1 := (hGW.nw hn2').forms 13 _ rfl
        have hc2 := (hGW.nw hn2').forms 14 _ rfl
        have hcb2 := cell_old (v := .pointer (some ⟨gw, 0, none⟩)) (a := ⟨w.heap.size, 0, none⟩) hn2' hbl' hcb
        have hltn : w.heap.size < w2.heap.size := by omega
        have hnen : ¬ w.heap.size = w2.heap.size := by omega
        have hcb3 : (w2.alloc (.cells #[.int .u64 15, .int .i64 4, .int .i64 64] 94)).cell? ⟨w.heap.size, 0, none⟩ = some (.pointer (some ⟨gw, 0, none⟩)) := cell_old (a := ⟨w.heap.size, 0, none⟩) ((Nw.refl w2).alloc' _) hltn hcb2
        have hn3' : Nw W (w2.alloc (.cells #[.int .u64 15, .int .i64 4, .int .i64 64] 94)) := hn2'.alloc' _
        have HB1 := Lib.hid (WBits_any _ gw b' _ 15 4 (hWt.nw hn3') (by omega) (by omega) (by omega))
        clear hgr
        gi_wp2_with fail
        refine ⟨trivial, ?_⟩
        refine (CallsIn.inRound lq (callsIn_wide.2 HB1.out)).mono ?_
        rintro e w4 ⟨rfl, b4, hW4, hb4, hK4'⟩
        have hsz4 : w2.heap.size + 1 ≤ w4.heap.size := by have := hK4'.size; simpa using this
        have hfb : w4.heap[w2.heap.size]? = some (.cells #[.int .u64 15, .int .i64 4, .int .i64 64] 94 (0, 0)) := (hK4'.block _ (by simp) (by have := hWt.glt; omega) (by have := hWt.lt; omega)).trans (heap_alloc_new w2 _)
        have hc4 : w4.cell? ⟨w2.heap.size, 2, none⟩ = some (.int .i64 64) := by simp [World.cell?, hfb]
        have hcb4 : w4.cell? ⟨w.heap.size, 0, none⟩ = some (.pointer (some ⟨gw, 0, none⟩)) := (World.cell?_of_block (hK4'.block _ (by simp; omega) hn1 hn2)).trans (cell_old (a := ⟨w.heap.size, 0, none⟩) hn3' hbl' hcb)
        have HB2 := Lib.hid (WBits_any w4 gw b4 _ (uw x.1) 64 hW4 (by omega) hxl (by rw [List.length_append, bitsOf_length]; omega))
        have HK4 := Lib.hid hK4'
        clear hc0 hc1 hc2 hcb2 hcb3 hfb hK4'
        gi_wp2_with fail
        refine ⟨trivial, ?_⟩
        refine (CallsIn.inRound lq (callsIn_wide.2 HB2.out)).mono ?_
        rintro e w5 ⟨rfl, b5, hW5, hb5, hK5⟩
        gi_wp2
        refine HFin.out _ b5 _ hW5 ?_ ?_
        · rcases hb5 with rfl | hb5
          · rcases hb4 with rfl | hb4
            · exact .inl rfl
            · right; have : w2.heap.size + 1 ≤ b5 := (by simpa using hb4); omega
          · right; omega
        · refine ((hn3'.kp gw b').trans HK4.out (.inl rfl) (.inr (.inl rfl))).trans hK5 (.inl rfl) ?_
          rcases hb4 with rfl | hb4
          · exact .inr (.inl rfl)
          · right; right; have : w2.heap.size + 1 ≤ b4 := (by simpa using hb4); omega
end Go.Proofs.YtjepaneniodbpaaGreatDoor
