/- ModelForgetsOrder: model.Normalize does not depend on the order of the series and of their samples, and does not change a block. No condition. -/
import Derived.Test.YtoogadidbbpplaaGreatRows
import Derived.Test.YtoogadidbbpplaaGreatAlive
import Derived.Test.YtoogadidbbpplaaGreatTurn
import Derived.ProofKit
import Derived.OpenShut
import Derived.ShutString
import Derived.ChangeOld
import Derived.Below
namespace Go.Proofs.YtoogadidbbpplaaGreat
open Go Go.RowKit Go.Sort Go.Shelf

theorem Fits.lens {l : List Ser} (h : Fits l) : ∀ s ∈ l, s.labs.length ≤ 100000 ∧ s.smps.length ≤ 100000 := by
  intro s hs
  have h1 := h.2.2.1
  have h2 := le_sum hs
  have h3 := h.2.1
  have : s.labs.length ≤ (labsOf l).length := by
    obtain ⟨a, b, rfl⟩ := List.append_of_mem hs
    unfold labsOf
    rw [List.flatMap_append, List.flatMap_cons, List.length_append, List.length_append]
    omega
  exact ⟨by omega, by omega⟩
/-- the lists of a result are no longer than those of the argument -/
theorem Blk1.lens {z l : List Ser} (h : Blk1 (z.map valS) (l.map valS)) (hz : ∀ s ∈ z, s.labs.length ≤ 100000 ∧ s.smps.length ≤ 100000) : ∀ s ∈ l, s.labs.length ≤ 100000 ∧ s.smps.length ≤ 100000 := by
  intro s hs
  have hm : valS s ∈ l.map valS := List.mem_map.2 ⟨s, hs, rfl⟩
  constructor
  · obtain ⟨x, hx, hp⟩ := h.labs _ hm
    obtain ⟨t, ht, rfl⟩ := List.mem_map.1 hx
    have := (hz t ht).1
    have e := hp.length_eq
    simp only at e
    omega
  · obtain ⟨x, hx, hp⟩ := h.smps _ hm
    obtain ⟨t, ht, rfl⟩ := List.mem_map.1 hx
    have := (hz t ht).2
    have e := hp.length_eq
    simp only at e
    omega
theorem Blk1.sum_ {z l : List Ser} (h : Blk1 (z.map valS) (l.map valS)) : smpSum l = smpSum z := by
  have := h.sum
  rw [List.map_map, List.map_map] at this
  exact this
theorem Blk1.blkE_ {V : List Val} {l : List Ser} (h : Blk1 V (l.map valS)) : blkE l = 0 := by
  rw [blkE_zero (fun s hs => by rw [serE_val]; exact h.ser _ (List.mem_map.2 ⟨s, hs, rfl⟩)), asE_val]
  exact h.asc
theorem small_of {s : Ser} (h : s.labs.length ≤ 100000 ∧ s.smps.length ≤ 100000) : Small s := ⟨by omega, by omega⟩

section
variable {α : Type} {f h : α → Value}
theorem c2_drop : ∀ (l : List α) (i : Nat), c2 f h (l.drop i) = (c2 f h l).drop (i * 2)
  | [], i => by simp [c2]
  | x :: l, 0 => by simp
  | x :: l, i + 1 => by
    rw [List.drop_succ_cons, c2_drop l i, show c2 f h (x :: l) = f x :: h x :: c2 f h l from rfl, show (i + 1) * 2 = i * 2 + 1 + 1 by omega, List.drop_succ_cons, List.drop_succ_cons]
theorem c2_take : ∀ (l : List α) (i : Nat), c2 f h (l.take i) = (c2 f h l).take (i * 2)
  | [], i => by simp [c2]
  | x :: l, 0 => by simp [c2]
  | x :: l, i + 1 => by
    rw [List.take_succ_cons, show c2 f h (x :: l.take i) = f x :: h x :: c2 f h (l.take i) from rfl, c2_take l i, show c2 f h (x :: l) = f x :: h x :: c2 f h l from rfl, show (i + 1) * 2 = i * 2 + 1 + 1 by omega, List.take_succ_cons, List.take_succ_cons]
theorem rd_from {w : World} {b o i : Nat} {l : List α} (hr : Rd w b (some ⟨b, o, none⟩) (c2 f h l)) : Rd w b (some ⟨b, o + i * 2, none⟩) (c2 f h (l.drop i)) := by
  rw [c2_drop]
  rcases hr with h0 | ⟨o', e, hlt, hc⟩
  · exact .inl (by rw [h0]; simp)
  · cases e
    refine .inr ⟨_, rfl, hlt, fun j u hu => ?_⟩
    rw [List.getElem?_drop] at hu
    have := hc _ _ hu
    rwa [← Nat.add_assoc] at this
theorem c2_app (M R : List α) (x : α) : c2 f h (M ++ x :: R) = c2 f h M ++ f x :: h x :: c2 f h R := by
  unfold c2
  rw [List.flatMap_append, List.flatMap_cons]
  rfl
theorem c2_setB {M R : List α} {x z : α} {k : Nat} (hk : M.length = k) (he : f x = f z) : (c2 f h (M ++ x :: R)).set (k * 2 + 1) (h z) = c2 f h (M ++ z :: R) := by
  have hl : (c2 f h M).length = 2 * M.length := c2_length M
  rw [c2_app, c2_app, List.set_append_right _ _ (by omega), show k * 2 + 1 - (c2 f h M).length = 0 + 1 by omega, List.set_cons_succ, List.set_cons_zero, he]
end
/-- a series of the turned list: its labels as they came in, its samples in a row of their own -/
structure Fl (w wr : World) (bm : Nat) (s : Ser) : Prop where
  lab : InLab w s.bl s.al s.labs.length s.cl s.labs
  smp : InSmp wr s.bs s.as_ s.smps.length s.cs s.smps
  bs : s.bs ≠ bm ∧ s.bs < wr.heap.size
section
variable {w wr w' : World} {bm q : Nat} {s : Ser}
theorem Fl.nw (h : Fl w wr bm s) (hN : Nw wr w') : Fl w w' bm s := ⟨h.lab, h.smp.nw hN, h.bs.1, Nat.lt_of_lt_of_le h.bs.2 hN.size⟩
theorem Fl.kp (h : Fl w wr bm s) (hk : Kp q q wr w') (hq : s.bs ≠ q) : Fl w w' bm s := ⟨h.lab, h.smp.kp hk hq hq, h.bs.1, Nat.lt_of_lt_of_le h.bs.2 hk.size⟩
theorem Fl.ok (h : Fl w wr bm s) (hN : Nw w wr) : SerOk wr s := ⟨h.lab.nw hN, h.smp⟩
end
/-- a clone's row lies in a block that is there, or in b -/
theorem clone_there {w w' : World} {g n c b : Nat} {e : TypeId} {A : Option Addr} {xs : List Value} {l : List Smpl} (hO : Ow w' g e 2 A n c xs) (hc : (A = none ∧ l = []) ∨ (A = some ⟨g, 0, none⟩ ∧ w.heap.size ≤ g)) : ∃ g', Ow w' g' e 2 A n c xs ∧ ((A = none ∧ g' = b) ∨ (w.heap.size ≤ g' ∧ g' < w'.heap.size)) := by
  rcases hc with ⟨rfl, _⟩ | ⟨rfl, hg⟩
  · rcases hO with ⟨_, rfl, rfl, rfl⟩ | ⟨h, _⟩
    · exact ⟨b, Ow.nil _ _ _ _, .inl ⟨rfl, rfl⟩⟩
    · cases h
  · obtain ⟨cs, hh, _⟩ := hO.heap
    exact ⟨g, hO, .inr ⟨hg, lt_of_block hh⟩⟩
theorem RevS0_any (w : World) (g n c : Nat) (A : Option Addr) (l : List Smpl) (hn : n = l.length) (hO : Ow w g 41 2 A n c (cS l)) :
    Calls Tryz.prog 13 #[.slice A n c] w fun e w' => e = .returned (.tuple #[]) ∧ Ow w' g 41 2 A n c (cS l.reverse) ∧ Kp g g w w' ∧ (A = none → Nw w w') := by
  cases A with
  | none =>
    rcases hO with ⟨_, rfl, rfl, h⟩ | ⟨h, _⟩
    · have hl : l = [] := List.eq_nil_of_length_eq_zero hn.symm
      subst hl
      refine (show Calls Tryz.prog 13 _ _ _ from AnyQ.slices_Reverse_empty Tryz.revSmp none 0 w).mono ?_
      rintro e w' ⟨rfl, rfl⟩
      exact ⟨rfl, Ow.nil _ _ _ _, Kp.refl _ _ _, fun _ => Nw.refl _⟩
    · cases h
  | some a =>
    obtain ⟨cs, _, _, _, rfl⟩ := hO.heap
    refine (RevS_any w g n c l hn hO).mono ?_
    rintro e w' ⟨h1, h2, h3⟩
    exact ⟨h1, h2, h3, fun h => by cases h⟩
theorem MGot.cases_ {w : World} {l : List Val} {n : Nat} {e : Ending} {w' : World} (h : MGot w l n e w') : Nw w w' ∧ ∃ E r, ListU l E r ∧ ((E ≠ 0 ∧ e = .returned (.tuple #[.slice none 0 0, .int .i64 (E : Nat)])) ∨
    (E = 0 ∧ ∃ g l', e = .returned (.tuple #[.slice (some ⟨g, 0, none⟩) n n, .int .i64 0]) ∧ l'.map valS = r ∧ l'.length = n ∧ Ow w' g 37 2 (some ⟨g, 0, none⟩) n n (cR l') ∧ ∀ s ∈ l', SerOk w' s)) := by
  obtain ⟨hN, E, r, hT, h⟩ := h
  refine ⟨hN, E, r, hT.u, ?_⟩
  rcases h with h | ⟨h1, g, l', h2, h3, h4, _, h5, h6⟩
  · exact .inl h
  · exact .inr ⟨h1, g, l', h2, h3, h4, h5, h6⟩

set_option maxRecDepth 100000 in
set_option maxHeartbeats 20000000 in
theorem ModelForgetsOrder_walk (b0 : Nat) (a0 : Option Addr) (len0 cap0 : Nat) (z0 : List Ser) (a1 : Int) (w : World) (w0 : InSer w b0 a0 len0 cap0 z0) (w1 : (Lit.int IntKind.u8 a1).wf = true) :
    Calls Tryz.prog 4 #[.slice a0 len0 cap0, .int .u8 a1] w fun e w' => e = .returned (.bool true) ∧ Below w.heap.size w w' := by
  have HL := Lib.hid (Large_any w b0 a0 len0 cap0 z0 w0)
  have HI := Lib.hid w0
  have hu : 0 ≤ a1 ∧ a1 < 256 := by
    have h : IntKind.u8.min ≤ a1 ∧ a1 ≤ IntKind.u8.max := by simpa [Lit.wf] using w1
    have e1 : IntKind.u8.min = 0 := rfl
    have e2 : IntKind.u8.max = 255 := rfl
    omega
  obtain ⟨kk, rfl⟩ : ∃ kk : Nat, a1 = (kk : Int) := ⟨a1.toNat, by omega⟩
  have hk256 : kk < 256 := by omega
  clear w0 w1 hu
  go_enter Tryz.func4, Tryz.ntmps4
  go_wp2_with fail
  refine HL.out.mono ?_
  rintro e w1 ⟨v, rfl, hv, hN1⟩
  rcases hv with rfl | ⟨rfl, hF⟩
  · go_wp2_with (go_at_call 6; refine (alive_any _).mono ?_; rintro e w2 ⟨rfl, hN2⟩)
    go_ret
    exact ⟨rfl, hN1.trans hN2⟩
  · by_cases hl0 : len0 = 0
    · have g0 : ((len0 : Int) == 0) = true := by rw [beq_iff_eq]; omega
      have g1 : (len0 == 0) = true := by rw [beq_iff_eq]; omega
      clear hl0
      go_wp2_with (go_at_call 6; refine (alive_any _).mono ?_; rintro e w2 ⟨rfl, hN2⟩)
      go_ret
      exact ⟨rfl, hN1.trans hN2⟩
    · have g0 : ((len0 : Int) == 0) = false := by rw [beq_eq_false_iff_ne]; omega
      have g1 : (len0 == 0) = false := by rw [beq_eq_false_iff_ne]; omega
      have hn : len0 ≤ 300 := by have := HI.out.len; have := hF.1; omega
      have HS := Lib.hid (show smpSum z0 ≤ 100000 from by have := hF.2.1; omega)
      have HLN := Lib.hid hF.lens
      have hz : 0 < len0 := by omega
      have hrem : Int.tmod (kk : Int) (len0 : Int) = ((kk % len0 : Nat) : Int) := by rw [Int.tmod_eq_emod_of_nonneg (by omega)]; rfl
      have hi : kk % len0 < len0 := Nat.mod_lt _ hz
      obtain ⟨i, hki⟩ : ∃ i, kk % len0 = i := ⟨_, rfl⟩
      rw [hki] at hrem hi
      have hkw : IntKind.i64.wrap (kk : Int) = (kk : Int) := by rw [IntKind.wrap_i64]; omega
      clear hF HL hl0 hki
      have hzl : 0 < z0.length := by have := HI.out.len; omega
      obtain ⟨o, rfl, hb0, _, _⟩ := two_at HI.out.rd hzl
      have hcap := HI.out.cap
      have hmax := HI.out.max
      have hci : (cap0 == i) = false := by rw [beq_eq_false_iff_ne]; omega
      have hci2 : ¬ cap0 = i := by omega
      go_wp2_with fail
      refine wp_region_gr_tail 6 (by kernel_rfl) (by kernel_rfl) ?_
      simp only [List.take_succ_cons, List.take_zero, List.drop_succ_cons, List.drop_zero]
      repeat (go_big_quiet_step (first | fail))
      refine wpQuiet_nil ?_
      rintro _ ⟨p', rfl⟩
      have hND := hN1.trans (Gr.nw ⟨p', rfl⟩ : Nw w1 (grow (w1.drewN p'.n) p'.os))
      generalize grow (w1.drewN p'.n) p'.os = wD at *
      go_wp2_with fail
      obtain ⟨L0, hL0⟩ : ∃ L, L = z0.drop i ++ z0.take i := ⟨_, rfl⟩
      have hlz := HI.out.len
      have hCat := ConcatR_any (wD.alloc (.cells #[.slice (some ⟨b0, o + i * 2, none⟩) (len0 - i) (cap0 - i), .slice (some ⟨b0, o, none⟩) i cap0] 22)) wD.heap.size b0 b0 2 (len0 - i) i (cap0 - i) cap0 (some ⟨b0, o + i * 2, none⟩) (some ⟨b0, o, none⟩) (z0.drop i) (z0.take i) (Ow.lit wD 22 1 2 #[.slice (some ⟨b0, o + i * 2, none⟩) (len0 - i) (cap0 - i), .slice (some ⟨b0, o, none⟩) i cap0] rfl (by omega)).rd (by rw [List.length_drop]; omega) (by rw [List.length_take]; omega) (by omega) (rd_from (HI.out.rd.nw (hND.alloc' _))) (by unfold cR; rw [c2_take]; exact (HI.out.rd.nw (hND.alloc' _)).take _) (fun h => by cases h) (fun h => by cases h)
      rw [Nat.sub_add_cancel (by omega), ← hL0] at hCat
      have HCat := Lib.hid hCat
      have HL0 := Lib.hid hL0
      have hL0l : L0.length = len0 := by rw [hL0, List.length_append, List.length_drop, List.length_take]; omega
      have HL0l := Lib.hid hL0l
      have HL0m := Lib.hid (show ∀ s ∈ L0, s ∈ z0 from fun s hs => by
        rw [hL0] at hs
        rcases List.mem_append.1 hs with h | h
        · exact List.mem_of_mem_drop h
        · exact List.mem_of_mem_take h)
      clear hCat hL0 hci hci2 hrem hkw hL0l hlz
      refine HCat.out.mono ?_
      rintro e wF ⟨bm, Am, cm, rfl, hO, hbm, hNF⟩
      have hNW := (hND.alloc' (.cells #[.slice (some ⟨b0, o + i * 2, none⟩) (len0 - i) (cap0 - i), .slice (some ⟨b0, o, none⟩) i cap0] 22)).trans hNF
      have hbmw : w.heap.size ≤ bm := by
        have := (hND.alloc' (.cells #[.slice (some ⟨b0, o + i * 2, none⟩) (len0 - i) (cap0 - i), .slice (some ⟨b0, o, none⟩) i cap0] 22)).size
        omega
      obtain ⟨rfl, hbmF, _, _⟩ := hO.at_ (j := 0) (by omega)
      have HO := Lib.hid hO
      have HNW := Lib.hid hNW
      clear hO hNF hND HCat hbm hNW
      go_wp2
      rename World => wG
      go_loopw [39] (fun v wr => ∃ (k : Nat) (D : List Ser), k ≤ len0 ∧ v = .int .i64 k ∧ D.length = k ∧ Hid (D.map valS = ((L0.take k).map valS).map rv) ∧ Hid (Ow wr bm 37 2 (some ⟨bm, 0, none⟩) len0 cm (cR (D ++ L0.drop k))) ∧ Hid (∀ s ∈ D, Fl w wr bm s) ∧ Hid (bm < wr.heap.size) ∧ Hid (Nw w wr)) (fun v _ => len0 - (intOf v).toNat)
      case atStart => exact ⟨0, [], by omega, rfl, rfl, Lib.hid rfl, Lib.hid (by simpa using HO.out), Lib.hid (fun s h => absurd h List.not_mem_nil), Lib.hid hbmF, HNW⟩
      case round =>
        clear HO HNW
        obtain ⟨k, D, hk, rfl, hD, HV, HO, HF, HBM, HN⟩ := hrel
        by_cases hlt : k < len0
        · have hltI : (k : Int) < (len0 : Int) := by omega
          have hlt' : k < L0.length := by have := HL0l.out; omega
          have hdrop := drop_cons hlt'
          have HVk := Lib.hid (show (L0.take (k + 1)).map valS = (L0.take k).map valS ++ [valS L0[k]] from by rw [List.take_succ_eq_append_getElem hlt', List.map_append]; rfl)
          rw [hdrop] at HO
          have HXI := Lib.hid (HI.out.ok L0[k] (HL0m.out _ (List.getElem_mem hlt')))
          have HXL := Lib.hid (HLN.out L0[k] (HL0m.out _ (List.getElem_mem hlt')))
          generalize L0[k] = x at *
          have hlen2 : (cR (D ++ x :: L0.drop (k + 1))).length = 2 * len0 := by
            rw [show (cR _).length = 2 * _ from c2_length _, List.length_append, List.length_cons, List.length_drop]; have := HL0l.out; omega
          obtain ⟨_, _, c1, c2'⟩ := HO.out.at_ (j := k * 2 + 1) (by omega)
          rw [show (cR (D ++ x :: L0.drop (k + 1)))[k * 2 + 1]? = some (.slice x.as_ x.smps.length x.cs) from by
            unfold cR
            rw [c2_app, List.getElem?_append_right (by rw [c2_length]; omega), c2_length, show k * 2 + 1 - 2 * D.length = 1 by omega]; rfl] at c1
          have hxs := HXL.out.2
          have HCl := Lib.hid (CloneS_any wr x.bs x.as_ x.smps.length x.cs x.smps (HXI.out.2.nw HN.out) (by omega))
          clear hdrop
          go_wp2_with fail
          refine HCl.out.mono ?_
          rintro e w2 ⟨g, A2, c2, rfl, hO2, hN2, hcase⟩
          obtain ⟨bs, hO2, hbs⟩ := clone_there (b := b0) hO2 hcase
          have HRv := Lib.hid (RevS0_any w2 bs x.smps.length c2 A2 x.smps rfl hO2)
          have HN2 := Lib.hid hN2
          have hbne : bs ≠ bm ∧ bs < w2.heap.size := by
            have h1 := HBM.out
            have h2 := hN2.size
            have h3 := HN.out.size
            omega
          have HBS := Lib.hid hbs
          clear hO2 hcase hN2 HCl c1 c2' hbs
          go_wp2_with fail
          refine HRv.out.mono ?_
          rintro e w3 ⟨rfl, hO3, hK3, hnl⟩
          have hOm := (HO.out.nw HN2.out).kp hK3 (fun e => hbne.1 e.symm) (fun e => hbne.1 e.symm)
          obtain ⟨_, _, c1, c2'⟩ := hOm.at_ (j := k * 2 + 1) (by omega)
          rw [show (cR (D ++ x :: L0.drop (k + 1)))[k * 2 + 1]? = some (.slice x.as_ x.smps.length x.cs) from by
            unfold cR
            rw [c2_app, List.getElem?_append_right (by rw [c2_length]; omega), c2_length, show k * 2 + 1 - 2 * D.length = 1 by omega]; rfl] at c1
          have hsz3 := hK3.size
          have hN3 : Nw w w3 ∧ ∀ s ∈ D, Fl w w3 bm s := by
            rcases HBS.out with ⟨h, _⟩ | ⟨h, _⟩
            · exact ⟨(HN.out.trans HN2.out).trans (hnl h), fun s hs => ((HF.out s hs).nw HN2.out).nw (hnl h)⟩
            · have h3 := HN.out.size
              exact ⟨Kp.nw (HN.out.trans HN2.out) hK3 (by omega) (by omega), fun s hs => ((HF.out s hs).nw HN2.out).kp hK3 (by have := (HF.out s hs).bs.2; omega)⟩
          obtain ⟨hN3, hF3⟩ := hN3
          have HOm := Lib.hid hOm
          have HO3 := Lib.hid hO3
          have HF3 := Lib.hid hF3
          have HN3 := Lib.hid hN3
          have HK4 := Lib.hid ((Kp.refl bm bm w3).setCell' (p := ⟨bm, k * 2 + 1, none⟩) (.inl rfl) (.slice A2 x.smps.length c2))
          have HSZ := Lib.hid hsz3
          clear hOm hO3 hF3 hN3 hK3 hnl hsz3 HRv hlen2
          go_wp2
          go_roundw
          case rel =>
            have h4 := HK4.out
            have hz4 := h4.size
            have hO5 : Ow w3 bs 41 2 A2 x.smps.reverse.length c2 (cS x.smps.reverse) := by rw [List.length_reverse]; exact HO3.out
            replace hO5 := hO5.kp h4 hbne.1 hbne.1
            have hy : Fl w (w3.setCell ⟨bm, k * 2 + 1, none⟩ (.slice A2 x.smps.length c2)) bm ⟨x.labs, x.smps.reverse, x.bl, x.al, x.cl, bs, A2, c2⟩ :=
              ⟨HXI.out.1, ⟨hO5.rd, rfl, fun z hz => HXI.out.2.wf z (List.mem_reverse.1 hz), hO5.nil_cap, hO5.cap.1, hO5.cap.2⟩, hbne.1, by have := HSZ.out; have := hbne.2; dsimp only; omega⟩
            refine ⟨k + 1, D ++ [⟨x.labs, x.smps.reverse, x.bl, x.al, x.cl, bs, A2, c2⟩], by omega, by go_num, by simp [hD], Lib.hid ?_, Lib.hid ?_, Lib.hid (fun s hs => ?_), Lib.hid (by have := HBM.out; have := HN2.out.size; have := HSZ.out; omega), Lib.hid (Kp.nw HN3.out h4 hbmw hbmw)⟩
            · rw [HVk.out, List.map_append, List.map_append, HV.out]
              rfl
            · have h := HOm.out.set_ (k * 2 + 1) (.slice A2 x.smps.length c2)
              have e := c2_setB (f := fR) (h := hR) (M := D) (R := L0.drop (k + 1)) (x := x) (z := ⟨x.labs, x.smps.reverse, x.bl, x.al, x.cl, bs, A2, c2⟩) hD rfl
              rw [show hR ⟨x.labs, x.smps.reverse, x.bl, x.al, x.cl, bs, A2, c2⟩ = Value.slice A2 x.smps.length c2 from by show Value.slice A2 x.smps.reverse.length c2 = _; rw [List.length_reverse]] at e
              rw [show (cR (D ++ x :: L0.drop (k + 1))).set (k * 2 + 1) (.slice A2 x.smps.length c2) = cR (D ++ ⟨x.labs, x.smps.reverse, x.bl, x.al, x.cl, bs, A2, c2⟩ :: L0.drop (k + 1)) from e] at h
              rw [List.append_assoc]
              exact h
            · rcases List.mem_append.1 hs with hs | hs
              · have h5 := HF3.out s hs
                exact h5.kp h4 h5.bs.1
              · rw [List.mem_singleton.1 hs]
                exact hy
          case measure => simp [intOf]; omega
        · have hltI : ¬ (k : Int) < (len0 : Int) := by omega
          obtain rfl : k = len0 := by omega
          have hVV := HV.out
          rw [List.take_of_length_le (by have := HL0l.out; omega), HL0.out, List.map_append, List.map_drop, List.map_take] at hVV
          have hO := HO.out
          rw [List.drop_eq_nil_of_le (by have := HL0l.out; omega), List.append_nil] at hO
          have hp : ((D.reverse).map valS).Perm ((z0.map valS).map rv) := by
            rw [List.map_reverse, hVV]
            exact rot_perm
          have HP := Lib.hid hp
          have HRv := Lib.hid (RevR_any wr bm k cm D hD.symm hO)
          have hmem : ∀ s ∈ D.reverse, s.labs.length ≤ 100000 ∧ s.smps.length ≤ 100000 := fun s hs => by
            obtain ⟨v, hv, e⟩ := List.mem_map.1 (hp.mem_iff.1 (List.mem_map.2 ⟨s, hs, rfl⟩))
            obtain ⟨t, ht, rfl⟩ := List.mem_map.1 hv
            have h1 := HLN.out t ht
            have e1 := congrArg (fun v : Val => v.1.length) e
            have e2 := congrArg (fun v : Val => v.2.length) e
            simp only [rv, List.length_reverse] at e1 e2
            omega
          have HMem := Lib.hid hmem
          have hsum : smpSum D.reverse = smpSum z0 := by
            have h := sum_rv hp
            rw [List.map_map, List.map_map] at h
            exact h
          have HSum := Lib.hid hsum
          have HFr := Lib.hid (show ∀ s ∈ D.reverse, Fl w wr bm s from fun s hs => HF.out s (List.mem_reverse.1 hs))
          have HDl := Lib.hid (show D.reverse.length = k from by rw [List.length_reverse]; exact hD)
          clear hVV hO hp hmem hsum HV HO HF hD hlt hk
          generalize D.reverse = M at *
          go_wp2_with fail
          refine HRv.out.mono ?_
          rintro e w2 ⟨rfl, hO2, hK2⟩
          have HN2 := Lib.hid (Kp.nw HN.out hK2 hbmw hbmw)
          have HO2 := Lib.hid hO2
          have HF2 := Lib.hid (show ∀ s ∈ M, SerOk w2 s from fun s hs => ((HFr.out s hs).kp hK2 (HFr.out s hs).bs.1).ok HN2.out)
          have HM1 := Lib.hid fun W (hN : Nw w W) => NormM_any W b0 (some ⟨b0, o, none⟩) k cap0 z0 (HI.out.nw hN) HS.out (by omega) HLN.out
          have HM2 := Lib.hid fun W (hN : Nw w2 W) => NormM_any W bm (some ⟨bm, 0, none⟩) k cm M ⟨(HO2.out.nw hN).rd, HDl.out.symm, (fun h => by cases h), HO2.out.cap.1, HO2.out.cap.2, fun s hs => (HF2.out s hs).nw hN⟩ (by rw [HSum.out]; exact HS.out) (by omega) HMem.out
          clear hO2 hK2 HRv HFr HN
          go_wp2_with fail
          refine (HM1.out _ HN2.out).mono ?_
          intro e w3 hm1
          obtain ⟨hN3, E, r, hU, hcase⟩ := hm1.cases_
          have HU := Lib.hid hU
          have HC := Lib.hid hcase
          have HN3 := Lib.hid hN3
          clear hm1 hU hN3
          rcases hcase with ⟨hE, rfl⟩ | ⟨rfl, g1, l1, rfl, hr1, hl1, hO1, hok1⟩
          · have HE := Lib.hid hE
            have HN2' := Lib.hid (HN2.out.trans HN3.out)
            clear HC
            go_wp2_with fail
            refine (HM2.out _ HN3.out).mono ?_
            intro e w4 hm2
            obtain ⟨hN4, E2, r2, hU2, hcase⟩ := hm2.cases_
            have hord := HU.out.order hU2 HP.out
            rcases hcase with ⟨hE2, rfl⟩ | ⟨h0, _⟩
            · have HN4 := Lib.hid (HN2'.out.trans hN4)
              have hE1 : ((E : Int) == 0) = false := by rw [beq_eq_false_iff_ne]; omega
              have hE3 : ((E2 : Int) == 0) = false := by rw [beq_eq_false_iff_ne]; omega
              have HQ := Lib.hid fun W => REqual_any W b0 b0 none none 0 0 0 0 [] [] rfl rfl (by omega) (by omega) (Rd.nil _ _ _) (Rd.nil _ _ _) (fun s h => absurd h List.not_mem_nil) (fun s h => absurd h List.not_mem_nil)
              have HM3 := Lib.hid fun W => NormM_any W b0 none 0 0 [] ⟨Rd.nil _ _ _, rfl, fun _ => rfl, Nat.le_refl _, by omega, fun s h => absurd h List.not_mem_nil⟩ (by decide) (by omega) (fun s h => absurd h List.not_mem_nil)
              clear hm2 hN4 hU2 hord hE hE2
              go_wp2_with fail
              refine (HQ.out _).mono ?_
              rintro e w5 ⟨he, hN5⟩
              obtain rfl := he.tt (by first | trivial | rfl)
              have HN5 := Lib.hid (HN4.out.trans hN5)
              clear he hN5
              go_wp2_with fail
              refine (HM3.out _).mono ?_
              intro e w6 hm3
              obtain ⟨hN6, E6, r6, hU6, hcase⟩ := hm3.cases_
              have h6 := ListU.nil_.one hU6
              rcases hcase with ⟨h0, _⟩ | ⟨_, g6, l6, rfl, hr6, hl6, hO6, hok6⟩
              · exact (h0 h6.1.symm).elim
              · have HN6 := Lib.hid (HN5.out.trans hN6)
                have hl6' : l6 = [] := List.eq_nil_of_length_eq_zero hl6
                have HQ6 := Lib.hid fun W => REqual_any W b0 g6 none (some ⟨g6, 0, none⟩) 0 0 0 0 [] [] rfl rfl (by omega) (by omega) (Rd.nil _ _ _) (Rd.nil _ _ _) (fun s h => absurd h List.not_mem_nil) (fun s h => absurd h List.not_mem_nil)
                clear hm3 hN6 hU6 h6 hr6 hl6 hO6 hok6 hl6'
                go_wp2_with fail
                refine (alive_any _).mono ?_
                rintro e w7 ⟨rfl, hN7⟩
                have HN7 := Lib.hid (HN6.out.trans hN7)
                clear hN7
                go_wp2_with fail
                refine (HQ6.out _).mono ?_
                rintro e w8 ⟨he, hN8⟩
                obtain rfl := he.tt (by first | trivial | rfl)
                have HN8 := Lib.hid (HN7.out.trans hN8)
                clear he hN8
                go_wp2_with fail
                go_ret
                exact ⟨rfl, HN8.out⟩
            · exact (hE (hord.1.2 h0)).elim
          · have HN2' := Lib.hid (HN2.out.trans HN3.out)
            have HR1 := Lib.hid hr1
            have HL1 := Lib.hid hl1
            have HO1 := Lib.hid hO1
            have HK1 := Lib.hid hok1
            have HBl := Lib.hid (show Blk1 (z0.map valS) (l1.map valS) from by rw [hr1]; exact HU.out.blk)
            have HLl := Lib.hid (HBl.out.lens HLN.out)
            clear HC hr1 hl1 hO1 hok1
            go_wp2_with fail
            refine (HM2.out _ HN3.out).mono ?_
            intro e w4 hm2
            obtain ⟨hN4, E2, r2, hU2, hcase⟩ := hm2.cases_
            have hord := HU.out.order hU2 HP.out
            rcases hcase with ⟨hE2, _⟩ | ⟨_, g2, l2, rfl, hr2, hl2, hO2b, hok2⟩
            · exact (hE2 (hord.1.1 rfl)).elim
            · have HN4 := Lib.hid (HN2'.out.trans hN4)
              have HV12 := Lib.hid (show l1.map valS = l2.map valS from by rw [HR1.out, hord.2 rfl, hr2])
              have HLl2 := Lib.hid (show ∀ s ∈ l2, s.labs.length ≤ 100000 ∧ s.smps.length ≤ 100000 from (show Blk1 (z0.map valS) (l2.map valS) from by rw [← HV12.out]; exact HBl.out).lens HLN.out)
              have HQ := Lib.hid (REqual_any w4 g1 g2 (some ⟨g1, 0, none⟩) (some ⟨g2, 0, none⟩) k k k k l1 l2 HL1.out.symm hl2.symm (by omega) (by omega) (HO1.out.nw hN4).rd hO2b.rd (fun s h => ⟨(HK1.out s h).nw hN4, small_of (HLl.out s h)⟩) (fun s h => ⟨hok2 s h, small_of (HLl2.out s h)⟩))
              have HN34 := Lib.hid hN4
              have HM3 := Lib.hid fun W (hN : Nw w3 W) => NormM_any W g1 (some ⟨g1, 0, none⟩) k k l1 ⟨(HO1.out.nw hN).rd, HL1.out.symm, (fun h => by cases h), Nat.le_refl _, by omega, fun s h => (HK1.out s h).nw hN⟩ (by rw [HBl.out.sum_]; exact HS.out) (by omega) HLl.out
              clear hm2 hN4 hU2 hord hr2 hl2 hO2b hok2
              go_wp2_with fail
              refine HQ.out.mono ?_
              rintro e w5 ⟨he, hN5⟩
              obtain rfl := he.tt HV12.out
              have HN5 := Lib.hid (HN4.out.trans hN5)
              have HN35 := Lib.hid (HN34.out.trans hN5)
              clear he hN5
              go_wp2_with fail
              refine (HM3.out _ HN35.out).mono ?_
              intro e w6 hm3
              obtain ⟨hN6, E6, r6, hU6, hcase⟩ := hm3.cases_
              have hid := HU.out.idem
              rw [← HR1.out] at hid
              have h6 := hid.one hU6
              rcases hcase with ⟨h0, _⟩ | ⟨_, g6, l6, rfl, hr6, hl6, hO6, hok6⟩
              · exact (h0 h6.1.symm).elim
              · have HN6 := Lib.hid (HN5.out.trans hN6)
                have HN36 := Lib.hid (HN35.out.trans hN6)
                have HV16 := Lib.hid (show l1.map valS = l6.map valS from by rw [hr6]; exact h6.2 rfl)
                have HLl6 := Lib.hid (show ∀ s ∈ l6, s.labs.length ≤ 100000 ∧ s.smps.length ≤ 100000 from (show Blk1 (z0.map valS) (l6.map valS) from by rw [← HV16.out]; exact HBl.out).lens HLN.out)
                have HQ6 := Lib.hid fun W (hN : Nw w6 W) => REqual_any W g1 g6 (some ⟨g1, 0, none⟩) (some ⟨g6, 0, none⟩) k k k k l1 l6 HL1.out.symm hl6.symm (by omega) (by omega) ((HO1.out.nw HN36.out).nw hN).rd (hO6.nw hN).rd (fun s h => ⟨((HK1.out s h).nw HN36.out).nw hN, small_of (HLl.out s h)⟩) (fun s h => ⟨(hok6 s h).nw hN, small_of (HLl6.out s h)⟩)
                clear hm3 hN6 hU6 h6 hid hr6
                go_wp2_with fail
                refine (alive_any _).mono ?_
                rintro e w7 ⟨rfl, hN7⟩
                have HN7 := Lib.hid (HN6.out.trans hN7)
                have HN67 := Lib.hid hN7
                clear hN7
                go_wp2_with fail
                refine (HQ6.out _ HN67.out).mono ?_
                rintro e w8 ⟨he, hN8⟩
                obtain rfl := he.tt HV16.out
                have HN8 := Lib.hid (HN7.out.trans hN8)
                clear he hN8
                go_wp2_with fail
                go_ret
                exact ⟨rfl, HN8.out⟩

open Go.ChangeShapes Go.WideShapes Go.ChangeAt Go.RowKit in
open Go.ChangeMaps (open_string shut_string) in
set_option linter.unusedVariables false in
set_option maxRecDepth 100000 in
theorem ModelForgetsOrder_lifted (os : Os) (started : os.Started) (H : Type) (enc : TypeId × Value → H) :
    ReturnsInHanded {} Tryz.checked os 4 .any (Rows.modelForgetsOrderSpec.pre6 enc Tryz.prog Tryz.f4 Rows.modelForgetsOrderRow.domain false) (Rows.modelForgetsOrderSpec.post enc Tryz.prog Tryz.f4 false true false false) := by
  refine returnsInHanded_of_change (C := Tryz.checked) (by kernel_rfl) started (by kernel_rfl) Tryz.func4
    (ChangeSpec.witness6 (enc := enc) (C := Tryz.checked) false ⟨#[], #[.slice none 0 0, .int .u8 0], []⟩ 8 (by kernel_rfl) (by kernel_rfl) (by kernel_rfl) (by kernel_rfl)) ?_
  intro W base args ds gs before hval0 hW hcnd _
  have hval : ∀ (j : Nat) t v, Tryz.f4.params[j]? = some t → args[j]? = some v → Value.okWide Tryz.prog W .any base t v := hval0
  have hW' := hW
  obtain ⟨p, q, hA0, hV, rfl, hfz, hnd⟩ := hW
  have hA : DataW.TrodAll enc Tryz.prog W 0 (fun _ => true) true Tryz.f4.params.toList args.toList ds p := hA0
  rw [Tryz.params4] at hA hval
  obtain ⟨v0, vs0, d0, ds0, p0, q0, hargs, rfl, rfl, h0, r0⟩ := trodAll_cons hA
  obtain ⟨v1, vs1, d1, ds1, p1, q1, rfl, rfl, rfl, h1, r1⟩ := trodAll_cons r0
  obtain ⟨rfl, rfl, rfl⟩ := trodAll_nil r1
  obtain rfl : args = #[v0, v1] := by cases args; simp_all
  obtain ⟨rfl, rfl⟩ := trodVars_none hV
  obtain ⟨a0, len0, cap0, rfl⟩ := okWide_slice Tryz.underlying22 (hval 0 22 v0 rfl rfl)
  have k0 := h0
  have lt0 : ∀ x ∈ p0, x.block < W.heap.size := by obtain ⟨m, hm⟩ := k0; exact DataW.trod_lt m _ _ _ hm
  obtain ⟨b0, z0, w0⟩ : ∃ b zs, InSer W b a0 len0 cap0 zs := by
    obtain ⟨fuel, hf⟩ := h0
    exact InSer.of_trod (by simpa [Value.cells] using hf)
  obtain ⟨a1, rfl, rfl, rfl, w1⟩ := open_int Tryz.underlying5 (hval 1 5 v1 rfl rfl) h1
  clear hA0 hval0
  refine (ModelForgetsOrder_walk b0 a0 len0 cap0 z0 a1 W w0 w1).mono fun e W' ⟨he, bel⟩ => ?_
  subst he
  exact ⟨_, rfl, _, _, _, [], _, [], hW', trodAll_mk1 (shut_bool Tryz.underlying4 _), (trodAll_cons_mk (Below.trod (by kernel_rfl) (by kernel_rfl) (of_decide_eq_true (by kernel_rfl)) k0 bel lt0) (trodAll_cons_mk (shut_int Tryz.underlying5 w1) trodAll_mk0)), rfl, bel.frame _, fun h => by cases h⟩

/-- the statement -/
theorem ModelForgetsOrder_holds : Rows.ModelForgetsOrderSaid :=
  OpenClaim.holds_of_wide 4 Tryz.f4 rfl rfl rfl rfl rfl rfl rfl ⟨rfl, rfl, rfl, rfl, rfl⟩ rfl rfl rfl rfl rfl (by kernel_rfl) Tryz.func4 (by kernel_rfl)
    (of_decide_eq_true (by kernel_rfl)) (by unfold Func.isWrapper; first | (rw [if_pos (by decide +kernel)]; kernel_rfl) | (rw [if_neg (by decide +kernel)]; exact ⟨rfl, rfl⟩))
    (fun os started H enc _ => ModelForgetsOrder_lifted os started H enc)
#print axioms ModelForgetsOrder_holds
end Go.Proofs.YtoogadidbbpplaaGreat
