/- Lists of series compared: model.Equal and its reference. -/
import Derived.Test.YtoogadidbbpplaaGreatEqual
namespace Go.Proofs.YtoogadidbbpplaaGreat
open Go Go.RowKit Go.Sort

theorem Says.tt {e : Ending} {p : Prop} (h : Says e p) (hp : p) : e = .returned (.bool true) := by
  obtain ⟨r, rfl, hr⟩ := h
  rw [hr.2 hp]
theorem Says.ff {e : Ending} {p : Prop} (h : Says e p) (hp : ¬ p) : e = .returned (.bool false) := by
  obtain ⟨r, rfl, hr⟩ := h
  cases r with
  | false => rfl
  | true => exact (hp (hr.1 rfl)).elim
/-- what a series says, wherever its lists lie -/
abbrev valS (s : Ser) : List Lab × List Smpl := (s.labs, s.smps)
abbrev Small (s : Ser) : Prop := s.labs.length ≤ 1000000 ∧ s.smps.length ≤ 1000000

theorem Eq1_any (w : World) (s t : Ser) (hs : SerOk w s) (ht : SerOk w t) (h1 : Small s) (h2 : Small t) :
    Calls Tryz.prog 40 #[vSer s, vSer t] w fun e w' => Says e (valS s = valS t) ∧ Nw w w' := by
  have HL := Lib.hid fun W (hN : Nw w W) => EqualL_any W s.bl t.bl s.al t.al s.labs.length s.cl t.labs.length t.cl s.labs t.labs rfl rfl h1.1 h2.1 (hs.1.rd.nw hN) (ht.1.rd.nw hN)
  have HS := Lib.hid fun W (hN : Nw w W) => EqualS_any W s.bs t.bs s.as_ t.as_ s.smps.length s.cs t.smps.length t.cs s.smps t.smps rfl rfl h1.2 h2.2 (hs.2.rd.nw hN) (ht.2.rd.nw hN)
  have hN1 : Nw w ((w.alloc (.cells #[.slice s.al s.labs.length s.cl, .slice s.as_ s.smps.length s.cs] 37)).alloc (.cells #[.slice t.al t.labs.length t.cl, .slice t.as_ t.smps.length t.cs] 37)) := ((Nw.refl _).alloc' _).alloc' _
  have hb0 : ((w.alloc (.cells #[.slice s.al s.labs.length s.cl, .slice s.as_ s.smps.length s.cs] 37)).alloc (.cells #[.slice t.al t.labs.length t.cl, .slice t.as_ t.smps.length t.cs] 37)).heap[w.heap.size]? = some (.cells #[.slice s.al s.labs.length s.cl, .slice s.as_ s.smps.length s.cs] 37 (0, 0)) :=
    (((Nw.refl (w.alloc (.cells #[.slice s.al s.labs.length s.cl, .slice s.as_ s.smps.length s.cs] 37))).alloc' _).block _ (by simp)).trans (heap_alloc_new _ _)
  have hb1 : ((w.alloc (.cells #[.slice s.al s.labs.length s.cl, .slice s.as_ s.smps.length s.cs] 37)).alloc (.cells #[.slice t.al t.labs.length t.cl, .slice t.as_ t.smps.length t.cs] 37)).heap[w.heap.size + 1]? = some (.cells #[.slice t.al t.labs.length t.cl, .slice t.as_ t.smps.length t.cs] 37 (0, 0)) := by
    have := heap_alloc_new (w.alloc (.cells #[.slice s.al s.labs.length s.cl, .slice s.as_ s.smps.length s.cs] 37)) (.cells #[.slice t.al t.labs.length t.cl, .slice t.as_ t.smps.length t.cs] 37)
    simpa using this
  clear hs ht
  by_cases hl : s.labs = t.labs
  · by_cases hm : s.smps = t.smps
    · have HY := Lib.hid (show valS s = valS t from by unfold valS; rw [hl, hm])
      have HL1 := Lib.hid hl
      have HM1 := Lib.hid hm
      clear hl hm
      go_enter Tryz.func40, Tryz.ntmps40
      go_wp2_with (first
        | (go_at_call 42; refine (HS.out _ hN2).mono ?_; rintro e w2 ⟨he, hG2⟩; obtain rfl := he.tt HM1.out)
        | (go_at_call 41; refine (HL.out _ hN1).mono ?_; rintro e w1 ⟨he, hG⟩; obtain rfl := he.tt HL1.out; have hN2 := hN1.trans hG.nw; have hc1 := (cell_at (k := 1) ((hG.nw.block _ (lt_of_block hb0)).trans hb0)).trans rfl; have hc2 := (cell_at (k := 1) ((hG.nw.block _ (lt_of_block hb1)).trans hb1)).trans rfl))
      go_ret
      exact ⟨Says.yes HY.out, hN2.trans hG2.nw⟩
    · have HY := Lib.hid (show ¬ valS s = valS t from by unfold valS; intro h; injection h with _ h; exact hm h)
      have HL1 := Lib.hid hl
      have HM1 := Lib.hid hm
      clear hl hm
      go_enter Tryz.func40, Tryz.ntmps40
      go_wp2_with (first
        | (go_at_call 42; refine (HS.out _ hN2).mono ?_; rintro e w2 ⟨he, hG2⟩; obtain rfl := he.ff HM1.out)
        | (go_at_call 41; refine (HL.out _ hN1).mono ?_; rintro e w1 ⟨he, hG⟩; obtain rfl := he.tt HL1.out; have hN2 := hN1.trans hG.nw; have hc1 := (cell_at (k := 1) ((hG.nw.block _ (lt_of_block hb0)).trans hb0)).trans rfl; have hc2 := (cell_at (k := 1) ((hG.nw.block _ (lt_of_block hb1)).trans hb1)).trans rfl))
      go_ret
      exact ⟨Says.no HY.out, hN2.trans hG2.nw⟩
  · have HY := Lib.hid (show ¬ valS s = valS t from by unfold valS; intro h; injection h with h _; exact hl h)
    have HL1 := Lib.hid hl
    clear hl
    go_enter Tryz.func40, Tryz.ntmps40
    go_wp2_with (go_at_call 41; refine (HL.out _ hN1).mono ?_; rintro e w1 ⟨he, hG⟩; obtain rfl := he.ff HL1.out)
    go_ret
    exact ⟨Says.no HY.out, hN1.trans hG.nw⟩

set_option maxRecDepth 100000 in
set_option maxHeartbeats 1600000 in
theorem EqualFunc_any (w : World) (b1 b2 : Nat) (A1 A2 : Option Addr) (n1 c1 n2 c2 : Nat) (l1 l2 : List Ser) (hn1 : n1 = l1.length) (hn2 : n2 = l2.length) (hm1 : n1 ≤ 1000000) (hm2 : n2 ≤ 1000000) (hr1 : Rd w b1 A1 (cR l1)) (hr2 : Rd w b2 A2 (cR l2)) (hk1 : ∀ s ∈ l1, SerOk w s ∧ Small s) (hk2 : ∀ s ∈ l2, SerOk w s ∧ Small s) :
    Calls Tryz.prog 39 #[.slice A1 n1 c1, .slice A2 n2 c2, .func (.func 40) #[] #[]] w fun e w' => Says e (l1.map valS = l2.map valS) ∧ Nw w w' := by
  subst hn1 hn2
  have HR1 := Lib.hid hr1
  have HR2 := Lib.hid hr2
  have HK1 := Lib.hid hk1
  have HK2 := Lib.hid hk2
  clear hr1 hr2 hk1 hk2
  by_cases hlen : l1.length = l2.length
  · have HLN := Lib.hid hlen
    have hlI : ((l1.length : Int) != (l2.length : Int)) = false := by rw [bne_eq_false_iff_eq]; omega
    go_enter Tryz.func39, Tryz.ntmps39
    go_wp2
    go_loopw [17] (fun i wr => ∃ k : Nat, k ≤ l1.length ∧ i = .int .i64 k ∧ Hid (l1.map valS = l2.map valS ↔ (l1.drop k).map valS = (l2.drop k).map valS) ∧ Hid (Nw w wr)) (fun i _ => l1.length - (intOf i).toNat)
    case atStart => exact ⟨0, by omega, rfl, Lib.hid (by simp), Lib.hid (Nw.refl _)⟩
    case round =>
      obtain ⟨k, hk, rfl, HX, HN⟩ := hrel
      by_cases hlt : k < l1.length
      · have hlt2 : k < l2.length := by omega
        have hltI : (k : Int) < (l1.length : Int) := by omega
        have hltJ : (k : Int) < (l2.length : Int) := by omega
        obtain ⟨o1, rfl, hb1, hc0, hc1⟩ := two_at (HR1.out.nw HN.out) hlt
        obtain ⟨o2, rfl, hb2, hd0, hd1⟩ := two_at (HR2.out.nw HN.out) hlt2
        have hX := HX.out
        rw [drop_cons hlt, drop_cons hlt2, List.map_cons, List.map_cons, List.cons.injEq] at hX
        have HX2 := Lib.hid hX
        have HOx := Lib.hid (HK1.out l1[k] (List.getElem_mem hlt))
        have HOy := Lib.hid (HK2.out l2[k] (List.getElem_mem hlt2))
        generalize l1[k] = x at *
        generalize l2[k] = y at *
        have HE := Lib.hid fun W (hN : Nw wr W) => Eq1_any W x y ((HOx.out.1.nw HN.out).nw hN) ((HOy.out.1.nw HN.out).nw hN) HOx.out.2 HOy.out.2
        have hNa : Nw wr (wr.alloc (.cells #[.slice x.al x.labs.length x.cl, .slice x.as_ x.smps.length x.cs] 37)) := (Nw.refl wr).alloc' _
        have hNb : Nw wr ((wr.alloc (.cells #[.slice x.al x.labs.length x.cl, .slice x.as_ x.smps.length x.cs] 37)).alloc (.cells #[.slice y.al y.labs.length y.cl, .slice y.as_ y.smps.length y.cs] 37)) := hNa.alloc' _
        have hd2 := cell_old hNa hb2 hd0
        have hd3 := cell_old hNa hb2 hd1
        clear hX HX hlen
        by_cases hv : valS x = valS y
        · have HEQ := Lib.hid (show l1.map valS = l2.map valS ↔ (l1.drop (k + 1)).map valS = (l2.drop (k + 1)).map valS from by rw [HX2.out]; exact ⟨fun h => h.2, fun h => ⟨hv, h⟩⟩)
          have HV := Lib.hid hv
          clear hv
          go_wp2_with (go_at_call 40; refine (HE.out _ hNb).mono ?_; rintro e w1 ⟨he, hN1⟩; obtain rfl := he.tt HV.out)
          go_roundw
          case rel => exact ⟨k + 1, by omega, by go_num, HEQ, Lib.hid (HN.out.trans (hNb.trans hN1))⟩
          case measure => simp [intOf]; omega
        · have HNE := Lib.hid (show ¬ l1.map valS = l2.map valS from fun h => hv (HX2.out.1 h).1)
          have HV := Lib.hid hv
          clear hv
          go_wp2_with (go_at_call 40; refine (HE.out _ hNb).mono ?_; rintro e w1 ⟨he, hN1⟩; obtain rfl := he.ff HV.out)
          go_ret
          exact ⟨Says.no HNE.out, HN.out.trans (hNb.trans hN1)⟩
      · have HEQ := Lib.hid (show l1.map valS = l2.map valS from HX.out.2 (by rw [List.drop_eq_nil_of_le (show l1.length ≤ k by omega), List.drop_eq_nil_of_le (show l2.length ≤ k by omega)]))
        have hltI : ¬ (k : Int) < (l1.length : Int) := by omega
        have hltJ : ¬ (k : Int) < (l2.length : Int) := by omega
        go_wp2
        go_ret
        exact ⟨Says.yes HEQ.out, HN.out⟩
  · have HLN := Lib.hid hlen
    have hlI : ((l1.length : Int) != (l2.length : Int)) = true := by rw [bne_iff_ne]; omega
    go_enter Tryz.func39, Tryz.ntmps39
    go_wp2
    go_ret
    exact ⟨Says.no fun h => HLN.out (by have := congrArg List.length h; simpa using this), Nw.refl _⟩

set_option maxRecDepth 100000 in
theorem EqM_any (w : World) (b1 b2 : Nat) (A1 A2 : Option Addr) (n1 c1 n2 c2 : Nat) (l1 l2 : List Ser) (hn1 : n1 = l1.length) (hn2 : n2 = l2.length) (hm1 : n1 ≤ 1000000) (hm2 : n2 ≤ 1000000) (hr1 : Rd w b1 A1 (cR l1)) (hr2 : Rd w b2 A2 (cR l2)) (hk1 : ∀ s ∈ l1, SerOk w s ∧ Small s) (hk2 : ∀ s ∈ l2, SerOk w s ∧ Small s) :
    Calls Tryz.prog 18 #[.slice A1 n1 c1, .slice A2 n2 c2] w fun e w' => Says e (l1.map valS = l2.map valS) ∧ Nw w w' := by
  have HE := Lib.hid (EqualFunc_any w b1 b2 A1 A2 n1 c1 n2 c2 l1 l2 hn1 hn2 hm1 hm2 hr1 hr2 hk1 hk2)
  clear hr1 hr2 hk1 hk2 hn1 hn2
  generalize (l1.map valS = l2.map valS) = P at *
  go_enter Tryz.func18, Tryz.ntmps18
  go_wp2_with (go_at_call 39; refine HE.out.mono ?_; rintro e w1 ⟨he, hN⟩; obtain ⟨r, rfl, hr⟩ := he)
  go_ret
  exact ⟨⟨r, rfl, hr⟩, hN⟩

theorem cmpLs_zero : ∀ a b : List Lab, cmpLs a b = 0 ↔ a = b := by
  intro a
  induction a with
  | nil =>
    intro b
    cases b with
    | nil => exact ⟨fun _ => rfl, fun _ => rfl⟩
    | cons y b =>
      have e : cmpLs [] (y :: b) = -1 := rfl
      rw [e]
      simp
  | cons x a ih =>
    intro b
    cases b with
    | nil =>
      have e : cmpLs (x :: a) [] = 1 := rfl
      rw [e]
      simp
    | cons y b =>
      have e : cmpLs (x :: a) (y :: b) = if cmpL x y ≠ 0 then cmpL x y else cmpLs a b := rfl
      have z : cmpL x y = 0 ↔ x = y := by
        unfold cmpL
        by_cases h : cmpS x.1 y.1 = 0
        · rw [if_neg (by simp [h]), cmpS_zero]
          have := cmpS_zero.1 h
          constructor
          · intro h2; exact Prod.ext this h2
          · intro h2; rw [h2]
        · rw [if_pos h]
          exact ⟨fun h2 => (h h2).elim, fun h2 => (h (cmpS_zero.2 (by rw [h2]))).elim⟩
      rw [e]
      by_cases h : cmpL x y = 0
      · rw [if_neg (by simp [h]), ih b, z.1 h]; simp
      · rw [if_pos h]
        exact ⟨fun h2 => (h h2).elim, fun h2 => by injection h2 with h3 _; exact (h (z.2 h3)).elim⟩

set_option maxRecDepth 100000 in
set_option maxHeartbeats 3200000 in
theorem REqual_any (w : World) (b1 b2 : Nat) (A1 A2 : Option Addr) (n1 c1 n2 c2 : Nat) (l1 l2 : List Ser) (hn1 : n1 = l1.length) (hn2 : n2 = l2.length) (hm1 : n1 ≤ 1000000) (hm2 : n2 ≤ 1000000) (hr1 : Rd w b1 A1 (cR l1)) (hr2 : Rd w b2 A2 (cR l2)) (hk1 : ∀ s ∈ l1, SerOk w s ∧ Small s) (hk2 : ∀ s ∈ l2, SerOk w s ∧ Small s) :
    Calls Tryz.prog 9 #[.slice A1 n1 c1, .slice A2 n2 c2] w fun e w' => Says e (l1.map valS = l2.map valS) ∧ Nw w w' := by
  subst hn1 hn2
  have HR1 := Lib.hid hr1
  have HR2 := Lib.hid hr2
  have HK1 := Lib.hid hk1
  have HK2 := Lib.hid hk2
  clear hr1 hr2 hk1 hk2
  by_cases hlen : l1.length = l2.length
  · have HLN := Lib.hid hlen
    have hlI : ((l1.length : Int) != (l2.length : Int)) = false := by rw [bne_eq_false_iff_eq]; omega
    go_enter Tryz.func9, Tryz.ntmps9
    go_wp2
    go_loopw [5] (fun i wr => ∃ k : Nat, k ≤ l1.length ∧ i = .int .i64 k ∧ Hid (l1.map valS = l2.map valS ↔ (l1.drop k).map valS = (l2.drop k).map valS) ∧ Hid (Nw w wr)) (fun i _ => l1.length - (intOf i).toNat)
    case atStart => exact ⟨0, by omega, rfl, Lib.hid (by simp), Lib.hid (Nw.refl _)⟩
    case round =>
      obtain ⟨k, hk, rfl, HX, HN⟩ := hrel
      by_cases hlt : k < l1.length
      · have hlt2 : k < l2.length := by omega
        have hltI : (k : Int) < (l1.length : Int) := by omega
        have hltJ : (k : Int) < (l2.length : Int) := by omega
        obtain ⟨o1, rfl, hb1, hc0, hc1⟩ := two_at (HR1.out.nw HN.out) hlt
        obtain ⟨o2, rfl, hb2, hd0, hd1⟩ := two_at (HR2.out.nw HN.out) hlt2
        have hX := HX.out
        rw [drop_cons hlt, drop_cons hlt2, List.map_cons, List.map_cons, List.cons.injEq] at hX
        have HX2 := Lib.hid hX
        have HOx := Lib.hid (HK1.out l1[k] (List.getElem_mem hlt))
        have HOy := Lib.hid (HK2.out l2[k] (List.getElem_mem hlt2))
        generalize l1[k] = x at *
        generalize l2[k] = y at *
        have HCm := Lib.hid fun W (hN : Nw wr W) => RCompareL_any W x.bl y.bl x.al y.al x.labs.length x.cl y.labs.length y.cl x.labs y.labs rfl rfl HOx.out.2.1 HOy.out.2.1 ((HOx.out.1.1.rd.nw HN.out).nw hN) ((HOy.out.1.1.rd.nw HN.out).nw hN)
        have HSm := Lib.hid fun W (hN : Nw wr W) => Same_any W x.bs y.bs x.as_ y.as_ x.smps.length x.cs y.smps.length y.cs x.smps y.smps rfl rfl HOx.out.2.2 HOy.out.2.2 ((HOx.out.1.2.rd.nw HN.out).nw hN) ((HOy.out.1.2.rd.nw HN.out).nw hN)
        obtain ⟨s, hs⟩ : ∃ s, cmpLs x.labs y.labs = s := ⟨_, rfl⟩
        rw [hs] at HCm
        have HZ := Lib.hid (show s = 0 ↔ x.labs = y.labs from by rw [← hs]; exact cmpLs_zero _ _)
        have q0 : ∀ p' : Gp, (grow (wr.drewN p'.n) p'.os).cell? ⟨b1, o1 + k * 2, none⟩ = some (.slice x.al x.labs.length x.cl) := cell_gr hb1 hc0
        have q1 : ∀ p' : Gp, (grow (wr.drewN p'.n) p'.os).cell? ⟨b1, o1 + k * 2 + 1, none⟩ = some (.slice x.as_ x.smps.length x.cs) := cell_gr hb1 hc1
        have q2 : ∀ p' : Gp, (grow (wr.drewN p'.n) p'.os).cell? ⟨b2, o2 + k * 2, none⟩ = some (.slice y.al y.labs.length y.cl) := cell_gr hb2 hd0
        have q3 : ∀ p' : Gp, (grow (wr.drewN p'.n) p'.os).cell? ⟨b2, o2 + k * 2 + 1, none⟩ = some (.slice y.as_ y.smps.length y.cs) := cell_gr hb2 hd1
        clear hX HX hlen hs hc0 hc1 hd0 hd1
        by_cases hz : s = 0
        · have hzb : (s != 0) = false := by rw [bne_eq_false_iff_eq]; exact hz
          have HLq := Lib.hid (HZ.out.1 hz)
          by_cases hm : x.smps = y.smps
          · have HM := Lib.hid hm
            have HEQ := Lib.hid (show l1.map valS = l2.map valS ↔ (l1.drop (k + 1)).map valS = (l2.drop (k + 1)).map valS from by rw [HX2.out]; exact ⟨fun h => h.2, fun h => ⟨by unfold valS; rw [HLq.out, HM.out], h⟩⟩)
            clear hm hz
            go_wp2_with fail
            refine wp_region_gr (by kernel_rfl) (by kernel_rfl) ?_
            repeat (go_big_quiet_step (first
              | (go_at_call 32; refine Calls.gr ((HCm.out _ (Gr.nw ⟨_, rfl⟩)).mono fun _ _ h => ⟨h.1, Gr.of_dr h.2⟩))
              | (go_at_call 33; refine Calls.gr ((HSm.out _ (Gr.nw ⟨_, rfl⟩)).mono fun _ _ h => ⟨h.1.tt HM.out, h.2⟩))))
            refine wpQuiet_nil ?_
            rintro _ ⟨p', rfl⟩
            have HNz := Lib.hid (HN.out.trans (Gr.nw ⟨p', rfl⟩ : Nw wr _))
            go_wp2_with fail
            go_roundw
            case rel => exact ⟨k + 1, by omega, by go_num, HEQ, HNz⟩
            case measure => simp [intOf]; omega
          · have HM := Lib.hid hm
            have HNE := Lib.hid (show ¬ l1.map valS = l2.map valS from fun h => hm (by have := (HX2.out.1 h).1; injection this))
            clear hm hz
            go_wp2_with fail
            refine wp_region_gr (by kernel_rfl) (by kernel_rfl) ?_
            repeat (go_big_quiet_step (first
              | (go_at_call 32; refine Calls.gr ((HCm.out _ (Gr.nw ⟨_, rfl⟩)).mono fun _ _ h => ⟨h.1, Gr.of_dr h.2⟩))
              | (go_at_call 33; refine Calls.gr ((HSm.out _ (Gr.nw ⟨_, rfl⟩)).mono fun _ _ h => ⟨h.1.ff HM.out, h.2⟩))))
            refine wpQuiet_nil ?_
            rintro _ ⟨p', rfl⟩
            have HNz := Lib.hid (HN.out.trans (Gr.nw ⟨p', rfl⟩ : Nw wr _))
            go_wp2_with fail
            go_ret
            exact ⟨Says.no HNE.out, HNz.out⟩
        · have hzb : (s != 0) = true := by rw [bne_iff_ne]; exact hz
          have HNE := Lib.hid (show ¬ l1.map valS = l2.map valS from fun h => hz (HZ.out.2 (by have := (HX2.out.1 h).1; injection this)))
          clear hz
          go_wp2_with fail
          refine wp_region_gr (by kernel_rfl) (by kernel_rfl) ?_
          repeat (go_big_quiet_step (first
            | (go_at_call 32; refine Calls.gr ((HCm.out _ (Gr.nw ⟨_, rfl⟩)).mono fun _ _ h => ⟨h.1, Gr.of_dr h.2⟩))))
          refine wpQuiet_nil ?_
          rintro _ ⟨p', rfl⟩
          have HNz := Lib.hid (HN.out.trans (Gr.nw ⟨p', rfl⟩ : Nw wr _))
          go_wp2_with fail
          go_ret
          exact ⟨Says.no HNE.out, HNz.out⟩
      · have HEQ := Lib.hid (show l1.map valS = l2.map valS from HX.out.2 (by rw [List.drop_eq_nil_of_le (show l1.length ≤ k by omega), List.drop_eq_nil_of_le (show l2.length ≤ k by omega)]))
        have hltI : ¬ (k : Int) < (l1.length : Int) := by omega
        have hltJ : ¬ (k : Int) < (l2.length : Int) := by omega
        go_wp2
        go_ret
        exact ⟨Says.yes HEQ.out, HN.out⟩
  · have HLN := Lib.hid hlen
    have hlI : ((l1.length : Int) != (l2.length : Int)) = true := by rw [bne_iff_ne]; omega
    go_enter Tryz.func9, Tryz.ntmps9
    go_wp2
    go_ret
    exact ⟨Says.no fun h => HLN.out (by have := congrArg List.length h; simpa using this), Nw.refl _⟩
end Go.Proofs.YtoogadidbbpplaaGreat
