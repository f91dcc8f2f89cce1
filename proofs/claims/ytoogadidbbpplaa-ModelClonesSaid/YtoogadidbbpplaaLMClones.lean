/- ModelClones: a clone is equal to the block, changing it does not change the original or another clone, and Normalize does not change its argument. No condition. -/
import Derived.Test.YtoogadidbbpplaaRows
import Derived.Test.YtoogadidbbpplaaAlive
import Derived.ProofKit
import Derived.OpenShut
import Derived.ShutString
import Derived.ChangeOld
import Derived.Below
namespace Go.Proofs.Ytoogadidbbpplaa
open Go Go.RowKit Go.Sort Go.Shelf

theorem Fits.small {l : List Ser} (h : Fits l) : ∀ s ∈ l, Small s := by
  intro s hs
  have h1 := h.2.2.1
  have h2 := le_sum hs
  have h3 := h.2.1
  have : s.labs.length ≤ (labsOf l).length := by
    obtain ⟨a, b, rfl⟩ := List.append_of_mem hs
    unfold labsOf
    rw [List.flatMap_append, List.flatMap_cons, List.length_append, List.length_append]
    omega
  exact ⟨by omega, by omega⟩
theorem Fits.lens {l : List Ser} (h : Fits l) : ∀ s ∈ l, s.labs.length ≤ 100000 ∧ s.smps.length ≤ 100000 := by
  intro s hs
  have h1 := h.2.2.1
  have h2 := le_sum hs
  have h3 := h.2.1
  have : s.labs.length ≤ (labsOf l).length := by
    obtain ⟨a, b, rfl⟩ := List.append_of_mem hs
    unfold labsOf
    rw [List.flatMap_append, List.flatMap_cons, List.length_append, List.length_append]
    omega
  exact ⟨by omega, by omega⟩

section
variable {α : Type} {f h : α → Value}
theorem c2_app (M R : List α) (x : α) : c2 f h (M ++ x :: R) = c2 f h M ++ f x :: h x :: c2 f h R := by
  unfold c2
  rw [List.flatMap_append, List.flatMap_cons]
  rfl
theorem c2_setA {M R : List α} {x z : α} {k : Nat} (hk : M.length = k) (he : h x = h z) : (c2 f h (M ++ x :: R)).set (k * 2) (f z) = c2 f h (M ++ z :: R) := by
  have hl : (c2 f h M).length = 2 * M.length := c2_length M
  rw [c2_app, c2_app, List.set_append_right _ _ (by omega), show k * 2 - (c2 f h M).length = 0 by omega, List.set_cons_zero, he]
theorem c2_setB {M R : List α} {x z : α} {k : Nat} (hk : M.length = k) (he : f x = f z) : (c2 f h (M ++ x :: R)).set (k * 2 + 1) (h z) = c2 f h (M ++ z :: R) := by
  have hl : (c2 f h M).length = 2 * M.length := c2_length M
  rw [c2_app, c2_app, List.set_append_right _ _ (by omega), show k * 2 + 1 - (c2 f h M).length = 0 + 1 by omega, List.set_cons_succ, List.set_cons_zero, he]
end
/-- what stays while the clone at g1 is changed: its outer row, the clone at g2, the series r, and all that w had -/
structure Keep (w wr : World) (g1 g2 n : Nat) (l1 l2 r : List Ser) : Prop where
  c : Ow wr g1 35 2 (some ⟨g1, 0, none⟩) n n (cR l1)
  d : Ow wr g2 35 2 (some ⟨g2, 0, none⟩) n n (cR l2)
  cd : ∀ s ∈ l2, Cl wr g2 s
  cr : ∀ s ∈ r, Cl wr g1 s
  nw : Nw w wr
section
variable {w wr w' : World} {g1 g2 n q : Nat} {l1 l2 r : List Ser}
theorem Keep.kp (h : Keep w wr g1 g2 n l1 l2 r) (hk : Kp q q wr w') (h1 : g1 ≠ q) (h2 : q < g2) (h3 : w.heap.size ≤ q) (h4 : ∀ s ∈ r, s.bl ≠ q ∧ s.bs ≠ q) : Keep w w' g1 g2 n l1 l2 r :=
  ⟨h.c.kp hk h1 h1, h.d.kp hk (by omega) (by omega), fun s hs => by
      have k := h.cd s hs
      have k1 := k.lol.1
      have k2 := k.los.1
      exact k.kp hk (by omega) (by omega) (by omega) (by omega), fun s hs => (h.cr s hs).kp hk (h4 s hs).1 (h4 s hs).1 (h4 s hs).2 (h4 s hs).2, Kp.nw h.nw hk h3 h3⟩
theorem Keep.tail {x : Ser} (h : Keep w wr g1 g2 n l1 l2 (x :: r)) : Keep w wr g1 g2 n l1 l2 r := ⟨h.c, h.d, h.cd, fun s hs => h.cr s (List.mem_cons_of_mem _ hs), h.nw⟩
end
theorem MGot.some {w : World} {l : List Val} {n : Nat} {e : Ending} {w' : World} (h : MGot w l n e w') : Nw w w' ∧ ∃ A m c E, e = .returned (.tuple #[.slice A m c, .int .i64 E]) := by
  obtain ⟨hN, E, r, _, h⟩ := h
  refine ⟨hN, ?_⟩
  rcases h with ⟨_, h⟩ | ⟨_, g, l', h, _⟩
  · exact ⟨_, _, _, _, h⟩
  · exact ⟨_, _, _, _, h⟩

set_option maxRecDepth 100000 in
set_option maxHeartbeats 6400000 in
theorem ModelClones_walk (b0 : Nat) (a0 : Option Addr) (len0 cap0 : Nat) (z0 : List Ser) (w : World) (w0 : InSer w b0 a0 len0 cap0 z0) :
    Calls Try.prog 5 #[.slice a0 len0 cap0] w fun e w' => e = .returned (.bool true) ∧ Below w.heap.size w w' := by
  have HL := Lib.hid (Large_any w b0 a0 len0 cap0 z0 w0)
  have HI := Lib.hid w0
  clear w0
  go_enter Try.func5, Try.ntmps5
  go_wp2_with fail
  refine HL.out.mono ?_
  rintro e w1 ⟨v, rfl, hv, hN1⟩
  rcases hv with rfl | ⟨rfl, hF⟩
  · go_wp2_with (go_at_call 8; refine (alive_any _).mono ?_; rintro e w2 ⟨rfl, hN2⟩)
    go_ret
    exact ⟨rfl, hN1.trans hN2⟩
  · have hn : len0 ≤ 300 := by have := HI.out.len; have := hF.1; omega
    have hS : smpSum z0 ≤ 100000 := by have := hF.2.1; omega
    have HSM := Lib.hid hF.small
    have HFL := Lib.hid fun s (hs : s ∈ z0) => (show ∀ x ∈ s.labs, x.2.size ≤ 200000 from fun x hx => (hF.2.2.2 x (List.mem_flatMap.2 ⟨s, hs, hx⟩)).2)
    have HC := Lib.hid fun W (hN : Nw w W) => Clone_any W b0 a0 len0 cap0 z0 (HI.out.nw hN) HSM.out (by omega)
    have HM := Lib.hid fun W (hN : Nw w W) => NormM_any W b0 a0 len0 cap0 z0 (HI.out.nw hN) hS (by omega) hF.lens
    have HZ := Lib.hid HI.out.len
    clear hS hF HL
    go_wp2_with fail
    refine (HC.out _ hN1).mono ?_
    rintro e w2 ⟨l1, rfl, hv1, hO1, hC1, hA1, hN2⟩
    obtain ⟨g1, hg1⟩ : ∃ g, w1.heap.size = g := ⟨_, rfl⟩
    rw [hg1] at hO1 hC1 hA1 ⊢
    have hgw : w.heap.size ≤ g1 := by rw [← hg1]; exact hN1.size
    have hW2 := hN1.trans hN2
    have hg12 : g1 < w2.heap.size := by
      obtain ⟨cs, hh, _⟩ := hO1.heap
      exact lt_of_block hh
    have HO1 := Lib.hid hO1
    have HC1 := Lib.hid hC1
    have HA1 := Lib.hid hA1
    have HV1 := Lib.hid hv1
    clear hO1 hC1 hA1 hv1 hN1 hg1 hN2
    go_wp2_with fail
    refine (HC.out _ hW2).mono ?_
    rintro e w3 ⟨l2, rfl, hv2, hO2, hC2, hA2, hN3⟩
    obtain ⟨g2, hg2⟩ : ∃ g, w2.heap.size = g := ⟨_, rfl⟩
    rw [hg2] at hO2 hC2 hA2 hg12 ⊢
    have hW3 := hW2.trans hN3
    have hlen1 : l1.length = len0 := by have := congrArg List.length HV1.out; rw [List.length_map, List.length_map] at this; have := HZ.out; omega
    have hlen2 : l2.length = len0 := by have := congrArg List.length hv2; rw [List.length_map, List.length_map] at this; have := HZ.out; omega
    have HK3 : Hid (Keep w w3 g1 g2 len0 l1 l2 l1) := Lib.hid ⟨HO1.out.nw hN3, hO2, hC2, fun s hs => (HC1.out s hs).nw hN3, hW3⟩
    have HB1 := Lib.hid fun s (hs : s ∈ l1) => (show s.bl < g2 ∧ s.bs < g2 from by rw [← hg2]; exact ⟨(HC1.out s hs).lol.2, (HC1.out s hs).los.2⟩)
    have HV2 := Lib.hid hv2
    have small_of : ∀ l : List Ser, l.map valS = z0.map valS → ∀ s ∈ l, Small s := fun l h s hs => by
      obtain ⟨t, ht, e⟩ := List.mem_map.1 (h ▸ List.mem_map.2 ⟨s, hs, rfl⟩ : valS s ∈ z0.map valS)
      have e1 := congrArg (fun v : Val => v.1.length) e
      have e2 := congrArg (fun v : Val => v.2.length) e
      dsimp only [valS] at e1 e2
      have k := HSM.out t ht
      exact ⟨by have := k.1; omega, by have := k.2; omega⟩
    have HLB := Lib.hid fun s (hs : s ∈ l1) => (show ∀ x ∈ s.labs, x.2.size ≤ 200000 from by
      obtain ⟨t, ht, e⟩ := List.mem_map.1 (HV1.out ▸ List.mem_map.2 ⟨s, hs, rfl⟩ : valS s ∈ z0.map valS)
      have e1 := congrArg (fun v : Val => v.1) e
      dsimp only [valS] at e1
      rw [← e1]
      exact HFL.out t ht)
    have HE1 := Lib.hid (REqual_any w3 b0 g1 a0 (some ⟨g1, 0, none⟩) len0 cap0 len0 len0 z0 l1 HI.out.len hlen1.symm (by omega) (by omega) (HI.out.rd.nw hW3) HK3.out.c.rd (fun s hs => ⟨(HI.out.ok s hs).nw hW3, HSM.out s hs⟩) (fun s hs => ⟨(HK3.out.cr s hs).ok, small_of l1 HV1.out s hs⟩))
    have HE2 := Lib.hid fun W (K : Keep w W g1 g2 len0 l1 l2 []) => REqual_any W b0 g2 a0 (some ⟨g2, 0, none⟩) len0 cap0 len0 len0 z0 l2 HI.out.len hlen2.symm (by omega) (by omega) (HI.out.rd.nw K.nw) K.d.rd (fun s hs => ⟨(HI.out.ok s hs).nw K.nw, HSM.out s hs⟩) (fun s hs => ⟨(K.cd s hs).ok, small_of l2 HV2.out s hs⟩)
    have HW3 := Lib.hid hW3
    clear hv2 hO2 hC2 hA2 hN3 hg2 hW2 hW3 small_of HC hlen2
    go_wp2_with fail
    refine HE1.out.mono ?_
    rintro e w4 ⟨he, hN4⟩
    obtain rfl := he.tt HV1.out.symm
    have hW4 := HW3.out.trans hN4
    have HK4 : Hid (Keep w w4 g1 g2 len0 l1 l2 l1) := Lib.hid ⟨HK3.out.c.nw hN4, HK3.out.d.nw hN4, fun s hs => (HK3.out.cd s hs).nw hN4, fun s hs => (HK3.out.cr s hs).nw hN4, hW4⟩
    clear he hN4 HE1
    go_wp2_with fail
    refine (HM.out _ hW4).mono ?_
    intro e w5 hm
    obtain ⟨hN5, A5, m5, c5, E5, rfl⟩ := hm.some
    have HK5 : Hid (Keep w w5 g1 g2 len0 l1 l2 l1) := Lib.hid ⟨HK4.out.c.nw hN5, HK4.out.d.nw hN5, fun s hs => (HK4.out.cd s hs).nw hN5, fun s hs => (HK4.out.cr s hs).nw hN5, hW4.trans hN5⟩
    clear hm hN5 hW4 HM HK4 HK3 HW3
    go_wp2
    go_loopw [24] (fun i wr => ∃ k : Nat, k ≤ len0 ∧ i = .int .i64 k ∧ Hid (Keep w wr g1 g2 len0 l1 l2 (l1.drop k))) (fun i _ => len0 - (intOf i).toNat)
    case atStart => exact ⟨0, by omega, rfl, Lib.hid (by simpa using HK5.out)⟩
    case round =>
      clear HK5
      obtain ⟨k, hk, rfl, HK⟩ := hrel
      by_cases hlt : k < len0
      · have hltI : (k : Int) < (len0 : Int) := by omega
        have hlt' : k < l1.length := by omega
        have hdrop := drop_cons hlt'
        have HSR := Lib.hid fun W (hc : Ow W g1 35 2 (some ⟨g1, 0, none⟩) len0 len0 (cR l1)) => Ow.ser hc hlt'
        have hpw : ∀ s ∈ l1.drop (k + 1), s.bl ≠ l1[k].bl ∧ s.bs ≠ l1[k].bl ∧ s.bl ≠ l1[k].bs ∧ s.bs ≠ l1[k].bs := fun s hs => by
          have h := HA1.out.1
          rw [← List.take_append_drop k l1, hdrop] at h
          have h2 := (List.pairwise_cons.1 (List.pairwise_append.1 h).2.1).1 s hs
          exact ⟨fun e => h2.2.2.2 e.symm, fun e => h2.2.2.1 e.symm, fun e => h2.2.1 e.symm, fun e => h2.1 e.symm⟩
        have hb := HB1.out l1[k] (List.getElem_mem hlt')
        have ha := HA1.out.2 l1[k] (List.getElem_mem hlt')
        rw [hdrop] at HK
        have HLX := Lib.hid (HLB.out l1[k] (List.getElem_mem hlt'))
        have HPW := Lib.hid hpw
        clear hpw hdrop
        generalize l1[k] = x at *
        have HX := Lib.hid (HK.out.cr x List.mem_cons_self)
        have hlo := HX.out.lol.1
        have hls := HX.out.los.1
        have HK1 := Lib.hid HK.out.tail
        obtain ⟨⟨c0, _⟩, c1, _⟩ := HSR.out wr HK.out.c
        have HA := Lib.hid ha
        clear ha
        have hcL := HX.out.lab.cap
        have hcS := HX.out.smp.cap
        go_wp2
        clear c0 c1
        rename World => wo
        go_loopw [33] (fun i wr => ∃ (j : Nat) (L : List Lab), j ≤ x.labs.length ∧ i = .int .i64 j ∧ L.length = j ∧ Hid (Ow wr x.bl 37 2 x.al x.labs.length x.cl (cL (L ++ x.labs.drop j))) ∧ Hid (Ow wr x.bs 40 2 x.as_ x.smps.length x.cs (cS x.smps)) ∧ Hid (Keep w wr g1 g2 len0 l1 l2 (l1.drop (k + 1)))) (fun i _ => x.labs.length - (intOf i).toNat)
        case atStart => exact ⟨0, [], by omega, rfl, rfl, Lib.hid (by simpa using HX.out.lab), Lib.hid HX.out.smp, HK1⟩
        case round =>
          clear HK1 HK
          obtain ⟨j, L, hj, rfl, hL, HO, HP, HK⟩ := hrel
          obtain ⟨⟨c0, _⟩, c1, _⟩ := HSR.out wr HK.out.c
          by_cases hjl : j < x.labs.length
          · have hjI : (j : Int) < (x.labs.length : Int) := by omega
            have hd2 := drop_cons hjl
            rw [hd2] at HO
            clear hd2
            have HYS := Lib.hid (HLX.out x.labs[j] (List.getElem_mem hjl))
            generalize x.labs[j] = y at *
            obtain ⟨hal, hbw, u1, u2⟩ := HO.out.at_ (j := j * 2 + 1) (by omega)
            rw [show (cL (L ++ y :: x.labs.drop (j + 1)))[j * 2 + 1]? = some (.string y.2) from by
              unfold cL
              rw [c2_app, List.getElem?_append_right (by rw [c2_length]; omega), c2_length, show j * 2 + 1 - 2 * L.length = 1 by omega]; rfl] at u1
            rw [hal] at c0
            have HAL := Lib.hid hal
            clear hal
            have HKp := Lib.hid fun u => (show Kp x.bl x.bl wr (wr.setCell ⟨x.bl, j * 2 + 1, none⟩ u) from (Kp.refl x.bl x.bl wr).setCell' (p := ⟨x.bl, j * 2 + 1, none⟩) (.inl rfl) u)
            have hy2 : y.2.size + 1 ≤ 9223372036854775807 := by have := HYS.out; omega
            go_wp2
            go_roundw
            case rel =>
              have hO2 := HO.out.set_ (j * 2 + 1) (Value.string (y.2 ++ ⟨#[120]⟩))
              rw [show (cL (L ++ y :: x.labs.drop (j + 1))).set (j * 2 + 1) (Value.string (y.2 ++ ⟨#[120]⟩)) = cL (L ++ (y.1, y.2 ++ ⟨#[120]⟩) :: x.labs.drop (j + 1)) from by exact c2_setB (f := fun x : Lab => Value.string x.1) (h := fun x => .string x.2) (x := y) (z := (y.1, y.2 ++ (⟨#[120]⟩ : ByteArray))) hL rfl] at hO2
              refine ⟨j + 1, L ++ [(y.1, y.2 ++ ⟨#[120]⟩)], by omega, by go_num, by simp [hL], Lib.hid ?_, Lib.hid (HP.out.kp (HKp.out _) HA.out.2.2 HA.out.2.2), Lib.hid (HK.out.kp (HKp.out _) (fun e => HA.out.2.1 e.symm) hb.1 (by omega) (fun s hs => ⟨(HPW.out s hs).1, (HPW.out s hs).2.1⟩))⟩
              rw [List.append_assoc]
              exact hO2
            case measure => simp [intOf]; omega
          · obtain ⟨N, hN⟩ : ∃ N, x.labs.length = N := ⟨_, rfl⟩
            have hjI : ¬ (j : Int) < (x.labs.length : Int) := by omega
            clear hN
            clear HO hL L hj
            go_wp2
            clear c0 c1
            rename World => wo2
            go_loopw [55] (fun i wr => ∃ (j : Nat) (L : List Smpl), j ≤ x.smps.length ∧ i = .int .i64 j ∧ L.length = j ∧ Hid (Ow wr x.bs 40 2 x.as_ x.smps.length x.cs (cS (L ++ x.smps.drop j))) ∧ Hid (Keep w wr g1 g2 len0 l1 l2 (l1.drop (k + 1)))) (fun i _ => x.smps.length - (intOf i).toNat)
            case atStart => exact ⟨0, [], by omega, rfl, rfl, Lib.hid (by simpa using HP.out), HK⟩
            case round =>
              clear HK HP
              obtain ⟨j, L, hj, rfl, hL, HO, HK⟩ := hrel
              obtain ⟨⟨c0, _⟩, c1, _⟩ := HSR.out wr HK.out.c
              by_cases hjl : j < x.smps.length
              · have hjI : (j : Int) < (x.smps.length : Int) := by omega
                have hd2 := drop_cons hjl
                rw [hd2] at HO
                clear hd2
                generalize x.smps[j] = y at *
                obtain ⟨hal, hbw, u1, u2⟩ := HO.out.at_ (j := j * 2) (by omega)
                rw [show (cS (L ++ y :: x.smps.drop (j + 1)))[j * 2]? = some (.int .i64 y.1) from by
                  unfold cS
                  rw [c2_app, List.getElem?_append_right (by rw [c2_length]; omega), c2_length, show j * 2 - 2 * L.length = 0 by omega]; rfl] at u1
                rw [hal] at c1
                have HAL := Lib.hid hal
                clear hal
                have HKp := Lib.hid fun u => (show Kp x.bs x.bs wr (wr.setCell ⟨x.bs, j * 2, none⟩ u) from (Kp.refl x.bs x.bs wr).setCell' (p := ⟨x.bs, j * 2, none⟩) (.inl rfl) u)
                go_wp2
                go_roundw
                case rel =>
                  have hO2 := HO.out.set_ (j * 2) (Value.int .i64 (wrap64 (y.1 + 1)))
                  rw [show (cS (L ++ y :: x.smps.drop (j + 1))).set (j * 2) (Value.int .i64 (wrap64 (y.1 + 1))) = cS (L ++ (wrap64 (y.1 + 1), y.2) :: x.smps.drop (j + 1)) from c2_setA (f := fun z : Smpl => Value.int .i64 z.1) (h := fun z => .int .u64 (z.2 : Int)) (x := y) (z := (wrap64 (y.1 + 1), y.2)) hL rfl] at hO2
                  refine ⟨j + 1, L ++ [(wrap64 (y.1 + 1), y.2)], by omega, by go_num, by simp [hL], Lib.hid ?_, Lib.hid (HK.out.kp (HKp.out _) (fun e => HA.out.1 e.symm) hb.2 (by omega) (fun s hs => (HPW.out s hs).2.2))⟩
                  rw [List.append_assoc]
                  exact hO2
                case measure => simp [intOf]; omega
              · have hjI : ¬ (j : Int) < (x.smps.length : Int) := by omega
                clear HO hL L hj
                go_wp2
                go_roundw
                case rel => exact ⟨k + 1, by omega, by go_num, HK⟩
                case measure => simp [intOf]; omega
      · obtain rfl : k = len0 := by omega
        have HKe : Hid (Keep w wr g1 g2 k l1 l2 []) := Lib.hid ⟨HK.out.c, HK.out.d, HK.out.cd, fun s hs => absurd hs List.not_mem_nil, HK.out.nw⟩
        clear HK
        go_wp2_with fail
        refine (alive_any _).mono ?_
        rintro e w6 ⟨rfl, hN6⟩
        have HK6 : Hid (Keep w w6 g1 g2 k l1 l2 []) := Lib.hid ⟨HKe.out.c.nw hN6, HKe.out.d.nw hN6, fun s hs => (HKe.out.cd s hs).nw hN6, fun s hs => absurd hs List.not_mem_nil, HKe.out.nw.trans hN6⟩
        clear hN6 HKe
        go_wp2_with fail
        refine (HE2.out _ HK6.out).mono ?_
        rintro e w7 ⟨he, hN7⟩
        obtain rfl := he.tt HV2.out.symm
        have hW7 := HK6.out.nw.trans hN7
        clear he hN7
        go_wp2_with fail
        go_ret
        exact ⟨rfl, hW7⟩

open Go.ChangeShapes Go.WideShapes Go.ChangeAt Go.RowKit in
open Go.ChangeMaps (open_string shut_string) in
set_option linter.unusedVariables false in
set_option maxRecDepth 100000 in
theorem ModelClones_lifted (os : Os) (started : os.Started) (H : Type) (enc : TypeId × Value → H) :
    ReturnsInHanded {} Try.checked os 5 .any (Rows.modelClonesSpec.pre6 enc Try.prog Try.f5 Rows.modelClonesRow.domain false) (Rows.modelClonesSpec.post enc Try.prog Try.f5 false true false false) := by
  refine returnsInHanded_of_change (C := Try.checked) (by kernel_rfl) started (by kernel_rfl) Try.func5
    (ChangeSpec.witness6 (enc := enc) (C := Try.checked) false ⟨#[], #[.slice none 0 0], []⟩ 8 (by kernel_rfl) (by kernel_rfl) (by kernel_rfl) (by kernel_rfl)) ?_
  intro W base args ds gs before hval0 hW hcnd _
  have hval : ∀ (j : Nat) t v, Try.f5.params[j]? = some t → args[j]? = some v → Value.okWide Try.prog W .any base t v := hval0
  have hW' := hW
  obtain ⟨p, q, hA0, hV, rfl, hfz, hnd⟩ := hW
  have hA : DataW.TrodAll enc Try.prog W 0 (fun _ => true) true Try.f5.params.toList args.toList ds p := hA0
  rw [Try.params5] at hA hval
  obtain ⟨v0, vs0, d0, ds0, p0, q0, hargs, rfl, rfl, h0, r0⟩ := trodAll_cons hA
  obtain ⟨rfl, rfl, rfl⟩ := trodAll_nil r0
  obtain rfl : args = #[v0] := by cases args; simp_all
  obtain ⟨rfl, rfl⟩ := trodVars_none hV
  obtain ⟨a0, len0, cap0, rfl⟩ := okWide_slice Try.underlying22 (hval 0 22 v0 rfl rfl)
  have k0 := h0
  have lt0 : ∀ x ∈ p0, x.block < W.heap.size := by obtain ⟨m, hm⟩ := k0; exact DataW.trod_lt m _ _ _ hm
  obtain ⟨b0, z0, w0⟩ : ∃ b zs, InSer W b a0 len0 cap0 zs := by
    obtain ⟨fuel, hf⟩ := h0
    exact InSer.of_trod (by simpa [Value.cells] using hf)
  clear hA0 hval0
  refine (ModelClones_walk b0 a0 len0 cap0 z0 W w0).mono fun e W' ⟨he, bel⟩ => ?_
  subst he
  exact ⟨_, rfl, _, _, _, [], _, [], hW', trodAll_mk1 (shut_bool Try.underlying4 _), (trodAll_cons_mk (Below.trod (by kernel_rfl) (by kernel_rfl) (of_decide_eq_true (by kernel_rfl)) k0 bel lt0) trodAll_mk0), rfl, bel.frame _, fun h => by cases h⟩

/-- the statement -/
theorem ModelClones_holds : Rows.ModelClonesSaid :=
  OpenClaim.holds_of_wide 5 Try.f5 rfl rfl rfl rfl rfl rfl rfl ⟨rfl, rfl, rfl, rfl, rfl⟩ rfl rfl rfl rfl rfl (by kernel_rfl) Try.func5 (by kernel_rfl)
    (of_decide_eq_true (by kernel_rfl)) (by unfold Func.isWrapper; first | (rw [if_pos (by decide +kernel)]; kernel_rfl) | (rw [if_neg (by decide +kernel)]; exact ⟨rfl, rfl⟩))
    (fun os started H enc _ => ModelClones_lifted os started H enc)
#print axioms ModelClones_holds
end Go.Proofs.Ytoogadidbbpplaa
