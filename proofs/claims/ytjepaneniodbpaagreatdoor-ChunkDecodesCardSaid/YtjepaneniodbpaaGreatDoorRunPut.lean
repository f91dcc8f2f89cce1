import Derived.Test.YtjepaneniodbpaaGreatDoorTimPut
import Derived.Test.YtjepaneniodbpaaGreatDoorRunLaw

/- runval.runs as an iterator. -/
namespace Go.Proofs.YtjepaneniodbpaaGreatDoor
open Go Go.RowKit Go.Sort Go.Shelf
attribute [local go_sem] Oper.semAt_some

abbrev RunS := { r : Nat × Nat // r.1 < 18446744073709551616 ∧ 1 ≤ r.2 ∧ r.2 ≤ 128 }
abbrev runV (v c : Nat) : Value := .agg #[.int .u64 (v : Int), .int .i64 (c : Int)]

theorem runs_any (w : World) (A : Option Addr) (n c : Nat) : Calls Tryz.prog 72 #[.slice A n c] w fun e w' => e = .returned (.func (.func 93) #[] #[.pointer (some ⟨w.heap.size, 0, none⟩)]) ∧ w' = w.alloc (.cells #[.slice A n c] 44) := by
  go_enter Tryz.func72, Tryz.ntmps72
  go_wp2
  go_ret
  exact ⟨rfl, rfl⟩

theorem runF_end {v c : Nat} {l : List Nat} (h : ∀ x r, l = x :: r → ¬ (x = v ∧ c < 128)) : runF v c l = (v, c) :: runs l := by
  cases l with
  | nil => rfl
  | cons x r => rw [runF, if_neg (h x r rfl)]; rfl

set_option maxRecDepth 100000 in
set_option maxHeartbeats 2000000 in
theorem runs_stops (n : Nat) (hn : 1 ≤ n) (w : World) (B bl : Nat) (A : Option Addr) (c : Nat) (l : List Nat) (hm : l.length ≤ 1000000) (hl : ∀ x ∈ l, x < 18446744073709551616) (hB : w.heap[B]? = some (.cells #[.slice A l.length c] 44 (0, 0))) (hr : Rd w bl A (cN .u64 l)) :
    SeqStopsK Fence.wide n Tryz.prog 93 #[.pointer (some ⟨B, 0, none⟩)] (fun x : RunS => #[runV x.1.1 x.1.2]) (KpC B bl) (fun xs => xs.map (·.1) = runs l) (fun _ => True) (runs l).length w := by
  intro lp J Jx W hW hJ hJx hY h0
  have HL := Lib.hid hl
  have hBW := (hW.block B (lt_of_block hB)).trans hB
  have hrW := hr.nw hW
  have HY := Lib.hid hY
  have HJ := Lib.hid hJ
  have HB0 := Lib.hid hBW
  have HH := Lib.hid hrW
  clear hl hY hJ hB hr hBW hrW
  refine callsIn_of_wp Tryz.func93 rfl trivial ?_ rfl
  simp only [Tryz.ntmps93, List.size_toArray, List.length_cons, List.length_nil, Nat.reduceAdd, Nat.reduceSub, Array.replicate_succ, Array.replicate_zero, List.push_toArray, List.append_toArray, List.nil_append, List.cons_append]
  gi_wp2
  gi_loopw [3] (fun v3 wr => ∃ (pre : List RunS) (k : Nat), k ≤ l.length ∧ v3 = .int .i64 (k : Int) ∧ J pre wr ∧ KpC B bl W wr ∧ runs l = pre.map (·.1) ++ runs (l.drop k)) (fun v3 _ => l.length - (intOf v3).toNat)
  case atStart => exact ⟨[], 0, by omega, rfl, h0, ⟨rfl, rfl, Nat.le_refl _⟩, by simp⟩
  case round =>
    obtain ⟨pre, k, hk, rfl, hJp, hK, hrel⟩ := hrel
    have hBr : wr.cell? ⟨B, 0, none⟩ = some (.slice A l.length c) := by
      have := hK.1.trans HB0.out
      simp [World.cell?, this]
    have HREL := Lib.hid hrel
    have HK := Lib.hid hK
    clear hrel hK h0
    by_cases hlt : k < l.length
    · have hltI : (k : Int) < (l.length : Int) := by omega
      gi_wp2
      obtain ⟨o, rfl, hbl, hc0⟩ := (HH.out.kpc HK.out).get (k := k) (by simpa using hlt)
      rw [List.getElem_map] at hc0
      have hv := HL.out _ (List.getElem_mem hlt)
      have hd : l.drop k = l[k] :: l.drop (k + 1) := List.drop_eq_getElem_cons hlt
      generalize hvk : l[k] = v at *
      have HVK := Lib.hid hvk
      have HD := Lib.hid hd
      clear hd hvk
      obtain ⟨wo, hwo⟩ : ∃ wo, wo = wr := ⟨_, rfl⟩
      subst hwo
      have HR0 : Hid (Rd wo bl (some ⟨bl, o, none⟩) (cN .u64 l)) := Lib.hid (HH.out.kpc HK.out)
      gi_loopw [4] (fun v4 wq => ∃ c0 : Nat, 1 ≤ c0 ∧ c0 ≤ 128 ∧ k + c0 ≤ l.length ∧ v4 = .int .i64 ((k : Int) + (c0 : Int)) ∧ Dr wo wq ∧ runs (l.drop k) = runF v c0 (l.drop (k + c0))) (fun v4 _ => l.length + 1 - (intOf v4).toNat)
      case atStart => exact ⟨1, by omega, by omega, by omega, rfl, Dr.refl _, by rw [HD.out]; rfl⟩
      case round =>
        obtain ⟨c0, h1, h128, hkl, rfl, ⟨q, rfl⟩, hrun⟩ := hrel
        have HRUN := Lib.hid hrun
        clear hrun
        have hwr : IntKind.i64.wrap (c0 : Int) = (c0 : Int) := IntWalk.i64_in _ (by omega)
        have hsub : (k : Int) + (c0 : Int) - (k : Int) = (c0 : Int) := by omega
        by_cases hA : k + c0 < l.length
        · have hAI : (k : Int) + (c0 : Int) < (l.length : Int) := by omega
          have hAd : decide ((k : Int) + (c0 : Int) < (l.length : Int)) = true := by simp; omega
          have hA0 : (0 : Int) ≤ (k : Int) + (c0 : Int) := by omega
          have hA2 : ((k : Int) + (c0 : Int)).toNat = k + c0 := by omega
          by_cases hB : c0 < 128
          · have hBI : (c0 : Int) < 128 := by omega
            have hBd : decide ((c0 : Int) < 128) = true := by simp; omega
            obtain ⟨o', ho', _, hc1⟩ := HR0.out.get (k := k + c0) (by simpa using hA)
            obtain rfl : o = o' := by simpa using ho'
            rw [List.getElem_map] at hc1
            have hd1 : l.drop (k + c0) = l[k + c0] :: l.drop (k + c0 + 1) := List.drop_eq_getElem_cons hA
            generalize l[k + c0] = x at *
            have HD1 := Lib.hid hd1
            clear hd1 ho'
            by_cases hx : x = v
            · subst hx
              have HX := Lib.hid (show runs (l.drop k) = runF x (c0 + 1) (l.drop (k + (c0 + 1))) from by rw [HRUN.out, HD1.out, runF, if_pos ⟨rfl, hB⟩, Nat.add_assoc])
              gi_wp2_with fail
              refine wpIn_wide.2 ?_
              refine wp_region_quiet_lit (by kernel_rfl) (by kernel_rfl) ?_
              repeat (with_reducible refine wpQuiet_step ?_; intro K hK; go_simp; refine hK _ ?_; clear hK K)
              with_reducible refine wpQuiet_nil ?_
              rintro _ ⟨nq, rfl⟩
              gi_wp2
              go_roundw
              case rel => exact ⟨c0 + 1, by omega, by omega, by omega, by simp; omega, ⟨q + nq, rfl⟩, HX.out⟩
              case measure => simp [intOf]; omega
            · have hxq : ((x : Int) == (v : Int)) = false := by rw [beq_eq_false_iff_ne]; omega
              have hend : ∀ y r, l.drop (k + c0) = y :: r → ¬ (y = v ∧ c0 < 128) := by
                intro y r e h
                rw [HD1.out] at e
                injection e with e1 e2
                exact hx (e1.trans h.1)
              clear hx
              gi_wp2_with fail
              refine wpIn_wide.2 ?_
              refine wp_region_quiet_lit (by kernel_rfl) (by kernel_rfl) ?_
              repeat (with_reducible refine wpQuiet_step ?_; intro K hK; go_simp; refine hK _ ?_; clear hK K)
              with_reducible refine wpQuiet_nil ?_
              rintro _ ⟨nq, rfl⟩
              have hJ2 : J pre (wo.drewN (q + nq)) := HJ.out pre wo _ none hJp ⟨rfl, rfl, rfl, Nat.le_refl _, fun _ _ _ => rfl⟩ (fun r e => by cases e)
              have hnext : runs l = (pre ++ ([⟨(v, c0), hv, h1, h128⟩] : List RunS)).map (·.1) ++ runs (l.drop (k + c0)) := by
                rw [HREL.out, HRUN.out, runF_end (by
                  intro x r e
                  exact hend x r e)]
                simp
              have hplen : pre.length < (runs l).length := by rw [hnext]; simp
              obtain ⟨fn, tmps, assign, body, hy, hR⟩ := HY.out pre ⟨(v, c0), hv, h1, h128⟩ _ hJ2 hplen
              have HR := Lib.hid hR
              have HNX := Lib.hid hnext
              have HSZ := Lib.hid hkl
              clear hR hJp hJ2 hnext hend hplen
              gi_wp2
              refine HR.out.mono ?_
              rintro e W3 (⟨rfl, hJ3, hk3⟩ | ⟨rfl, hJx3⟩)
              · gi_wp2
                go_roundw
                case rel => exact ⟨_, k + c0, HSZ.out, by simp, hJ3, HK.out.trans hk3, HNX.out⟩
                case measure => simp [intOf]; omega
              · gi_wp2
                refine bodyPost_ret (results_none rfl _ _ _) rfl ?_
                exact ⟨⟨_, rfl⟩, .inr ⟨_, trivial, hJx3⟩⟩
          · have hBd : decide ((c0 : Int) < 128) = false := by simp; omega
            have hBI : ¬ (c0 : Int) < 128 := by omega
            have hend : ∀ y r, l.drop (k + c0) = y :: r → ¬ (y = v ∧ c0 < 128) := fun y r e h => hB h.2
            clear hB
            gi_wp2_with fail
            refine wpIn_wide.2 ?_
            refine wp_region_quiet_lit (by kernel_rfl) (by kernel_rfl) ?_
            repeat (with_reducible refine wpQuiet_step ?_; intro K hK; go_simp; refine hK _ ?_; clear hK K)
            with_reducible refine wpQuiet_nil ?_
            rintro _ ⟨nq, rfl⟩
            have hJ2 : J pre (wo.drewN (q + nq)) := HJ.out pre wo _ none hJp ⟨rfl, rfl, rfl, Nat.le_refl _, fun _ _ _ => rfl⟩ (fun r e => by cases e)
            have hnext : runs l = (pre ++ ([⟨(v, c0), hv, h1, h128⟩] : List RunS)).map (·.1) ++ runs (l.drop (k + c0)) := by
              rw [HREL.out, HRUN.out, runF_end (by
                intro x r e
                exact hend x r e)]
              simp
            have hplen : pre.length < (runs l).length := by rw [hnext]; simp
            obtain ⟨fn, tmps, assign, body, hy, hR⟩ := HY.out pre ⟨(v, c0), hv, h1, h128⟩ _ hJ2 hplen
            have HR := Lib.hid hR
            have HNX := Lib.hid hnext
            have HSZ := Lib.hid hkl
            clear hR hJp hJ2 hnext hend hplen
            gi_wp2
            refine HR.out.mono ?_
            rintro e W3 (⟨rfl, hJ3, hk3⟩ | ⟨rfl, hJx3⟩)
            · gi_wp2
              go_roundw
              case rel => exact ⟨_, k + c0, HSZ.out, by simp, hJ3, HK.out.trans hk3, HNX.out⟩
              case measure => simp [intOf]; omega
            · gi_wp2
              refine bodyPost_ret (results_none rfl _ _ _) rfl ?_
              exact ⟨⟨_, rfl⟩, .inr ⟨_, trivial, hJx3⟩⟩
        · have hAd : decide ((k : Int) + (c0 : Int) < (l.length : Int)) = false := by simp; omega
          have hend : ∀ y r, l.drop (k + c0) = y :: r → ¬ (y = v ∧ c0 < 128) := by
            intro y r e
            rw [List.drop_eq_nil_of_le (by omega)] at e
            cases e
          clear hA
          gi_wp2_with fail
          refine wpIn_wide.2 ?_
          refine wp_region_quiet_lit (by kernel_rfl) (by kernel_rfl) ?_
          repeat (with_reducible refine wpQuiet_step ?_; intro K hK; go_simp; refine hK _ ?_; clear hK K)
          with_reducible refine wpQuiet_nil ?_
          rintro _ ⟨nq, rfl⟩
          have hJ2 : J pre (wo.drewN (q + nq)) := HJ.out pre wo _ none hJp ⟨rfl, rfl, rfl, Nat.le_refl _, fun _ _ _ => rfl⟩ (fun r e => by cases e)
          have hnext : runs l = (pre ++ ([⟨(v, c0), hv, h1, h128⟩] : List RunS)).map (·.1) ++ runs (l.drop (k + c0)) := by
            rw [HREL.out, HRUN.out, runF_end (by
              intro x r e
              exact hend x r e)]
            simp
          have hplen : pre.length < (runs l).length := by rw [hnext]; simp
          obtain ⟨fn, tmps, assign, body, hy, hR⟩ := HY.out pre ⟨(v, c0), hv, h1, h128⟩ _ hJ2 hplen
          have HR := Lib.hid hR
          have HNX := Lib.hid hnext
          have HSZ := Lib.hid hkl
          clear hR hJp hJ2 hnext hend hplen
          gi_wp2
          refine HR.out.mono ?_
          rintro e W3 (⟨rfl, hJ3, hk3⟩ | ⟨rfl, hJx3⟩)
          · gi_wp2
            go_roundw
            case rel => exact ⟨_, k + c0, HSZ.out, by simp, hJ3, HK.out.trans hk3, HNX.out⟩
            case measure => simp [intOf]; omega
          · gi_wp2
            refine bodyPost_ret (results_none rfl _ _ _) rfl ?_
            exact ⟨⟨_, rfl⟩, .inr ⟨_, trivial, hJx3⟩⟩
    · have hltI : ¬ (k : Int) < (l.length : Int) := by omega
      gi_wp2
      go_end0
      refine ⟨⟨_, rfl⟩, .inl ⟨pre, ?_, hJp⟩⟩
      rw [HREL.out, List.drop_eq_nil_of_le (by omega)]
      simp [runs]
end Go.Proofs.YtjepaneniodbpaaGreatDoor

/- runval.Size and Put. -/
namespace Go.Proofs.YtjepaneniodbpaaGreatDoor
open Go Go.RowKit Go.Sort Go.Shelf
attribute [local go_sem] Oper.semAt_some

/-- what Size has counted, between two rounds -/
def RSI (w : World) (pre : List RunS) (W : World) : Prop :=
  W.heap[w.heap.size]? = some (.cells #[.int .i64 ((71 * pre.length : Nat) : Int)] 3 (0, 0)) ∧ Nw w W ∧ w.heap.size + 1 < W.heap.size
theorem RSI.own {w : World} {D : Nat} (hD : w.heap.size + 2 ≤ D) : OwnFrom D (RSI w) := by
  intro pre W W' row h hg hr
  obtain ⟨h1, h2, h3⟩ := h
  exact ⟨(hg.block _ (lt_of_block h1) (fun e => by have := (hr _ e.symm).1; omega)).trans h1, h2.grown' hg (fun k e => by have := (hr _ e).1; omega), Nat.lt_of_lt_of_le h3 hg.size⟩

set_option maxRecDepth 100000 in
theorem rSize_any (w : World) (bl : Nat) (A : Option Addr) (n c : Nat) (l : List Nat) (hn : n = l.length) (hm : n ≤ 10000) (hr : Rd w bl A (cN .u64 l)) (hbl : bl < w.heap.size) (hx : ∀ x ∈ l, x < 18446744073709551616) :
    Calls Tryz.prog 41 #[.slice A n c] w fun e w' => e = .returned (.int .i64 ((rput l).length : Int)) ∧ Nw w w' := by
  subst hn
  have hw1 : Nw w (w.alloc (.cells #[.int .i64 0] 3)) := (Nw.refl w).alloc' _
  refine (callsIn_wide (n := 4)).1 ?_
  refine callsIn_of_wp_marks Tryz.func41 rfl trivial ?_ rfl
  simp only [Tryz.ntmps41, List.size_toArray, List.length_cons, List.length_nil, Nat.reduceAdd, Nat.reduceSub, Array.replicate_succ, Array.replicate_zero, List.push_toArray, List.append_toArray, List.nil_append, List.cons_append]
  have HC := Lib.hid fun W A n c => runs_any W A n c
  gi_wp2_with (first | (refine ⟨trivial, ?_⟩; gi_at_call 72; refine (callsIn_wide.2 (HC.out _ _ _ _)).mono ?_; rintro e w4 ⟨rfl, rfl⟩) | (gi_at_call 72; refine (callsIn_wide.2 (HC.out _ _ _ _)).mono ?_; rintro e w4 ⟨rfl, rfl⟩))
  have hsz : ((w.alloc (.cells #[.int .i64 0] 3)).alloc (.cells #[.slice A l.length c] 44)).heap.size = w.heap.size + 2 := by simp
  have hbb : ((w.alloc (.cells #[.int .i64 0] 3)).alloc (.cells #[.slice A l.length c] 44)).heap[w.heap.size + 1]? = some (.cells #[.slice A l.length c] 44 (0, 0)) := by
    have := heap_alloc_new (w.alloc (.cells #[.int .i64 0] 3)) (.cells #[.slice A l.length c] 44)
    rwa [World.size_alloc] at this
  have hW0 : Nw w ((w.alloc (.cells #[.int .i64 0] 3)).alloc (.cells #[.slice A l.length c] 44)) := hw1.alloc' _
  have hrd := hr.nw hW0
  refine wpIn_rangeFunc_ownG (F := Fence.wide) (n := 4) rfl (by omega) (gf := 93) (lb := #[.pointer (some ⟨w.heap.size + 1, 0, none⟩)]) rfl trivial (enters_of Tryz.func93 (by kernel_rfl) rfl)
    (runs_stops 3 (by omega) _ (w.heap.size + 1) bl A c l (by omega) hx hbb hrd)
    KpC.trans (fun W lq o o' h1 _ _ _ => KpC.putObj _ _ W lq o' (by have := hsz; omega) (by have := hsz; omega)) (Below.refl _ _) (fun _ => rfl)
    (RSI w) (fun _ _ _ => False) (RSI.own (by have := hsz; omega)) (fun _ _ _ _ _ hs _ _ => hs) ?start ?a1 ?assign ?body ?done ?stop
  case assign =>
    intro l x W K hK
    gi_wp2
    exact hK
  case stop =>
    intro D c pre W _ _ h _
    exact h.elim
  case start =>
    exact ⟨(Below.heap_alloc _ _ _ (by simp)).trans (heap_alloc_new w _), hW0, by rw [hsz]; omega⟩
  case body =>
    intro lq pre x W hI hlt
    obtain ⟨hb, hN, hs⟩ := hI
    have hlen := runs_length_le l
    have hc : W.cell? ⟨w.heap.size, 0, none⟩ = some (.int .i64 ((71 * pre.length : Nat) : Int)) := by simp [World.cell?, hb]
    have hf : W.frozen? ⟨w.heap.size, 0, none⟩ = false := by simp [World.frozen?, hb]
    have HB := Lib.hid hb
    obtain ⟨m, hm'⟩ : ∃ m, m = 71 * pre.length := ⟨_, rfl⟩
    rw [← hm'] at hc HB
    have HM := Lib.hid hm'
    have hml : m ≤ 1000000 := by omega
    clear hm' hb
    gi_wp2
    have hk : Kp w.heap.size w.heap.size W (W.setCell ⟨w.heap.size, 0, none⟩ (.int .i64 ((m : Int) + 71))) := (Kp.refl _ _ _).setCell' (p := ⟨w.heap.size, 0, none⟩) (.inl rfl) _
    refine ⟨⟨hk.size, fun k o hk1 ho hoc => ?_⟩, ⟨hk.block _ hs (by omega) (by omega), hk.block _ (by omega) (by omega) (by omega), hk.size⟩, ?_, Kp.nw hN hk (Nat.le_refl _) (Nat.le_refl _), Nat.lt_of_lt_of_le hs hk.size⟩
    · exact (hk.block k (lt_of_block ho) (by omega) (by omega)).trans ho
    · rw [show (((71 * (pre ++ [x]).length : Nat)) : Int) = (m : Int) + 71 from by rw [HM.out]; simp; omega]
      simp [World.setCell, Array.getElem?_modify, HB.out]
  case done =>
    intro D ys W hD hS hI hK
    obtain ⟨hb, hN, hs⟩ := hI
    have hc : W.cell? ⟨w.heap.size, 0, none⟩ = some (.int .i64 ((71 * ys.length : Nat) : Int)) := by simp [World.cell?, hb]
    have hyl : ys.length = (runs l).length := by rw [← hS]; simp
    have hv : ((71 * ys.length : Nat) : Int) = ((rput l).length : Int) := by rw [rput_length, hyl]
    rw [hv] at hc
    clear hv hS
    gi_wp2
    refine ⟨by simp, .inl ⟨_, _, rfl, run_takeDeferred hK, ?_⟩⟩
    exact ⟨_, results_tmp rfl _ _ _, rfl, hN.grown' (grownBy_putObj' W D _) (fun k e => by cases e; have := hsz; omega)⟩

/-- a writer that holds bits: its bytes lie in a block of bytes -/
theorem Wtr.cells8 {w : World} {g b : Nat} {bs : List Bool} (h : Wtr w g b bs) (hne : bs ≠ []) : ∃ cs fr, w.heap[b]? = some (.cells cs 5 fr) := by
  obtain ⟨⟨A, c, hb, hO, hA1, hA2⟩, h3⟩ := h
  rcases hO with ⟨rfl, h1, h2, h4⟩ | ⟨rfl, hlt2, hO⟩
  · rw [pk_length] at h1
    exact absurd (List.eq_nil_of_length_eq_zero (by omega)) hne
  · rcases hO.2 with ⟨hv, _⟩ | ⟨g0, cap, cur, hv, hbg, hh, r⟩
    · cases hv
    · have hg0 : b = g0 := by injection hv with x; injection x with x; injection x
      subst hg0
      exact ⟨_, _, hh⟩

/-- what Put has written, between two rounds -/
def RPI (w : World) (gw b0 : Nat) (bs : List Bool) (pre : List RunS) (W : World) : Prop :=
  (∃ b', Wtr W gw b' (bs ++ (pre.map (·.1)).flatMap rbits) ∧ (b' = b0 ∨ (w.heap.size ≤ b' ∧ b' ≠ w.heap.size ∧ b' ≠ w.heap.size + 1))) ∧ Kp gw b0 w W ∧ W.heap[w.heap.size]? = some (.cells #[.pointer (some ⟨gw, 0, none⟩)] 49 (0, 0)) ∧ w.heap.size + 1 < W.heap.size
theorem RPI.own {w : World} {gw b0 D : Nat} {bs : List Bool} (hD : w.heap.size + 2 ≤ D) : OwnFrom D (RPI w gw b0 bs) := by
  intro pre W W' row h hg hr
  obtain ⟨⟨b', hW, hb'⟩, hK, hBx, hBs⟩ := h
  refine ⟨⟨b', hW.own hg (fun r e => (hr r e).2), hb'⟩, hK.grown hg (fun k e => .inr (.inr (by have := (hr k e).1; omega))), ?_, Nat.lt_of_lt_of_le hBs hg.size⟩
  exact (hg.block _ (lt_of_block hBx) (fun e => by have := (hr _ e.symm).1; omega)).trans hBx

theorem rbits_flat (l : List (Nat × Nat)) : (l.flatMap rbits).length = 71 * l.length := by
  induction l with
  | nil => rfl
  | cons x l ih => simp only [List.flatMap_cons, List.length_append, rbits_length, List.length_cons, ih]; omega

set_option maxRecDepth 100000 in
set_option maxHeartbeats 1000000 in
theorem rPut_any (w : World) (gw b0 bl : Nat) (A : Option Addr) (n c : Nat) (bs : List Bool) (l : List Nat) (hW : Wtr w gw b0 bs) (hne : bs ≠ []) (hbs : bs.length ≤ 1000000000) (hn : n = l.length) (hm : n ≤ 10000) (hr : Rd w bl A (cN .u64 l)) (hbl : bl < w.heap.size) (hx : ∀ x ∈ l, x < 18446744073709551616)
    (h1 : bl ≠ gw) (h2 : bl ≠ b0) :
    Calls Tryz.prog 42 #[.pointer (some ⟨gw, 0, none⟩), .slice A n c] w fun e w' => e = .returned (.int .i64 0) ∧ ∃ b', Wtr w' gw b' (bs ++ rput l) ∧ (b' = b0 ∨ w.heap.size ≤ b') ∧ Kp gw b0 w w' := by
  subst hn
  have hgw := hW.glt
  have hb0 := hW.lt
  have hnil : ∀ W, (binOp .eql 49 (.pointer (some ⟨gw, 0, none⟩)) (.pointer none)).run Tryz.prog W = .ok (.bool false) W := fun _ => by kernel_rfl
  have hw1 : Nw w (w.alloc (.cells #[.pointer (some ⟨gw, 0, none⟩)] 49)) := (Nw.refl w).alloc' _
  refine (callsIn_wide (n := 4)).1 ?_
  refine callsIn_of_wp_marks Tryz.func42 rfl trivial ?_ rfl
  simp only [Tryz.ntmps42, List.size_toArray, List.length_cons, List.length_nil, Nat.reduceAdd, Nat.reduceSub, Array.replicate_succ, Array.replicate_zero, List.push_toArray, List.append_toArray, List.nil_append, List.cons_append]
  have HC := Lib.hid fun W A n c => runs_any W A n c
  gi_wp2_with (first | (refine ⟨trivial, ?_⟩; gi_at_call 72; refine (callsIn_wide.2 (HC.out _ _ _ _)).mono ?_; rintro e w4 ⟨rfl, rfl⟩) | (gi_at_call 72; refine (callsIn_wide.2 (HC.out _ _ _ _)).mono ?_; rintro e w4 ⟨rfl, rfl⟩))
  have hsz : ((w.alloc (.cells #[.pointer (some ⟨gw, 0, none⟩)] 49)).alloc (.cells #[.slice A l.length c] 44)).heap.size = w.heap.size + 2 := by simp
  have hbb : ((w.alloc (.cells #[.pointer (some ⟨gw, 0, none⟩)] 49)).alloc (.cells #[.slice A l.length c] 44)).heap[w.heap.size + 1]? = some (.cells #[.slice A l.length c] 44 (0, 0)) := by
    have := heap_alloc_new (w.alloc (.cells #[.pointer (some ⟨gw, 0, none⟩)] 49)) (.cells #[.slice A l.length c] 44)
    rwa [World.size_alloc] at this
  have hW0 : Nw w ((w.alloc (.cells #[.pointer (some ⟨gw, 0, none⟩)] 49)).alloc (.cells #[.slice A l.length c] 44)) := hw1.alloc' _
  have hrd := hr.nw hW0
  refine wpIn_rangeFunc_ownH (F := Fence.wide) (n := 4) rfl (by omega) (gf := 93) (lb := #[.pointer (some ⟨w.heap.size + 1, 0, none⟩)]) rfl trivial (enters_of Tryz.func93 (by kernel_rfl) rfl)
    (runs_stops 3 (by omega) _ (w.heap.size + 1) bl A c l (by omega) hx hbb hrd)
    KpC.trans (fun W lq o o' h1 _ _ _ => KpC.putObj _ _ W lq o' (by have := hsz; omega) (by have := hsz; omega)) (Below.refl _ _) (fun _ => rfl)
    (RPI w gw b0 bs) (fun _ _ _ => False) (RPI.own (by have := hsz; omega)) (fun _ _ _ _ _ hs _ _ => hs) ?start (fun x a' W => ∃ Bx, W.heap[Bx]? = some (.cells #[.int .u64 (x.1.1 : Int), .int .i64 (x.1.2 : Int)] 130 (0, 0)) ∧ a' = { tmps := #[.pointer (some ⟨gw, 0, none⟩), .slice A l.length c, .pointer (some ⟨w.heap.size, 0, none⟩), undef, .int .i64 0, .pointer (some ⟨Bx, 0, none⟩), .pointer (some ⟨gw, 0, none⟩), .bool false, .slice A l.length c, .func (.func 93) #[] #[.pointer (some ⟨w.heap.size + 1, 0, none⟩)], runV x.1.1 x.1.2, undef, undef, undef, undef, undef, undef, undef, undef, undef, undef], defers := [] }) ?ax ?assign ?body ?done ?stop
  case ax =>
    intro x a' _ W W' row h hg hr
    obtain ⟨Bx, h1, h2⟩ := h
    refine ⟨Bx, (hg.block _ (lt_of_block h1) ?_).trans h1, h2⟩
    intro e
    obtain ⟨o, h3, h4⟩ := (hr _ e.symm).2
    rw [h1] at h3
    cases h3
    cases h4
  case assign =>
    intro lq pre x W K hI hK
    gi_wp2
    have hN : Nw W (W.alloc (.cells #[.int .u64 (x.1.1 : Int), .int .i64 (x.1.2 : Int)] 130)) := (Nw.refl W).alloc' _
    obtain ⟨⟨b', hWt, hb'⟩, hKw, hbx, hBs⟩ := hI
    have hWs := hKw.size
    refine hK _ _ ((KeepsOthers.alloc _ _).from _) ⟨Below.heap_alloc _ _ _ hBs, Below.heap_alloc _ _ _ (by omega), hN.size⟩ ⟨⟨b', hWt.nw hN, hb'⟩, hKw.nw' hN, (Below.heap_alloc _ _ _ (lt_of_block hbx)).trans hbx, Nat.lt_of_lt_of_le hBs hN.size⟩ ⟨W.heap.size, heap_alloc_new W _, rfl⟩
  case stop =>
    intro D c pre W _ _ h _
    exact h.elim
  case start =>
    refine ⟨⟨b0, by simpa using hW.nw hW0, .inl rfl⟩, hW0.kp _ _, (Below.heap_alloc _ _ _ (by simp)).trans (heap_alloc_new w _), by rw [hsz]; omega⟩
  case body =>
    rintro lq pre ⟨⟨v, c0⟩, hv, hc1, hc2⟩ a' W _ _ hI ⟨Bx, hBx, rfl⟩ hlt
    obtain ⟨⟨b', hWt, hb'⟩, hKw, hbx, hBs⟩ := hI
    simp only at hv hc1 hc2 hBx
    have hlen := runs_length_le l
    have hfl := rbits_flat (pre.map (·.1))
    have hpl : (pre.map (·.1)).length = pre.length := by simp
    have htl : (bs ++ (pre.map (·.1)).flatMap rbits).length ≤ 1000800000 := by rw [List.length_append, hfl, hpl]; omega
    have hcs := hWt.cells (by intro h; exact hne (List.append_eq_nil_iff.1 h).1)
    have hcb : W.cell? ⟨w.heap.size, 0, none⟩ = some (.pointer (some ⟨gw, 0, none⟩)) := by simp [World.cell?, hbx]
    have hbl' := lt_of_block hbx
    have hn1 : w.heap.size ≠ gw := by omega
    have hn2 : w.heap.size ≠ b' := by rcases hb' with h | h <;> omega
    have hBl := lt_of_block hBx
    have hd0 : W.cell? ⟨Bx, 0, none⟩ = some (.int .u64 (v : Int)) := by simp [World.cell?, hBx]
    have hxb : Bx ≠ b' := by
      rintro rfl
      obtain ⟨cs, fr, hcs⟩ := hWt.cells8 (by intro h; exact hne (List.append_eq_nil_iff.1 h).1)
      rw [hcs] at hBx
      injection hBx with h
      injection h with _ h _
      exact absurd h (by decide)
    have hxg : Bx ≠ gw := by
      rintro rfl
      obtain ⟨⟨A', c', hb, _⟩, _⟩ := hWt
      rw [hb] at hBx
      injection hBx with h
      injection h with _ h _
      exact absurd h (by decide)
    have HB1 := Lib.hid (WBits_any _ gw b' _ v 64 hWt (by omega) hv (by omega))
    have HWT := Lib.hid hWt
    have hc0I : (1 : Int) ≤ (c0 : Int) := by omega
    gi_wp2_with fail
    refine ⟨trivial, ?_⟩
    refine (CallsIn.inRound lq (callsIn_wide.2 HB1.out)).mono ?_
    rintro e w4 ⟨rfl, b4, hW4, hb4, hK4'⟩
    have hsz4 := hK4'.size
    have hfb := (hK4'.block _ hBl hxg hxb).trans hBx
    have hc4 : w4.cell? ⟨Bx, 1, none⟩ = some (.int .i64 (c0 : Int)) := by simp [World.cell?, hfb]
    have hcb4 : w4.cell? ⟨w.heap.size, 0, none⟩ = some (.pointer (some ⟨gw, 0, none⟩)) := (World.cell?_of_block (hK4'.block _ hbl' hn1 hn2)).trans hcb
    have HB2 : Hid (Calls Tryz.prog 18 #[.pointer (some ⟨gw, 0, none⟩), .int .u64 ((c0 : Int) - 1), .int .i64 7] w4 fun e w' => e = .returned (.int .i64 0) ∧ ∃ b', Wtr w' gw b' (bs ++ (pre.map (·.1)).flatMap rbits ++ bitsOf v 64 ++ bitsOf (c0 - 1) 7) ∧ (b' = b4 ∨ w4.heap.size ≤ b') ∧ Kp gw b4 w4 w') := by
      have h := WBits_any w4 gw b4 _ (c0 - 1) 7 hW4 (by omega) (by omega) (by rw [List.length_append, bitsOf_length]; omega)
      rw [show ((c0 - 1 : Nat) : Int) = (c0 : Int) - 1 from by omega] at h
      exact Lib.hid h
    have HK4 := Lib.hid hK4'
    clear hfb hK4'
    gi_wp2_with fail
    refine ⟨trivial, ?_⟩
    refine (CallsIn.inRound lq (callsIn_wide.2 HB2.out)).mono ?_
    rintro e w5 ⟨rfl, b5, hW5, hb5, hK5⟩
    gi_wp2
    have hkw5 : Kp gw b' W w5 := by
      refine HK4.out.trans hK5 (.inl rfl) ?_
      rcases hb4 with rfl | hb4
      · exact .inr (.inl rfl)
      · right; right; omega
    have hb5' : b5 = b' ∨ W.heap.size ≤ b5 := by
      rcases hb5 with rfl | hb5
      · rcases hb4 with rfl | hb4
        · exact .inl rfl
        · right; omega
      · right; omega
    have hWs := hKw.size
    refine ⟨⟨hkw5.size, fun k o hk ho hoc => ?_⟩, ⟨hkw5.block _ hBs (by omega) (by rcases hb' with h | h <;> omega), hkw5.block _ (by omega) h1 (by rcases hb' with h | h <;> omega), hkw5.size⟩, ⟨b5, ?_, ?_⟩, hKw.trans hkw5 (.inl rfl) (by rcases hb' with h | h; exact .inr (.inl h); exact .inr (.inr h.1)), (hkw5.block _ hbl' hn1 hn2).trans hbx, Nat.lt_of_lt_of_le hBs hkw5.size⟩
    · refine (hkw5.block k (lt_of_block ho) ?_ ?_).trans ho
      · rintro rfl
        omega
      · rintro rfl
        obtain ⟨cs, ty, fr, hcs⟩ := hcs
        rw [hcs] at ho
        cases ho
        cases hoc
    · simpa [rbits] using hW5
    · rcases hb5' with rfl | h2'
      · exact hb'
      · right; omega
  case done =>
    intro D ys W hD hS hI hK
    gi_wp2
    refine ⟨by simp, .inl ⟨_, _, rfl, run_takeDeferred hK, ?_⟩⟩
    obtain ⟨⟨b', hWt, hb'⟩, hKp, _⟩ := hI
    have hg := grownBy_putObj' W D (.deferred none)
    refine ⟨_, results_tmp rfl _ _ _, rfl, b', ?_, by rcases hb' with h | h; exact .inl h; exact .inr h.1, hKp.grown hg (fun k e => by cases e; exact .inr (.inr (by have := hsz; omega)))⟩
    unfold rput
    rw [← hS]
    exact hWt.own hg (fun r e => by cases e; exact ⟨_, hK, rfl⟩)
end Go.Proofs.YtjepaneniodbpaaGreatDoor
