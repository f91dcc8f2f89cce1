/- The reference of chunk: Decode at every slice of bytes. -/
import Derived.Test.YtjepaneniodbpaaGreatDoorRDec
namespace Go.Proofs.YtjepaneniodbpaaGreatDoor
open Go Go.RowKit Go.Sort

theorem cget_main {tag n1 : Nat} (r : List Nat) (ht : 1 ≤ tag ∧ tag ≤ 3) (h : n1 < 120) : cget (tag :: n1 :: r) = match tget (n1 + 1) (up r) with
      | .error e => .error e
      | .ok (ts, bs) =>
        match vget tag (n1 + 1) bs with
        | .error e => .error e
        | .ok (vs, bs') => if endE bs' ≠ 0 then .error (endE bs') else if tagOf vs ≠ tag then .error 8 else .ok (ts, vs) := by
  unfold cget
  dsimp only
  rw [if_neg (by omega), if_neg (by omega)]
  rfl

set_option maxRecDepth 100000 in
set_option maxHeartbeats 3200000 in
theorem RDecode_main (w : World) (b : Nat) (A : Option Addr) (n c tag n1 : Nat) (r : List Nat) (hn : n = r.length + 2) (hnc : n ≤ c) (hc2 : c ≠ 2) (hm : n ≤ 1000000) (hr : Rd w b A (cN .u8 (tag :: n1 :: r))) (hby : ∀ x ∈ r, x < 256) (ht : 1 ≤ tag ∧ tag ≤ 3) (h : n1 < 120) :
    Calls Tryz.prog 12 #[.slice A n c] w (DcGot w (cget (tag :: n1 :: r))) := by
  have hcg := cget_main r ht h
  obtain ⟨D, hD⟩ : ∃ D, D = cget (tag :: n1 :: r) := ⟨_, rfl⟩
  rw [← hD]
  rw [hcg] at hD
  clear hcg
  obtain ⟨o, rfl, hb, hc⟩ := hr.get (k := 0) (by simp)
  obtain ⟨o', e, _, hc1⟩ := hr.get (k := 1) (by simp)
  injection e with e; injection e with _ e; subst e
  simp only [Nat.add_zero, cN, List.map_cons, List.getElem_cons_zero, List.getElem_cons_succ] at hc hc1
  have hcut := hr.cut (k := 2) (cap := c) (size := 1) (by simp; omega)
  rw [if_neg hc2] at hcut
  simp only [Option.map_some, add_lit', Nat.mul_one, List.drop_succ_cons, List.drop_zero, cN, List.map_cons] at hcut
  have HC := Lib.hid hcut
  have i0 : (0 : Int) < (n : Int) := by omega
  have i1 : (1 : Int) < (n : Int) := by omega
  have n0 : ((n : Int) == 0) = false := by rw [beq_eq_false_iff_ne]; omega
  have n1' : ((n : Int) == 1) = false := by rw [beq_eq_false_iff_ne]; omega
  have HN := Lib.hid hn
  have HB := Lib.hid hby
  obtain ⟨N, hN⟩ : ∃ N, n1 + 1 = N := ⟨_, rfl⟩
  rw [hN] at hD
  have HD := Lib.hid hD
  have ek : ((n1 : Int) + 1) = (N : Int) := by omega
  have hN1 : 1 ≤ N := by omega
  have hN2 : N ≤ 120 := by omega
  have EK := Lib.hid ek
  have HU := Lib.hid fun W (hW : Nw w W) => Unpack_any W b (some ⟨b, o + 2, none⟩) (n - 2) (c - 2) r (by omega) (by omega) (HC.out.nw hW) hby
  obtain ⟨t1, t2⟩ := ht
  clear hr hn hby hcut ek hN hD
  go_enter Tryz.func12, Tryz.ntmps12
  go_wp2_with fail
  rw [EK.out]
  refine (HU.out _ (Nw.refl _)).mono ?_
  rintro e w2 ⟨b2, A2, c2, rfl, hO2, hb2, hN2⟩
  have hs2 := hN2.size
  obtain ⟨b3, hQ, hb3⟩ := qr_new hO2 (by rw [up_length]; have := HN.out; omega) (by omega)
  have hN3 : Nw w (w2.alloc (.cells #[.slice A2 (8 * r.length) c2] 76)) := hN2.alloc' _
  have hsg : w2.heap.size < (w2.alloc (.cells #[.slice A2 (8 * r.length) c2] 76)).heap.size := by simp
  clear hO2 HU hc hc1
  go_wp2_with fail
  obtain ⟨g, hg⟩ : ∃ g, g = w2.heap.size := ⟨_, rfl⟩
  rw [← hg] at hQ hb3 hsg ⊢
  have hgw : w.heap.size ≤ g := by omega
  clear hg
  generalize w2.alloc (.cells #[.slice A2 (8 * r.length) c2] 76) = w3 at *
  have hs3 := hN3.size
  have hH7 := RTGet_any w3 g b3 (up r) N hQ (by omega) hN1 (by omega)
  obtain ⟨X, hX⟩ : ∃ X, tget N (up r) = X := ⟨_, rfl⟩
  rw [hX] at hH7
  have HX := Lib.hid hX
  have H7 := Lib.hid hH7
  have HN3 := Lib.hid hN3
  clear hX hH7 hQ hN3 hN2
  cases X with
  | error k =>
    refine H7.out.mono ?_
    rintro e w4 ⟨⟨rfl, hk⟩, hK4⟩
    have hk1 : ((k : Int) != 0) = true := by rw [bne_iff_ne]; omega
    go_wp2_with fail
    go_ret2
    have hD := HD.out
    rw [HX.out] at hD
    dsimp only at hD
    rw [hD]
    exact ⟨⟨rfl, hk⟩, Kp.nw HN3.out hK4 hgw hgw⟩
  | ok y =>
    obtain ⟨ts, bs⟩ := y
    have hinv := tget_inv HX.out
    have HTL := Lib.hid hinv.1
    clear hinv
    refine H7.out.mono ?_
    rintro e w4 ⟨⟨⟨bt, At, ct, rfl, hOt, hbt⟩, hQ4⟩, hK4⟩
    rw [HTL.out] at hOt
    rw [HTL.out]
    have hs4 := hK4.size
    have hN4 := Kp.nw HN3.out hK4 hgw hgw
    have hH8 := RVGet_any w4 g b3 bs tag N ⟨t1, t2⟩ hQ4 (by omega) hN1 (by omega)
    obtain ⟨Y, hY⟩ : ∃ Y, vget tag N bs = Y := ⟨_, rfl⟩
    rw [hY] at hH8
    have HY := Lib.hid hY
    have H8 := Lib.hid hH8
    have HOt := Lib.hid hOt
    have HN4 := Lib.hid hN4
    clear hH8 hY hQ4 hOt H7 hN4 hK4
    cases Y with
    | error k =>
      go_wp2_with fail
      refine H8.out.mono ?_
      rintro e w5 ⟨⟨⟨A5, n5, c5, rfl⟩, hk⟩, hK5⟩
      have hk1 : ((k : Int) != 0) = true := by rw [bne_iff_ne]; omega
      go_wp2_with fail
      go_ret2
      have hD := HD.out
      rw [HX.out] at hD
      dsimp only at hD
      rw [HY.out] at hD
      dsimp only at hD
      rw [hD]
      exact ⟨⟨rfl, hk⟩, Kp.nw HN4.out hK5 hgw hgw⟩
    | ok y =>
      obtain ⟨vs, bs'⟩ := y
      have hinv := vget_inv (by omega) HY.out
      have HVL := Lib.hid hinv.1
      have HVX := Lib.hid hinv.2.1
      clear hinv
      go_wp2_with fail
      refine H8.out.mono ?_
      rintro e w5 ⟨⟨⟨bv, Av, cv, rfl, hOv, hbv⟩, hQ5⟩, hK5⟩
      rw [HVL.out] at hOv
      rw [HVL.out]
      have hs5 := hK5.size
      have HOt5 := Lib.hid (HOt.out.kp hK5 (by omega) (by omega))
      have HOv := Lib.hid hOv
      have HN5 := Lib.hid (Kp.nw HN4.out hK5 hgw hgw)
      have HE := Lib.hid (QEnd_any w5 g b3 bs' hQ5)
      have HCh := Lib.hid (RChoose_any w5 bv Av N cv vs ⟨g, by omega, by omega⟩ HVL.out.symm (by omega) hOv.rd HVX.out)
      have HDD : Hid (D = if endE bs' ≠ 0 then .error (endE bs') else if tagOf vs ≠ tag then .error 8 else .ok (ts, vs)) := Lib.hid (by
        have hD := HD.out
        rw [HX.out] at hD
        dsimp only at hD
        rw [HY.out] at hD
        exact hD)
      have hvt := tagOf_in vs
      generalize endE bs' = E at *
      generalize tagOf vs = T at *
      clear hOv hQ5 hK5 H8 HD HOt
      by_cases hE0 : E = 0
      · have hd := HDD.out
        rw [if_neg (by simp [hE0])] at hd
        subst hE0
        by_cases hT : T = tag
        · subst hT
          rw [if_neg (by simp)] at hd
          have HD2 := Lib.hid hd
          clear hd HDD
          go_wp2_with (first
            | (go_at_call 33; refine HE.out.mono ?_; rintro e w6 ⟨rfl, hw6⟩; subst hw6)
            | (go_at_call 23; refine HCh.out.mono ?_; rintro e w7 ⟨rfl, hN7⟩; have HN7 := Lib.hid hN7; clear hN7))
          have hs7 := HN7.out.size
          have HW7 := Lib.hid (HN5.out.trans HN7.out)
          have HT7 := Lib.hid (HOt5.out.nw HN7.out)
          have HV7 := Lib.hid (HOv.out.nw HN7.out)
          obtain ⟨ht1, htl, _, _⟩ := HT7.out.at_ (j := 0) (by omega)
          obtain ⟨hv1, hvl, _, _⟩ := HV7.out.at_ (j := 0) (by omega)
          subst ht1 hv1
          have HZL := Lib.hid (show (ts.zip vs).length = N from by rw [List.length_zip, HTL.out, HVL.out, Nat.min_self])
          clear HE HCh HOt5 HOv HN7
          go_loopw [10, 11] (fun s i wr => ∃ k : Nat, k ≤ N ∧ i = .int .i64 k ∧ ∃ (bk : Nat) (Ak : Option Addr) (ck : Nat), s = .slice Ak k ck ∧ Hid (Ow wr bk 27 2 Ak k ck (cS ((ts.zip vs).take k))) ∧ w7.heap.size ≤ bk ∧ Hid (Nw w7 wr)) (fun _ i _ => N - (intOf i).toNat)
          case atStart => exact ⟨0, by omega, rfl, w7.heap.size, none, 0, rfl, Lib.hid (by simpa [cS] using Ow.nil _ _ _ _), Nat.le_refl _, Lib.hid (Nw.refl _)⟩
          case round =>
            obtain ⟨k, hk, rfl, bk, Ak, ck, rfl, HO, hbk, HN8⟩ := hrel
            have hsr := HN8.out.size
            by_cases hlt : k < N
            · have hltI : (k : Int) < (N : Int) := by omega
              have hkt : k < ts.length := by rw [HTL.out]; exact hlt
              have hkv : k < vs.length := by rw [HVL.out]; exact hlt
              have hkz : k < (ts.zip vs).length := by rw [HZL.out]; exact hlt
              obtain ⟨_, _, hc1, _⟩ := (HT7.out.nw HN8.out).at_ (j := k) (by omega)
              obtain ⟨_, _, hc2', _⟩ := (HV7.out.nw HN8.out).at_ (j := k) (by omega)
              rw [List.getElem?_map, List.getElem?_eq_getElem hkt, Option.map_some] at hc1
              rw [List.getElem?_map, List.getElem?_eq_getElem hkv, Option.map_some] at hc2'
              have HTK := Lib.hid (show (ts.zip vs).take (k + 1) = (ts.zip vs).take k ++ [(ts[k], vs[k])] from by rw [List.take_succ_eq_append_getElem hkz, List.getElem_zip])
              generalize ts[k] = t at *
              generalize vs[k] = v at *
              have HZ0 := Lib.hid HO.out.len
              obtain ⟨i0', hi, hz0, hz1, hz2⟩ := E_smp.info
              have hbtr : bt < wr.heap.size := by omega
              have hbvr : bv < wr.heap.size := by omega
              have HOW := Lib.hid fun W (hN : Nw wr W) => (HO.out.nw hN).row
              have HOWB : Hid (∀ j, (Value.slice Ak k ck).ownBlock = some j → j = bk) := Lib.hid (by
                rcases HO.out with ⟨rfl, _⟩ | ⟨rfl, _, _⟩
                · simp [Value.ownBlock]
                · simp [Value.ownBlock])
              have HW5 : Hid (∀ W5, (wr.drew.alloc (.cells #[.int .i64 t, .int .u64 (v : Int)] 27)).grownBy W5 (Value.slice Ak k ck).ownBlock → (W5.cell? ⟨bt, k, none⟩ = some (.int .i64 t) ∧ W5.cell? ⟨bv, k, none⟩ = some (.int .u64 (v : Int)))) := by
                refine Lib.hid fun W5 hg => ?_
                have hN4 : Nw wr (wr.drew.alloc (.cells #[.int .i64 t, .int .u64 (v : Int)] 27)) := (Nw.drewO wr).alloc' _
                have h8 := (hg.block bt (Nat.lt_of_lt_of_le hbtr hN4.size) (fun e => by have := HOWB.out bt e.symm; omega)).trans (hN4.block bt hbtr)
                have h7 := (hg.block bv (Nat.lt_of_lt_of_le hbvr hN4.size) (fun e => by have := HOWB.out bv e.symm; omega)).trans (hN4.block bv hbvr)
                exact ⟨(World.cell?_of_block h8).trans hc1, (World.cell?_of_block h7).trans hc2'⟩
              go_wp2_with fail
              go_region_held3 (fun w' => w'.cell? ⟨bt, k, none⟩ = some (.int .i64 t) ∧ w'.cell? ⟨bv, k, none⟩ = some (.int .u64 (v : Int)))
                (first | exact ⟨hc1, hc2'⟩ | exact ⟨hp0, hp1⟩ | exact ⟨cell_past hbtr hc1, cell_past hbvr hc2'⟩ | (constructor <;> simp [*]))
                (first
                  | (refine step_append_lies _ rfl (.tmp 73) (.tmp 83) 22 rfl 0 27 i0' (.agg #[.int .i64 0, .int .u64 0]) 2 16 Tryz.underlying22 hi hz0 hz1 hz2 rfl (by omega) _ k (cS ((ts.zip vs).take k)) rfl (HOW.out _ (Nw.alloc' (Nw.drewO _) _)) ⟨_, 0, none⟩ 1 1 [.int .i64 t, .int .u64 (v : Int)] rfl rfl (World.news_of_block (heap_alloc_new _ _)) (by intro u hu; simp at hu; rcases hu with rfl | rfl <;> rfl) (by omega) (by simp only [maxLen]; omega) (by omega) (Nat.zero_le _) _ rfl ?_; intro g5 cap5 w5 q1 q2 q3 q4; obtain ⟨hp0, hp1⟩ := HW5.out w5 q2))
              have hkA : Kp bk bk wr w5 := by
                have h1 : Kp bk bk wr (wr.drew.alloc (.cells #[.int .i64 t, .int .u64 (v : Int)] 27)) := ((Nw.drewO wr).alloc' _).kp _ _
                exact h1.grown q2 (fun j e => .inl (HOWB.out j e))
              have hg5 : w7.heap.size ≤ g5 := by
                rcases q3 with h | h
                · have := HOWB.out g5 h
                  omega
                · have h2 : g5 = wr.heap.size + 1 := by simpa using h
                  omega
              have hO5 : Ow w5 g5 27 2 (some ⟨g5, 0, none⟩) (k + 1) cap5 (cS ((ts.zip vs).take (k + 1))) := by
                have e : cS ((ts.zip vs).take (k + 1)) = cS ((ts.zip vs).take k) ++ [.int .i64 t, .int .u64 (v : Int)] := by
                  rw [HTK.out]
                  unfold cS
                  rw [List.flatMap_append]
                  rfl
                rw [e]
                exact .inr ⟨rfl, q4, q1⟩
              have HO5 := Lib.hid hO5
              have HN5' := Lib.hid (Kp.nw HN8.out hkA hbk hbk)
              clear hO5 hkA q1 q2 q3 q4 hp0 hp1 hc1 hc2'
              go_wp2
              go_roundw
              case rel => exact ⟨k + 1, by omega, by go_num, g5, _, cap5, rfl, HO5, hg5, HN5'⟩
              case measure => simp [intOf]; omega
            · obtain rfl : k = N := by omega
              go_wp2_with fail
              go_ret2
              rw [HD2.out]
              have hO := HO.out
              rw [List.take_of_length_le (by rw [HZL.out]; exact Nat.le_refl _)] at hO
              refine ⟨⟨bk, Ak, ck, by rw [HTL.out]; rfl, by rw [HTL.out]; exact hO, by omega⟩, HW7.out.trans HN8.out⟩
        · rw [if_pos hT] at hd
          have HD2 := Lib.hid hd
          have hTI : ((T : Int) != (tag : Int)) = true := by rw [bne_iff_ne]; omega
          clear hd HDD
          go_wp2_with (first
            | (go_at_call 33; refine HE.out.mono ?_; rintro e w6 ⟨rfl, hw6⟩; subst hw6)
            | (go_at_call 23; refine HCh.out.mono ?_; rintro e w7 ⟨rfl, hN7⟩))
          go_ret2
          rw [HD2.out]
          exact ⟨⟨rfl, by omega⟩, HN5.out.trans hN7⟩
      · have hd := HDD.out
        rw [if_pos hE0] at hd
        have HD2 := Lib.hid hd
        have hEI : ((E : Int) != 0) = true := by rw [bne_iff_ne]; omega
        clear hd HDD
        go_wp2_with (go_at_call 33; refine HE.out.mono ?_; rintro e w6 ⟨rfl, hw6⟩; subst hw6)
        go_ret2
        rw [HD2.out]
        exact ⟨⟨rfl, hE0⟩, HN5.out⟩

set_option maxRecDepth 100000 in
theorem RDecode_two (w : World) (b : Nat) (A : Option Addr) (tag n1 : Nat) (hr : Rd w b A (cN .u8 [tag, n1])) (ht : 1 ≤ tag ∧ tag ≤ 3) (h : n1 < 120) :
    Calls Tryz.prog 12 #[.slice A 2 2] w (DcGot w (cget [tag, n1])) := by
  have e : cget [tag, n1] = .error 3 := by
    unfold cget
    dsimp only
    rw [if_neg (by omega), if_neg (by omega), show up [] = [] from rfl, tget_nil (by omega)]
  rw [e]
  clear e
  obtain ⟨o, rfl, hb, hc⟩ := hr.get (k := 0) (by simp)
  obtain ⟨o', e, _, hc1⟩ := hr.get (k := 1) (by simp)
  injection e with e; injection e with _ e; subst e
  simp only [Nat.add_zero, cN, List.map_cons, List.getElem_cons_zero, List.getElem_cons_succ] at hc hc1
  have ek : ((n1 : Int) + 1) = ((n1 + 1 : Nat) : Int) := by omega
  have EK := Lib.hid ek
  obtain ⟨t1, t2⟩ := ht
  clear hr ek
  go_enter Tryz.func12, Tryz.ntmps12
  go_wp2_with fail
  rw [EK.out]
  refine (Unpack_any _ b _ 0 0 [] rfl (by omega) (Rd.nil _ _ _) (by simp)).mono ?_
  rintro e w2 ⟨b2, A2, c2, rfl, hO2, hb2, hN2⟩
  have hs2 := hN2.size
  obtain ⟨b3, hQ, hb3⟩ := qr_new hO2 (by simp [up_length]) (by omega)
  have hN3 : Nw w (w2.alloc (.cells #[.slice A2 (8 * ([] : List Nat).length) c2] 76)) := hN2.alloc' _
  have hsg : w2.heap.size < (w2.alloc (.cells #[.slice A2 (8 * ([] : List Nat).length) c2] 76)).heap.size := by simp
  have hH7 := RTGet_any _ w2.heap.size b3 (up []) (n1 + 1) hQ (by omega) (by omega) (by omega)
  rw [show up [] = [] from rfl, tget_nil (by omega)] at hH7
  have H7 := Lib.hid hH7
  clear hH7 hQ hO2 hc hc1
  go_wp2_with fail
  refine H7.out.mono ?_
  rintro e w3 ⟨⟨rfl, hk⟩, hK3⟩
  go_wp2_with fail
  go_ret2
  exact ⟨⟨rfl, hk⟩, Kp.nw hN3 hK3 (by omega) (by omega)⟩

theorem RDecode_any (w : World) (b : Nat) (A : Option Addr) (n c : Nat) (bytes : List Nat) (hn : n = bytes.length) (hnc : n ≤ c) (hm : n ≤ 1000000) (hr : Rd w b A (cN .u8 bytes)) (hby : ∀ x ∈ bytes, x < 256) :
    Calls Tryz.prog 12 #[.slice A n c] w (DcGot w (cget bytes)) := by
  match bytes with
  | [] => subst hn; exact RDecode_nil w A c
  | tag :: r =>
    by_cases ht : tag < 1 ∨ 3 < tag
    · exact RDecode_kind w b A n c tag r (by simpa using hn) hm hr (hby tag (by simp)) ht
    · match r with
      | [] => subst hn; exact RDecode_one w b A c tag hr (by omega)
      | n1 :: r =>
        by_cases h : 120 ≤ n1
        · exact RDecode_limit w b A n c tag n1 r (by simpa using hn) hm hr (by omega) (hby n1 (by simp)) h
        · by_cases hc2 : c = 2
          · subst hc2
            obtain rfl : r = [] := List.eq_nil_of_length_eq_zero (by simp at hn; omega)
            subst hn
            exact RDecode_two w b A tag n1 hr (by omega) (by omega)
          · exact RDecode_main w b A n c tag n1 r (by simpa using hn) hnc hc2 hm hr (fun x hx => hby x (by simp [hx])) (by omega) (by omega)
end Go.Proofs.YtjepaneniodbpaaGreatDoor
