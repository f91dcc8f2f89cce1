/- The reference's Get. -/
import Derived.Test.YtjepaneniodbpaaGreatDoorChecked
import Derived.Test.YtjepaneniodbpaaGreatDoorGet
import Derived.Test.YtjepaneniodbpaaGreatDoorRef1
namespace Go.Proofs.YtjepaneniodbpaaGreatDoor
open Go Go.RowKit

/-- what a reading call of the reference leaves -/
def GotQ (w w' : World) (g b : Nat) (e : Ending) (V : List Nat × Nat × List Bool) : Prop :=
  ∃ A c, e = .returned (.tuple #[.slice A V.1.length c, .int .i64 (V.2.1 : Nat)]) ∧ Qr w' g b V.2.2 ∧ (∃ b', Ow w' b' 25 1 A V.1.length c (cN .u64 V.1) ∧ w.heap.size ≤ b') ∧ Kp g g w w'
theorem GotQ.fail {w w' : World} {g b : Nat} {r : List Bool} {V : List Nat × Nat × List Bool} {k : Nat} (hV : V = ([], k, r)) (hR : Qr w' g b r) (hK : Kp g g w w') :
    GotQ w w' g b (.returned (.tuple #[.slice none 0 0, .int .i64 (k : Int)])) V := by
  subst hV
  exact ⟨none, 0, rfl, hR, ⟨w.heap.size, Ow.nil _ _ _ _, Nat.le_refl _⟩, hK⟩
theorem RGet_zero (w : World) (g : Nat) : Calls Tryz.prog 62 #[.pointer (some ⟨g, 0, none⟩), .int .i64 0] w fun e w' => e = .returned (.tuple #[.slice none 0 0, .int .i64 0]) ∧ w = w' := by
  go_enter Tryz.func62, Tryz.ntmps62
  go_wp2
  go_ret2
  exact ⟨rfl, rfl⟩

/-- which indexes have been met -/
def met (K : Nat) (is : List Nat) : List Bool := (List.range K).map (fun j => is.contains j)
theorem met_length (K : Nat) (is : List Nat) : (met K is).length = K := by simp [met]
theorem met_set (K : Nat) (is : List Nat) (x : Nat) : (met K is).set x true = met K (is ++ [x]) := by
  refine List.ext_getElem (by simp [met]) fun j h1 h2 => ?_
  rw [List.getElem_set]
  simp only [met, List.getElem_map, List.getElem_range]
  by_cases e : x = j
  · subst e; simp
  · rw [if_neg e]
    have : ¬ j = x := fun h => e h.symm
    simp [this]
theorem met_nil (K : Nat) : met K [] = List.replicate K false := by
  refine List.ext_getElem (by simp [met]) fun j h1 h2 => ?_
  simp [met]
theorem made_bools (n : Nat) : (madeCells (Value.bool false).cells (n * 1)).toList = cB (List.replicate n false) := by
  show (madeCells #[Value.bool false] (n * 1)).toList = _
  refine List.ext_getElem (by simp [madeCells]) fun j h1 h2 => ?_
  simp [madeCells, Nat.mod_one]
theorem met_get (K : Nat) (is : List Nat) (x : Nat) (h : x < K) : (cB (met K is))[x]? = some (.bool (is.contains x)) := by
  rw [List.getElem?_map, List.getElem?_eq_getElem (by rw [met_length]; exact h)]
  simp [met]
theorem unused_met (K : Nat) (is : List Nat) : unused K is = (met K is).any (fun b => !b) := by
  unfold unused met
  rw [List.any_map]
  rfl

set_option maxRecDepth 100000 in
set_option maxHeartbeats 1600000 in
theorem RGet_any (w : World) (g b : Nat) (l : List Bool) (n : Nat) (h : Qr w g b l) (hbl : b < w.heap.size) (hn : 0 < n) (hm : n ≤ 1000000) :
    Calls Tryz.prog 62 #[.pointer (some ⟨g, 0, none⟩), .int .i64 (n : Int)] w fun e w' => GotQ w w' g b e (getVals n l) := by
  have hlt := h.lt
  obtain ⟨i0, hi, hz0, hz1, hz2⟩ := E_bool.info
  have HG := Lib.hid (getVals_eq n l (by omega))
  have HGL := Lib.hid (gD_length l)
  generalize getVals n l = V at *
  by_cases h7 : l.length < 7
  · have HR := Lib.hid (QBits_eof w g b l 7 h (by omega) h7)
    have hg : gD l = ([], 3, l) := by unfold gD; rw [if_pos h7]
    have hv := HG.out
    rw [hg, if_pos (by simp)] at hv
    have HV := Lib.hid hv
    have HH := Lib.hid h
    clear h hv hg HG
    have hne : ((n : Int) == 0) = false := by rw [beq_eq_false_iff_ne]; omega
    go_enter Tryz.func62, Tryz.ntmps62
    go_wp2_with (go_at_call 58; refine HR.out.mono ?_; rintro e w1 ⟨rfl, hw1⟩; subst hw1)
    go_ret2
    exact GotQ.fail HV.out HH.out (Kp.refl _ _ _)
  · have HR := Lib.hid (QBits_ok w g b l 7 h (by omega) (by omega))
    have HGD := Lib.hid (show gD l = gdict (bv (l.take 7) + 1) [] (l.drop 7) from by unfold gD; rw [if_neg h7])
    have hk7 := bv_lt (l.take 7)
    rw [List.length_take, Nat.min_eq_left (by omega)] at hk7
    generalize bv (l.take 7) = K at *
    have hK : K < 128 := hk7
    have e1 : IntKind.i64.wrap (K : Int) = (K : Int) := IntWalk.i64_in _ (by omega)
    have hne : ((n : Int) == 0) = false := by rw [beq_eq_false_iff_ne]; omega
    clear hk7 h h7
    go_enter Tryz.func62, Tryz.ntmps62
    go_wp2_with (go_at_call 58; refine HR.out.mono ?_; rintro e w1 ⟨rfl, hR1, hK1⟩)
    have hs1 := hK1.size
    go_loopw [8, 9] (fun s i wr => ∃ k : Nat, k ≤ K + 1 ∧ i = .int .i64 k ∧ ∃ (d : List Nat) (bk : Nat) (Ak : Option Addr) (ck : Nat) (r : List Bool), d.length = k ∧ s = .slice Ak k ck ∧ Ow wr bk 25 1 Ak k ck (cN .u64 d) ∧ w.heap.size ≤ bk ∧ Qr wr g b r ∧ gD l = gdict (K + 1 - k) d r ∧ Kp g g w wr) (fun _ i _ => K + 1 - (intOf i).toNat)
    case atStart => exact ⟨0, by omega, rfl, [], w.heap.size, none, 0, _, rfl, rfl, Ow.nil _ _ _ _, Nat.le_refl _, hR1, by simpa using HGD.out, hK1⟩
    case round =>
      obtain ⟨k, hk, rfl, d, bk, Ak, ck, r, hdk, rfl, hO, hbk, hRp, hgd, hKk⟩ := hrel
      have hsk := hKk.size
      by_cases hlt2 : k < K + 1
      · rw [show K + 1 - k = (K - k) + 1 from by omega] at hgd
        by_cases h64 : r.length < 64
        · rw [gdict_eof _ _ _ h64] at hgd
          have hv := HG.out
          rw [hgd, if_pos (by simp)] at hv
          have HV := Lib.hid hv
          have HQ := Lib.hid (QBits_eof wr g b r 64 hRp (by omega) h64)
          have HRP := Lib.hid hRp
          clear hgd hRp hO hR1 hv
          go_wp2_with (go_at_call 58; refine HQ.out.mono ?_; rintro e w2 ⟨rfl, hw1⟩; subst hw1)
          go_ret2
          exact GotQ.fail HV.out HRP.out hKk
        · have HQ := Lib.hid (QBits_ok wr g b r 64 hRp (by omega) (by omega))
          have hx := bv64 r (by omega)
          by_cases hk0 : k = 0
          · subst hk0
            obtain rfl := List.eq_nil_of_length_eq_zero hdk
            rw [gdict_more _ _ _ (by omega) rfl] at hgd
            generalize bv (r.take 64) = x at *
            have HGE := Lib.hid hgd
            have HO := Lib.hid hO
            clear hgd hRp hO hR1
            go_wp2_with (first
              | (go_at_call 58; refine HQ.out.mono ?_; rintro e w2 ⟨rfl, hR2, hK2⟩; have hO2 := HO.out.kp hK2 (by omega) (by omega))
              | (at_builtin; refine wpList_app1 E_u64 rfl (.tmp 53) (.tmp 55) rfl rfl hO2 rfl rfl (by omega) (by omega) ?_; intro b3 A3 c3 w3 h1 h2 h3 h4))
            go_roundw
            case rel =>
              have hs2 := hK2.size
              refine ⟨1, by omega, by go_num, [x], b3, A3, c3, _, rfl, rfl, h1, by omega, hR2.kp h3 (by omega) (by omega) (by omega) (by omega), ?_, (hKk.trans hK2 (.inl rfl) (.inl rfl)).trans h3 (by omega) (by omega)⟩
              rw [HGE.out]; rfl
            case measure => simp [intOf]
          · obtain ⟨y, hy1, hy2⟩ := badNext_at d (bv (r.take 64)) (by omega)
            rw [hdk] at hy1
            obtain ⟨rfl, hbw, hc, _⟩ := hO.at_ (j := k - 1) (by omega)
            rw [List.getElem?_map, hy1, Option.map_some] at hc
            have HC := Lib.hid (show ∀ w2, Kp g g wr w2 → w2.cell? ⟨bk, k - 1, none⟩ = some (.int .u64 (y : Int)) from fun w2 hk2 => by rw [← hc]; exact World.cell?_of_block (hk2.block bk hbw (by omega) (by omega)))
            have HO := Lib.hid hO
            clear hc hy1 hO hR1 hRp
            by_cases hbad : badNext d (bv (r.take 64)) = true
            · rw [gdict_bad _ _ _ (by omega) hbad] at hgd
              have hv := HG.out
              rw [hgd, if_pos (by simp)] at hv
              have HV := Lib.hid hv
              rw [hy2] at hbad
              generalize bv (r.take 64) = x at *
              have hbad' : x ≤ y := by simpa using hbad
              clear hbad hy2 hgd hv
              go_wp2_with (go_at_call 58; refine HQ.out.mono ?_; rintro e w2 ⟨rfl, hR2, hK2⟩; have hc2 := HC.out _ hK2)
              go_ret2
              exact GotQ.fail HV.out hR2 (hKk.trans hK2 (.inl rfl) (.inl rfl))
            · rw [gdict_more _ _ _ (by omega) (by simpa using hbad)] at hgd
              have HGE := Lib.hid hgd
              rw [hy2] at hbad
              generalize bv (r.take 64) = x at *
              have hbad' : ¬ x ≤ y := by simpa using hbad
              clear hbad hy2 hgd
              go_wp2_with (first
                | (go_at_call 58; refine HQ.out.mono ?_; rintro e w2 ⟨rfl, hR2, hK2⟩; have hc2 := HC.out _ hK2; have hO2 := HO.out.kp hK2 (by omega) (by omega))
                | (at_builtin; refine wpList_app1 E_u64 rfl (.tmp 53) (.tmp 55) rfl rfl hO2 rfl rfl (by omega) (by omega) ?_; intro b3 A3 c3 w3 h1 h2 h3 h4))
              go_roundw
              case rel =>
                have hs2 := hK2.size
                refine ⟨k + 1, by omega, by go_num, d ++ [x], b3, A3, c3, _, by simp [hdk], rfl, by simpa using h1, by omega, hR2.kp h3 (by omega) (by omega) (by omega) (by omega), ?_, (hKk.trans hK2 (.inl rfl) (.inl rfl)).trans h3 (by omega) (by omega)⟩
                rw [HGE.out]; congr 1; omega
              case measure => simp [intOf]; omega
      · obtain rfl : k = K + 1 := by omega
        rw [Nat.sub_self] at hgd
        have hg0 : gD l = (d, 0, r) := by rw [hgd]; rfl
        have hv := HG.out
        rw [hg0, if_neg (by simp)] at hv
        have hv2 : V = if (gidx (K + 1) n [] r).2.1 ≠ 0 then ([], (gidx (K + 1) n [] r).2.1, (gidx (K + 1) n [] r).2.2) else if unused (K + 1) (gidx (K + 1) n [] r).1 then ([], 8, (gidx (K + 1) n [] r).2.2) else ((gidx (K + 1) n [] r).1.map (d.getD · 0), 0, (gidx (K + 1) n [] r).2.2) := by rw [hv, ← hdk]
        have HV := Lib.hid hv2
        clear hv hv2 hg0 hgd HG HGD HGL hR1
        have HRp := Lib.hid hRp
        have HDK := Lib.hid hdk
        have hKl : w.heap.size ≤ wr.heap.size := hsk
        clear hRp hdk
        go_wp2_with (first
          | (at_make; refine wpList_make_full _ rfl _ _ 62 rfl 0 4 i0 (.bool false) 1 Tryz.underlying62 hi hz0 hz1 _ _ _ _ (K + 1) rfl rfl (by omega) (by omega) (by rw [hz2]; omega) (by unfold maxLen; omega) (Nat.zero_le _) ?_; intro w2 hrow hg2)
          | go_in)
        have hbl0 : wr.heap.size < w2.heap.size := by
          rcases hrow.2 with ⟨hv, _⟩ | ⟨g', cap, cur, hv, _, hh, _⟩
          · cases hv
          · injection hv with hv1 _ _
            injection hv1 with hv1
            injection hv1 with hv1 _ _
            rw [hv1]
            exact lt_of_block hh
        have hN2 : Nw wr w2 := (Nw.refl wr).grown' hg2 (fun j hj => by cases hj)
        have hK2 : Kp g g w w2 := hKk.nw' hN2
        have hQ2 : Qr w2 g b r := HRp.out.nw hN2
        have hD2 : Ow w2 bk 25 1 Ak (K + 1) ck (cN .u64 d) := hO.nw hN2
        have hbkl : bk < wr.heap.size := hO.lt (by omega)
        have hU2 : Ow w2 wr.heap.size 4 1 (some ⟨wr.heap.size, 0, none⟩) (K + 1) (K + 1) (cB (met (K + 1) [])) := by
          refine .inr ⟨rfl, hbl0, ?_⟩
          rw [met_nil]
          rw [← made_bools]
          exact hrow
        obtain ⟨rfl, _⟩ := hO.at_ (j := 0) (by omega)
        generalize hbu : wr.heap.size = bu at *
        clear hrow hg2 hN2 hO hbu HRp
        go_loopw [13, 14] (fun s i wr => ∃ j : Nat, j ≤ n ∧ i = .int .i64 j ∧ ∃ (is : List Nat) (bs : Nat) (As : Option Addr) (cs : Nat) (r' : List Bool), is.length = j ∧ (∀ x ∈ is, x < K + 1) ∧ s = .slice As j cs ∧ Ow wr bs 25 1 As j cs (cN .u64 (is.map (d.getD · 0))) ∧ bu < bs ∧
            Ow wr bu 4 1 (some ⟨bu, 0, none⟩) (K + 1) (K + 1) (cB (met (K + 1) is)) ∧ Qr wr g b r' ∧ Ow wr bk 25 1 (some ⟨bk, 0, none⟩) (K + 1) ck (cN .u64 d) ∧ gidx (K + 1) n [] r = gidx (K + 1) (n - j) is r' ∧ Kp g g w wr) (fun _ i _ => n - (intOf i).toNat)
        case atStart => exact ⟨0, by omega, rfl, [], bu + 1, none, 0, r, rfl, by simp, rfl, Ow.nil _ _ _ _, by omega, hU2, hQ2, hD2, rfl, hK2⟩
        case round =>
          obtain ⟨j, hj, rfl, is, bs, As, cs, r', hisl, his, rfl, hO, hbs, hU, hQ, hD, hgi, hKj⟩ := hrel
          have hsj := hKj.size
          have HI := Lib.hid his
          have HIL := Lib.hid hisl
          have hw7 : wd (K + 1) ≤ 7 := wd_le (K + 1) (by omega)
          clear his hisl
          by_cases hlt3 : j < n
          · rw [show n - j = (n - j - 1) + 1 from by omega] at hgi
            by_cases hf : r'.length < wd (K + 1)
            · rw [gidx_eof _ _ _ _ hf] at hgi
              have hv := HV.out
              rw [hgi, if_pos (by simp)] at hv
              have HV2 := Lib.hid hv
              have HQ := Lib.hid (QBits_eof wr g b r' (wd (K + 1)) hQ (by omega) hf)
              have HH := Lib.hid hQ
              clear hv hgi hQ hf hO hU hD
              go_wp2_with (first
                | (go_at_call 84; refine (RWidth_any _ _ (by omega) (by omega)).mono ?_; rintro e w3 ⟨rfl, hw3⟩; rw [show ((K : Int) + 1).toNat = K + 1 from by omega]; subst hw3)
                | (go_at_call 58; refine HQ.out.mono ?_; rintro e w3 ⟨rfl, hw1⟩; subst hw1))
              go_ret2
              exact GotQ.fail HV2.out HH.out hKj
            · have HQ := Lib.hid (QBits_ok wr g b r' (wd (K + 1)) hQ (by omega) (by omega))
              have hx7 := bvw _ _ hw7 hf
              by_cases hbad : K + 1 ≤ bv (r'.take (wd (K + 1)))
              · rw [gidx_bad _ _ _ _ hf hbad] at hgi
                have hv := HV.out
                rw [hgi, if_pos (by simp)] at hv
                have HV2 := Lib.hid hv
                generalize bv (r'.take (wd (K + 1))) = x at *
                have e2 : IntKind.i64.wrap (x : Int) = (x : Int) := IntWalk.i64_in _ (by omega)
                clear hv hgi hQ hf hO hU hD
                go_wp2_with (first
                  | (go_at_call 84; refine (RWidth_any _ _ (by omega) (by omega)).mono ?_; rintro e w3 ⟨rfl, hw3⟩; rw [show ((K : Int) + 1).toNat = K + 1 from by omega]; subst hw3)
                  | (go_at_call 58; refine HQ.out.mono ?_; rintro e w3 ⟨rfl, hR3, hK3⟩))
                go_ret2
                exact GotQ.fail HV2.out hR3 (hKj.trans hK3 (.inl rfl) (.inl rfl))
              · rw [gidx_more _ _ _ _ hf hbad] at hgi
                generalize bv (r'.take (wd (K + 1))) = x at *
                have e2 : IntKind.i64.wrap (x : Int) = (x : Int) := IntWalk.i64_in _ (by omega)
                have HGI := Lib.hid hgi
                have HO := Lib.hid hO
                have HU := Lib.hid hU
                have HD := Lib.hid hD
                have hul := hU.lt (by omega)
                have hdl := hD.lt (by omega)
                have HMG := Lib.hid (met_get (K + 1) is x (by omega))
                have HCD := Lib.hid (cN_getD d x (by rw [HDK.out]; omega))
                generalize hy : d.getD x 0 = y at *
                generalize hq : is.contains x = q at *
                have HY := Lib.hid hy
                clear hgi hQ hf hO hU hD hy hq
                have hb1 : ¬ bk = bu := by omega
                have hb2 : ¬ bu = bk := by omega
                go_wp2_with (first
                  | (go_at_call 84; refine (RWidth_any _ _ (by omega) (by omega)).mono ?_; rintro e w3 ⟨rfl, hw3⟩; rw [show ((K : Int) + 1).toNat = K + 1 from by omega]; subst hw3)
                  | (go_at_call 58; refine HQ.out.mono ?_; rintro e w3 ⟨rfl, hR3, hK3⟩; have hU3 := HU.out.kp hK3 (by omega) (by omega); have hD3 := HD.out.kp hK3 (by omega) (by omega); have hO3 := HO.out.kp hK3 (by omega) (by omega); obtain ⟨_, _, hcu, hfu⟩ := hU3.at_ (j := x) (by omega); obtain ⟨_, _, hcd, _⟩ := hD3.at_ (j := x) (by omega); rw [HMG.out] at hcu; rw [HCD.out] at hcd; have HOS := Lib.hid (show ∀ (a : Addr) (v : Value), a.block = bu → Ow (w3.setCell a v) bs 25 1 As j cs (cN .u64 (is.map (d.getD · 0))) from fun a v ha => hO3.kp ((Kp.refl bu bu w3).setCell' (.inl ha) v) (by omega) (by omega)); have HH := Lib.hid (And.intro hU3 hD3); clear hO3 hU3 hD3)
                  | (at_builtin; go_loud (refine wpList_app1 E_u64 rfl (.tmp 84) (.tmp 89) rfl rfl (HOS.out ⟨bu, x, none⟩ (.bool true) rfl) (by show Value.slice (some ⟨w3.heap.size, 0, none⟩) 1 1 = _; simp [World.setCell]) rfl (by omega) (by omega) ?_; intro b4 A4 c4 w4 h1 h2 h3 h4)))
                go_roundw
                case rel =>
                  have KS : Kp bu bu w3 (w3.setCell ⟨bu, x, none⟩ (.bool true)) := (Kp.refl bu bu w3).setCell' (.inl rfl) _
                  have hs3 := hK3.size
                  have hs4 := KS.size
                  refine ⟨j + 1, by omega, by go_num, is ++ [x], b4, A4, c4, _, by simp [HIL.out], ?_, rfl, ?_, by omega, ?_, (hR3.kp KS (by omega) (by omega) (by omega) (by omega)).kp h3 (by omega) (by omega) (by omega) (by omega), (HH.out.2.kp KS hb1 hb1).kp h3 (by omega) (by omega), ?_, ((hKj.trans hK3 (.inl rfl) (.inl rfl)).trans KS (by omega) (by omega)).trans h3 (by omega) (by omega)⟩
                  · intro z hz
                    rw [List.mem_append] at hz
                    rcases hz with hz | hz
                    · exact HI.out z hz
                    · simp at hz; omega
                  · rw [List.map_append, List.map_cons, List.map_nil, HY.out]
                    simpa using h1
                  · have hm := (HH.out.1.set_ x (.bool true)).kp h3 (by omega) (by omega)
                    rw [← met_set]
                    unfold cB
                    rw [List.map_set]
                    exact hm
                  · rw [HGI.out]; congr 1
                case measure => simp [intOf]; omega
          · obtain rfl : j = n := by omega
            rw [Nat.sub_self] at hgi
            have hv := HV.out
            have hv2 : V = if unused (K + 1) is then ([], 8, r') else (is.map (d.getD · 0), 0, r') := by
              rw [hv, hgi]
              unfold gidx
              rw [if_neg (by simp)]
            rw [unused_met] at hv2
            have HV2 := Lib.hid hv2
            have HML := Lib.hid (met_length (K + 1) is)
            have hlen : (is.map (d.getD · 0)).length = j := by rw [List.length_map]; exact HIL.out
            have HLEN := Lib.hid hlen
            generalize is.map (d.getD · 0) = vs at *
            generalize met (K + 1) is = ms at *
            have HO := Lib.hid hO
            have HQ := Lib.hid hQ
            have HU := Lib.hid hU
            clear hv hv2 hgi hlen hO hQ hD hU
            go_wp2_with fail
            obtain ⟨wo, hwo⟩ : ∃ wo, wo = wr := ⟨_, rfl⟩
            subst hwo
            go_loopw [17] (fun i wq => wq = wo ∧ ∃ m : Nat, m ≤ K + 1 ∧ i = .int .i64 m ∧ Hid (∀ b ∈ ms.take m, b = true)) (fun i _ => K + 1 - (intOf i).toNat)
            case atStart => exact ⟨rfl, 0, by omega, rfl, Lib.hid (by simp)⟩
            case round =>
              obtain ⟨hw, m, hm, rfl, hT⟩ := hrel
              subst hw
              by_cases hlt4 : m < K + 1
              · obtain ⟨_, _, hcu, _⟩ := HU.out.at_ (j := m) (by omega)
                have hml : m < ms.length := by rw [HML.out]; exact hlt4
                rw [List.getElem?_map, List.getElem?_eq_getElem hml, Option.map_some] at hcu
                cases hq : ms[m] with
                | true =>
                  rw [hq] at hcu
                  have HT2 := Lib.hid (show ∀ b ∈ ms.take (m + 1), b = true from by
                    intro b hb
                    rw [List.take_succ_eq_append_getElem hml, List.mem_append, hq] at hb
                    rcases hb with hb | hb
                    · exact hT.out b hb
                    · simpa using hb)
                  clear hq hT
                  go_wp2_with fail
                  go_roundw
                  case rel => exact ⟨trivial, m + 1, by omega, by go_num, HT2⟩
                  case measure => simp [intOf]; omega
                | false =>
                  rw [hq] at hcu
                  have hv := HV2.out
                  rw [if_pos (List.any_eq_true.2 ⟨ms[m], List.getElem_mem hml, by rw [hq]; rfl⟩)] at hv
                  have HV3 := Lib.hid hv
                  clear hq hT hv
                  go_wp2_with fail
                  go_ret2
                  exact GotQ.fail HV3.out HQ.out hKj
              · obtain rfl : m = K + 1 := by omega
                have hv := HV2.out
                rw [if_neg (by
                  intro h
                  rw [List.any_eq_true] at h
                  obtain ⟨b, hb, hb2⟩ := h
                  have := hT.out b (by rw [List.take_of_length_le (by rw [HML.out]; omega)]; exact hb)
                  subst this
                  simp at hb2)] at hv
                have HV3 := Lib.hid hv
                clear hv hT
                go_wp2_with fail
                go_ret2
                rw [HV3.out]
                exact ⟨As, cs, by rw [HLEN.out]; rfl, HQ.out, ⟨bs, by rw [HLEN.out]; exact HO.out, by omega⟩, hKj⟩
end Go.Proofs.YtjepaneniodbpaaGreatDoor
