/- dictval.Get. -/
import Derived.Test.YtbdpimnbjonhlaaChecked
import Derived.Test.YtbdpimnbjonhlaaGetP
namespace Go.Proofs.Ytbdpimnbjonhlaa
open Go Go.RowKit Go.Maps

theorem Get_nil (w : World) (n : Int) : Calls Try.prog 17 #[.pointer none, .int .i64 n] w fun e w' => e = .returned (.tuple #[.slice none 0 0, .int .i64 1]) ∧ w = w' := by
  have hnil : ∀ W, (binOp .eql 30 (.pointer none) (.pointer none)).run Try.prog W = .ok (.bool true) W := fun _ => by kernel_rfl
  go_enter Try.func17, Try.ntmps17
  go_wp2
  go_ret2
  exact ⟨rfl, rfl⟩
theorem Get_neg (w : World) (g : Nat) (n : Int) (hn : n < 0) : Calls Try.prog 17 #[.pointer (some ⟨g, 0, none⟩), .int .i64 n] w fun e w' => e = .returned (.tuple #[.slice none 0 0, .int .i64 2]) ∧ w = w' := by
  have hnil : ∀ W, (binOp .eql 30 (.pointer (some ⟨g, 0, none⟩)) (.pointer none)).run Try.prog W = .ok (.bool false) W := fun _ => by kernel_rfl
  go_enter Try.func17, Try.ntmps17
  go_wp2
  go_ret2
  exact ⟨rfl, rfl⟩
theorem Get_zero (w : World) (g : Nat) : Calls Try.prog 17 #[.pointer (some ⟨g, 0, none⟩), .int .i64 0] w fun e w' => e = .returned (.tuple #[.slice none 0 0, .int .i64 0]) ∧ w = w' := by
  have hnil : ∀ W, (binOp .eql 30 (.pointer (some ⟨g, 0, none⟩)) (.pointer none)).run Try.prog W = .ok (.bool false) W := fun _ => by kernel_rfl
  go_enter Try.func17, Try.ntmps17
  go_wp2
  go_ret2
  exact ⟨rfl, rfl⟩

theorem cN_getD (D : List Nat) (x : Nat) (h : x < D.length) : (cN .u64 D)[x]? = some (.int .u64 ((D.getD x 0 : Nat) : Int)) := by
  rw [List.getElem?_map, List.getElem?_eq_getElem h, List.getD_eq_getElem?_getD, List.getElem?_eq_getElem h]
  rfl
theorem bvw (r : List Bool) (k : Nat) (hk : k ≤ 7) (h : ¬ r.length < k) : bv (r.take k) < 128 := by
  have h1 := bv_lt (r.take k)
  rw [List.length_take, Nat.min_eq_left (by omega)] at h1
  have := Nat.pow_le_pow_right (n := 2) (by omega) hk
  omega

/-- what a reading call leaves -/
def GotV (w w' : World) (g b : Nat) (bytes : List Nat) (pos : Nat) (e : Ending) (V : List Nat × Nat × List Bool) : Prop :=
  ∃ A c, e = .returned (.tuple #[.slice A V.1.length c, .int .i64 (V.2.1 : Nat)]) ∧ (∃ p, pos ≤ p ∧ rest bytes p = V.2.2 ∧ Rdr w' g b bytes p) ∧ (∃ b', Ow w' b' 25 1 A V.1.length c (cN .u64 V.1) ∧ w.heap.size ≤ b') ∧ Kp g g w w'
theorem GotV.fail {w w' : World} {g b : Nat} {bytes : List Nat} {pos p : Nat} {V : List Nat × Nat × List Bool} {k : Nat} (hV : V = ([], k, rest bytes p)) (hp : pos ≤ p) (hR : Rdr w' g b bytes p) (hK : Kp g g w w') :
    GotV w w' g b bytes pos (.returned (.tuple #[.slice none 0 0, .int .i64 (k : Int)])) V := by
  subst hV
  exact ⟨none, 0, rfl, ⟨p, hp, rfl, hR⟩, ⟨w.heap.size, Ow.nil _ _ _ _, Nat.le_refl _⟩, hK⟩

theorem Get_any (w : World) (g b : Nat) (bytes : List Nat) (pos n : Nat) (h : Rdr w g b bytes pos) (hn : 0 < n) (hm : n ≤ 1000000) :
    Calls Try.prog 17 #[.pointer (some ⟨g, 0, none⟩), .int .i64 (n : Int)] w fun e w' => GotV w w' g b bytes pos e (getVals n (rest bytes pos)) := by
  have hlt := h.lt
  have hnil : ∀ W, (binOp .eql 30 (.pointer (some ⟨g, 0, none⟩)) (.pointer none)).run Try.prog W = .ok (.bool false) W := fun _ => by kernel_rfl
  have hmm := @run_makeMap Try.prog
  have HG := Lib.hid (getVals_eq n (rest bytes pos) (by omega))
  have HC := Lib.hid (getD_any w g b bytes pos h)
  have HL := Lib.hid (gD_length (rest bytes pos))
  have HBL := Lib.hid (show (gD (rest bytes pos)).2.1 = 0 → b < w.heap.size from fun hz => h.blt (by rintro rfl; simp [gD, rest, up] at hz))
  generalize getVals n (rest bytes pos) = V at *
  generalize gD (rest bytes pos) = D at *
  obtain ⟨D, E, R⟩ := D
  have hne : (n : Int) ≠ 0 := by omega
  clear h
  by_cases hE : E = 0
  · subst hE
    obtain ⟨hK0, hK1⟩ := HL.out rfl
    have hblt : b < w.heap.size := HBL.out rfl
    clear HBL
    have hv := HG.out
    rw [if_neg (by simp)] at hv
    have HV := Lib.hid hv
    clear hv HG HL
    generalize hKd : D.length = K at *
    have HKD := Lib.hid hKd
    clear hKd
    have hw7 : wd K ≤ 7 := wd_le K hK1
    have e1 : IntKind.u64.wrap (K : Int) = (K : Int) := IntWalk.u64_in _ (by omega)
    go_enter Try.func17, Try.ntmps17
    go_wp2_with (go_at_call 40; refine HC.out.mono ?_; rintro e w1 ⟨AD, cD, rfl, hA, ⟨p0, hp0, hr0, hR0⟩, ⟨bd, hOD, hbd⟩, hK⟩; have hs1 := hK.size; have HR0 := Lib.hid hr0; clear hr0; have hbd2 : bd < w1.heap.size := hOD.lt hK0; clear hA)
    go_loopw [8, 31] (fun s i wr => ∃ k : Nat, k ≤ n ∧ i = .int .i64 k ∧ ∃ (is : List Nat) (bk : Nat) (Ak : Option Addr) (ck p : Nat), is.length = k ∧ (∀ x ∈ is, x < K) ∧ s = .slice Ak k ck ∧ Ow wr bk 25 1 Ak k ck (cN .u64 (is.map (D.getD · 0))) ∧ w1.heap.size < bk ∧
        wr.ownsMap Try.prog 25 (plainElem Try.prog 4) w1.heap.size k (sD is) ∧ pos ≤ p ∧ Rdr wr g b bytes p ∧ Ow wr bd 25 1 AD K cD (cN .u64 D) ∧ gidx K n [] R = gidx K (n - k) is (rest bytes p) ∧ Kp g g w wr) (fun _ i _ => n - (intOf i).toNat)
    case atStart =>
      have hnw := Nw.alloc' (Nw.refl w1) (.map #[] 0)
      exact ⟨0, by omega, rfl, [], w1.heap.size + 1, none, 0, p0, rfl, by simp, rfl, Ow.nil _ _ _ _, by omega, World.ownsMap_made _ _ _ _, hp0, hR0.nw hnw, hOD.nw hnw, by rw [HR0.out]; rfl, hK.nw' hnw⟩
    case round =>
      obtain ⟨k, hk, rfl, is, bk, Ak, ck, p, hisl, his, rfl, hO, hbk, hown, hp, hR, hOd, hgi, hKr⟩ := hrel
      have hsr := hKr.size
      have HI := Lib.hid his
      have HIL := Lib.hid hisl
      clear his hisl
      by_cases hlt2 : k < n
      · rw [show n - k = (n - k - 1) + 1 from by omega] at hgi
        obtain ⟨rfl, _⟩ := hOd.at_ (j := 0) (by omega)
        by_cases hf : (rest bytes p).length < wd K
        · rw [gidx_eof _ _ _ _ hf] at hgi
          have HGI := Lib.hid hgi
          have HQ := Lib.hid (RBits_eof wr g b bytes p (wd K) hR (by omega) (by rw [rest_length] at hf; have := hR.within; omega))
          have HRr := Lib.hid hR
          clear hgi hR hf hO hOd hOD
          go_wp2_with (first
            | (go_at_call 14; refine (Width_any _ _ (by omega) (by omega)).mono ?_; rintro e w3 ⟨rfl, hw3⟩; simp only [Int.toNat_natCast]; subst hw3)
            | (go_at_call 41; refine HQ.out.mono ?_; rintro e w2 ⟨rfl, hdr⟩))
          go_ret2
          have hv := HV.out
          rw [HGI.out, if_pos (by simp)] at hv
          exact GotV.fail hv hp (HRr.out.nw hdr.nw) (hKr.nw' hdr.nw)
        · have HQ := Lib.hid (RBits_ok wr g b bytes p (wd K) hR (by omega) (by rw [rest_length] at hf; have := hR.within; omega))
          have hx7 := bvw _ _ hw7 hf
          by_cases hbad : K ≤ bv ((rest bytes p).take (wd K))
          · rw [gidx_bad _ _ _ _ hf hbad, rest_drop] at hgi
            generalize bv ((rest bytes p).take (wd K)) = x at *
            have HGI := Lib.hid hgi
            clear hgi hR hf hO hOd hOD
            go_wp2_with (first
              | (go_at_call 14; refine (Width_any _ _ (by omega) (by omega)).mono ?_; rintro e w3 ⟨rfl, hw3⟩; simp only [Int.toNat_natCast]; subst hw3)
              | (go_at_call 41; refine HQ.out.mono ?_; rintro e w2 ⟨rfl, hR2, hK2⟩))
            go_ret2
            have hv := HV.out
            rw [HGI.out, if_pos (by simp)] at hv
            exact GotV.fail hv (by omega) hR2 (hKr.trans hK2 (.inl rfl) (.inl rfl))
          · rw [gidx_more _ _ _ _ hf hbad, rest_drop] at hgi
            generalize bv ((rest bytes p).take (wd K)) = x at *
            have HGI := Lib.hid hgi
            have HO := Lib.hid hO
            have HOd := Lib.hid hOd
            have hown0 := Lib.hid hown
            have HKEY := Lib.hid (show keyOf Try.prog 25 (.int .u64 (x : Int)) = some (ky x) from keyOf_int_mk Try.underlying25 (wfU _ (by omega)))
            have HCD := Lib.hid (cN_getD D x (by rw [HKD.out]; omega))
            generalize hy : D.getD x 0 = y at *
            have HY := Lib.hid hy
            clear hgi hR hf hO hOd hOD hown hy
            go_wp2_with (first
              | (go_at_call 14; refine (Width_any _ _ (by omega) (by omega)).mono ?_; rintro e w3 ⟨rfl, hw3⟩; simp only [Int.toNat_natCast]; subst hw3)
              | (go_at_call 41; refine HQ.out.mono ?_; rintro e w2 ⟨rfl, hR2, hK2⟩; have hown2 := hown0.out.kept hK2.gb (by intro e; injection e; omega); have hO2 := HO.out.kp hK2 (by omega) (by omega); have hOd2 := HOd.out.kp hK2 (by omega) (by omega); have HOO := Lib.hid (And.intro hown2 (And.intro hO2 hOd2)); clear hown2 hO2 hOd2)
              | (at_mapUpdate; refine wpList_mapUpdate_own _ rfl _ _ _ 63 rfl 25 4 lawU Try.underlying63 (plainElem (H := Unit) Try.prog 4) w1.heap.size k _ rfl HOO.out.1 (by unfold maxLen; omega) _ _ _ rfl rfl HKEY.out _ [] (plainElem_bool Try.underlying4 true) ?_; intro w3 hown3 hgrow3; have hK3 : Kp w1.heap.size w1.heap.size w2 w3 := (Kp.refl _ _ w2).grown hgrow3 (fun j hj => by cases hj; exact .inl rfl); have hO3 := HOO.out.2.1.kp hK3 (by omega) (by omega); have hOd3 := HOO.out.2.2.kp hK3 (by omega) (by omega); obtain ⟨_, _, hcell, _⟩ := hOd3.at_ (j := x) (by omega); rw [HCD.out] at hcell; have HO3 := Lib.hid (And.intro hO3 hown3); clear hO3 hown3 hOd3 hgrow3)
              | (at_builtin; refine wpList_app1 E_u64 rfl (.tmp 53) (.tmp 58) rfl rfl HO3.out.1 rfl rfl (by omega) (by omega) ?_; intro b4 A4 c4 w4 h1 h2 h3 h4))
            go_roundw
            case rel =>
              have hs2 := hK2.size
              have hs3 := hK3.size
              have hml := hown0.out.lt
              refine ⟨k + 1, by omega, by go_num, is ++ [x], b4, A4, c4, p + wd K, by simp [HIL.out], ?_, rfl, ?_, by omega, ?_, by omega, (hR2.kp hK3 (by omega) (by omega) (by omega) (by omega)).kp h3 (by omega) (by omega) (by omega) (by omega), (HOO.out.2.2.kp hK3 (by omega) (by omega)).kp h3 (by omega) (by omega), ?_, ((hKr.trans hK2 (.inl rfl) (.inl rfl)).trans hK3 (by omega) (by omega)).trans h3 (by omega) (by omega)⟩
              · intro z hz
                rw [List.mem_append] at hz
                rcases hz with hz | hz
                · exact HI.out z hz
                · simp at hz; omega
              · rw [List.map_append, List.map_cons, List.map_nil, HY.out]
                simpa using h1
              · unfold sD
                rw [List.map_append, List.map_cons, List.map_nil, setOf_snoc]
                exact HO3.out.2.kept h3.gb (by intro e; injection e; omega)
              · rw [HGI.out]; congr 1
            case measure => simp [intOf]; omega
      · obtain rfl : k = n := by omega
        rw [Nat.sub_self] at hgi
        have hv := HV.out
        rw [hgi] at hv
        have hu := unused_iff K is HI.out
        have hv2 : V = if unused K is then ([], 8, rest bytes p) else (is.map (D.getD · 0), 0, rest bytes p) := by
          rw [hv]
          unfold gidx
          rw [if_neg (by simp)]
        rw [hu] at hv2
        generalize hsz : Maps.size (sD is) = sz at *
        have HSZ := Lib.hid hsz
        have HV2 := Lib.hid hv2
        clear hv hv2 hgi hu hsz
        by_cases hlts : sz < K
        · go_wp2_with (first
            | (at_len; refine wpList_len_own _ rfl _ 63 rfl 25 4 Try.underlying63 _ w1.heap.size _ _ rfl hown ?_; rw [HSZ.out])
            | go_in)
          go_ret2
          have hv := HV2.out
          rw [decide_eq_true hlts, if_pos rfl] at hv
          exact GotV.fail hv hp hR hKr
        · go_wp2_with (first
            | (at_len; refine wpList_len_own _ rfl _ 63 rfl 25 4 Try.underlying63 _ w1.heap.size _ _ rfl hown ?_; rw [HSZ.out])
            | go_in)
          go_ret2
          have hv := HV2.out
          rw [decide_eq_false hlts, if_neg (by simp)] at hv
          have hlen : (is.map (D.getD · 0)).length = k := by rw [List.length_map]; exact HIL.out
          rw [hv]
          exact ⟨Ak, ck, by rw [hlen]; rfl, ⟨p, hp, rfl, hR⟩, ⟨bk, by rw [hlen]; exact hO, by omega⟩, hKr⟩
  · have hE2 : ((E : Int) == 0) = false := by rw [beq_eq_false_iff_ne]; omega
    go_enter Try.func17, Try.ntmps17
    go_wp2_with (go_at_call 40; refine HC.out.mono ?_; rintro e w1 ⟨A, c, rfl, hA, hp, hO, hK⟩)
    go_ret2
    have hv := HG.out
    rw [if_pos hE] at hv
    obtain ⟨p, hp1, hp2, hp3⟩ := hp
    exact GotV.fail (by rw [hv, hp2]) hp1 hp3 hK
end Go.Proofs.Ytbdpimnbjonhlaa
