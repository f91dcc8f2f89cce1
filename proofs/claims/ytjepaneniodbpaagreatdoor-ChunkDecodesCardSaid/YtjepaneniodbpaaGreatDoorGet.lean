import Derived.Test.YtjepaneniodbpaaGreatDoorChecked
import Derived.Test.YtjepaneniodbpaaGreatDoorDictF
import Derived.Test.YtjepaneniodbpaaGreatDoorReader
import Derived.Test.YtjepaneniodbpaaGreatDoorWidth

/- dictval.getDictionary. -/
namespace Go.Proofs.YtjepaneniodbpaaGreatDoor
open Go Go.RowKit

theorem gdict_more (m : Nat) (d : List Nat) (r : List Bool) (h : 64 ≤ r.length) (hb : badNext d (bv (r.take 64)) = false) : gdict (m + 1) d r = gdict m (d ++ [bv (r.take 64)]) (r.drop 64) := by
  conv => lhs; unfold gdict
  rw [if_neg (by omega), if_neg (by simp [hb])]
theorem gdict_bad (m : Nat) (d : List Nat) (r : List Bool) (h : 64 ≤ r.length) (hb : badNext d (bv (r.take 64)) = true) : gdict (m + 1) d r = ([], 8, r.drop 64) := by
  conv => lhs; unfold gdict
  rw [if_neg (by omega), if_pos hb]
theorem gdict_eof (m : Nat) (d : List Nat) (r : List Bool) (h : r.length < 64) : gdict (m + 1) d r = ([], 3, r) := by
  conv => lhs; unfold gdict
  rw [if_pos h]
theorem bv64 (r : List Bool) (h : 64 ≤ r.length) : bv (r.take 64) < 18446744073709551616 := by
  have := bv_lt (r.take 64)
  rw [List.length_take, Nat.min_eq_left h] at this
  simpa using this

theorem badNext_at (d : List Nat) (x : Nat) (h : 0 < d.length) : ∃ y, d[d.length - 1]? = some y ∧ badNext d x = decide (x ≤ y) := by
  have e : d[d.length - 1]? = some (d[d.length - 1]'(by omega)) := List.getElem?_eq_getElem _
  refine ⟨_, e, ?_⟩
  unfold badNext
  rw [List.getLast?_eq_getElem?, e]
theorem Rdr.blt {w : World} {g b : Nat} {bytes : List Nat} {pos : Nat} (h : Rdr w g b bytes pos) (hb : bytes ≠ []) : b < w.heap.size := by
  obtain ⟨A, c, _, hr⟩ := h.blk
  rcases hr with hr | ⟨_, _, hr, _⟩
  · exact absurd (by simpa using hr) hb
  · exact hr
/-- what getDictionary gives -/
def gD (r : List Bool) : List Nat × Nat × List Bool := if r.length < 7 then ([], 3, r) else gdict (bv (r.take 7) + 1) [] (r.drop 7)

theorem getD_any (w : World) (g b : Nat) (bytes : List Nat) (pos : Nat) (h : Rdr w g b bytes pos) :
    Calls Tryz.prog 78 #[.pointer (some ⟨g, 0, none⟩)] w fun e w' =>
      ∃ A c, e = .returned (.tuple #[.slice A (gD (rest bytes pos)).1.length c, .int .i64 ((gD (rest bytes pos)).2.1 : Nat)]) ∧ ((gD (rest bytes pos)).2.1 ≠ 0 → A = none ∧ c = 0) ∧
        (∃ p, pos ≤ p ∧ rest bytes p = (gD (rest bytes pos)).2.2 ∧ Rdr w' g b bytes p) ∧ (∃ b', Ow w' b' 25 1 A (gD (rest bytes pos)).1.length c (cN .u64 (gD (rest bytes pos)).1) ∧ w.heap.size ≤ b') ∧ Kp g g w w' := by
  have hlt := h.lt
  have hwi := h.within
  by_cases h7 : (rest bytes pos).length < 7
  · have HR := Lib.hid (RBits_eof w g b bytes pos 7 h (by omega) (by rw [rest_length] at h7; omega))
    have HG := Lib.hid (show gD (rest bytes pos) = ([], 3, rest bytes pos) from by unfold gD; rw [if_pos h7])
    have HH := Lib.hid h
    clear h
    go_enter Tryz.func78, Tryz.ntmps78
    go_wp2_with (go_at_call 54; refine HR.out.mono ?_; rintro e w1 ⟨rfl, hdr⟩)
    go_ret2
    rw [HG.out]
    exact ⟨none, 0, rfl, by simp, ⟨pos, Nat.le_refl _, rfl, HH.out.nw hdr.nw⟩, ⟨w.heap.size, Ow.nil _ _ _ _, Nat.le_refl _⟩, hdr.nw.kp _ _⟩
  · have HR := Lib.hid (RBits_ok w g b bytes pos 7 h (by omega) (by rw [rest_length] at h7; omega))
    have HG := Lib.hid (show gD (rest bytes pos) = gdict (bv ((rest bytes pos).take 7) + 1) [] (rest bytes (pos + 7)) from by unfold gD; rw [if_neg h7, rest_drop])
    have hk7 := bv_lt ((rest bytes pos).take 7)
    rw [List.length_take, Nat.min_eq_left (by omega)] at hk7
    have hblt := h.blt (by rintro rfl; simp [rest_length] at h7)
    generalize bv ((rest bytes pos).take 7) = K at *
    have hK : K < 128 := hk7
    have e1 : IntKind.i64.wrap (K : Int) = (K : Int) := IntWalk.i64_in _ (by omega)
    clear hk7 h h7
    go_enter Tryz.func78, Tryz.ntmps78
    go_wp2_with (go_at_call 54; refine HR.out.mono ?_; rintro e w1 ⟨rfl, hR1, hK1⟩)
    have hs1 := hK1.size
    go_loopw [6, 21] (fun s i wr => ∃ k : Nat, k ≤ K + 1 ∧ i = .int .i64 k ∧ ∃ (d : List Nat) (bk : Nat) (Ak : Option Addr) (ck p : Nat), d.length = k ∧ s = .slice Ak k ck ∧ Ow wr bk 25 1 Ak k ck (cN .u64 d) ∧ w.heap.size ≤ bk ∧ pos ≤ p ∧ Rdr wr g b bytes p ∧ gD (rest bytes pos) = gdict (K + 1 - k) d (rest bytes p) ∧ Kp g g w wr) (fun _ i _ => K + 1 - (intOf i).toNat)
    case atStart => exact ⟨0, by omega, rfl, [], w.heap.size, none, 0, pos + 7, rfl, rfl, Ow.nil _ _ _ _, Nat.le_refl _, by omega, hR1, by simpa using HG.out, hK1⟩
    case round =>
      obtain ⟨k, hk, rfl, d, bk, Ak, ck, p, hdk, rfl, hO, hbk, hp, hRp, hgd, hKk⟩ := hrel
      have hsk := hKk.size
      by_cases hlt2 : k < K + 1
      · have hs : K + 1 - k = (K - k) + 1 := by omega
        rw [hs] at hgd
        by_cases h64 : (rest bytes p).length < 64
        · rw [gdict_eof _ _ _ h64] at hgd
          have HGD := Lib.hid hgd
          have HQ := Lib.hid (RBits_eof wr g b bytes p 64 hRp (by omega) (by rw [rest_length] at h64; omega))
          have HRP := Lib.hid hRp
          clear hgd hRp hO hR1
          go_wp2_with (go_at_call 54; refine HQ.out.mono ?_; rintro e w2 ⟨rfl, hdr⟩)
          go_ret2
          rw [HGD.out]
          exact ⟨none, 0, rfl, by simp, ⟨p, hp, rfl, HRP.out.nw hdr.nw⟩, ⟨w.heap.size, Ow.nil _ _ _ _, Nat.le_refl _⟩, hKk.nw' hdr.nw⟩
        · have HQ := Lib.hid (RBits_ok wr g b bytes p 64 hRp (by omega) (by rw [rest_length] at h64; omega))
          have hx := bv64 (rest bytes p) (by omega)
          by_cases hk0 : k = 0
          · subst hk0
            obtain rfl := List.eq_nil_of_length_eq_zero hdk
            rw [gdict_more _ _ _ (by omega) rfl] at hgd
            generalize bv ((rest bytes p).take 64) = x at *
            have HGD := Lib.hid hgd
            have HO := Lib.hid hO
            clear hgd hRp hO hR1
            go_wp2_with (first
              | (go_at_call 54; refine HQ.out.mono ?_; rintro e w2 ⟨rfl, hR2, hK2⟩; have hO2 := HO.out.kp hK2 (by omega) (by omega))
              | (at_builtin; refine wpList_app1 E_u64 rfl (.tmp 45) (.tmp 47) rfl rfl hO2 rfl rfl (by omega) (by omega) ?_; intro b3 A3 c3 w3 h1 h2 h3 h4))
            go_roundw
            case rel =>
              have hs2 := hK2.size
              have hg3 : g < w2.heap.size := by omega
              refine ⟨1, by omega, by go_num, [x], b3, A3, c3, p + 64, rfl, rfl, h1, by omega, by omega, ?_, ?_, ?_⟩
              · exact hR2.kp h3 (by omega) (by omega) (by omega) (by omega)
              · rw [HGD.out, rest_drop]; rfl
              · exact (hKk.trans hK2 (.inl rfl) (.inl rfl)).trans h3 (by omega) (by omega)
            case measure => simp [intOf]
          · obtain ⟨y, hy1, hy2⟩ := badNext_at d (bv ((rest bytes p).take 64)) (by omega)
            rw [hdk] at hy1
            obtain ⟨rfl, hbw, hc, _⟩ := hO.at_ (j := k - 1) (by omega)
            rw [List.getElem?_map, hy1, Option.map_some] at hc
            have HC := Lib.hid (show ∀ w2, Kp g g wr w2 → w2.cell? ⟨bk, k - 1, none⟩ = some (.int .u64 (y : Int)) from fun w2 hk2 => by rw [← hc]; exact World.cell?_of_block (hk2.block bk hbw (by omega) (by omega)))
            have HO := Lib.hid hO
            clear hc hy1 hO hR1 hRp
            by_cases hbad : badNext d (bv ((rest bytes p).take 64)) = true
            · rw [gdict_bad _ _ _ (by omega) hbad] at hgd
              have HGD := Lib.hid hgd
              rw [hy2] at hbad
              generalize bv ((rest bytes p).take 64) = x at *
              have hbad' : x ≤ y := by simpa using hbad
              clear hbad hy2 hgd
              go_wp2_with (go_at_call 54; refine HQ.out.mono ?_; rintro e w2 ⟨rfl, hR2, hK2⟩; have hc2 := HC.out _ hK2)
              go_ret2
              rw [HGD.out]
              exact ⟨none, 0, rfl, by simp, ⟨p + 64, by omega, by rw [rest_drop], hR2⟩, ⟨w.heap.size, Ow.nil _ _ _ _, Nat.le_refl _⟩, hKk.trans hK2 (.inl rfl) (.inl rfl)⟩
            · rw [gdict_more _ _ _ (by omega) (by simpa using hbad)] at hgd
              have HGD := Lib.hid hgd
              rw [hy2] at hbad
              generalize bv ((rest bytes p).take 64) = x at *
              have hbad' : ¬ x ≤ y := by simpa using hbad
              clear hbad hy2 hgd
              go_wp2_with (first
                | (go_at_call 54; refine HQ.out.mono ?_; rintro e w2 ⟨rfl, hR2, hK2⟩; have hc2 := HC.out _ hK2; have hO2 := HO.out.kp hK2 (by omega) (by omega))
                | (at_builtin; refine wpList_app1 E_u64 rfl (.tmp 45) (.tmp 47) rfl rfl hO2 rfl rfl (by omega) (by omega) ?_; intro b3 A3 c3 w3 h1 h2 h3 h4))
              go_roundw
              case rel =>
                have hs2 := hK2.size
                refine ⟨k + 1, by omega, by go_num, d ++ [x], b3, A3, c3, p + 64, by simp [hdk], rfl, by simpa using h1, by omega, by omega, ?_, ?_, ?_⟩
                · exact hR2.kp h3 (by omega) (by omega) (by omega) (by omega)
                · rw [HGD.out, rest_drop]; congr 1; omega
                · exact (hKk.trans hK2 (.inl rfl) (.inl rfl)).trans h3 (by omega) (by omega)
              case measure => simp [intOf]; omega
      · go_wp2_with fail
        go_ret2
        obtain rfl : k = K + 1 := by omega
        rw [Nat.sub_self] at hgd
        rw [hgd]
        unfold gdict
        exact ⟨Ak, ck, by rw [hdk]; rfl, by simp, ⟨p, hp, rfl, hRp⟩, ⟨bk, by rw [hdk]; exact hO, hbk⟩, hKk⟩
end Go.Proofs.YtjepaneniodbpaaGreatDoor

/- What dictval.Get reads: the plain law behind its walk. -/
namespace Go.Proofs.YtjepaneniodbpaaGreatDoor
open Go Go.RowKit Go.Maps

/-- an ascending list below K has at most K elements -/
theorem asc_below (d : List Nat) (K : Nat) (h : d.Pairwise (· < ·)) (hb : ∀ x ∈ d, x < K) : d.length ≤ K := by
  have hge : ∀ (l : List Nat) (m : Nat), l.Pairwise (· < ·) → (∀ x ∈ l, m ≤ x ∧ x < K) → l.length + m ≤ K ∨ l = [] := by
    intro l
    induction l with
    | nil => intro m _ _; exact .inr rfl
    | cons x t ih =>
      intro m hp hm
      rw [List.pairwise_cons] at hp
      have hx := hm x (by simp)
      rcases ih (x + 1) hp.2 (fun y hy => ⟨hp.1 y hy, (hm y (by simp [hy])).2⟩) with h | rfl
      · left; simp; omega
      · left; simp; omega
  rcases hge d 0 h (fun x hx => ⟨Nat.zero_le _, hb x hx⟩) with h | rfl
  · omega
  · simp
theorem ins_new (x : Nat) (d : List Nat) (h : x ∉ d) : (ins x d).length = d.length + 1 := by
  induction d with
  | nil => rfl
  | cons y l ih =>
    rw [List.mem_cons, not_or] at h
    unfold ins
    split
    · rfl
    · rw [if_neg h.1, List.length_cons, ih h.2, List.length_cons]
theorem ins_old (x : Nat) (d : List Nat) (hd : d.Pairwise (· < ·)) (h : x ∈ d) : (ins x d).length = d.length := by rw [ins_of_mem d x hd h]
theorem size_sD (xs : List Nat) : ∀ k, k ≤ xs.length → Maps.size (sD (xs.take k)) = (dict (xs.take k)).length := by
  intro k
  induction k with
  | zero => intro _; rfl
  | succ k ih =>
    intro h
    have hk : k < xs.length := h
    have ih := ih (by omega)
    rw [List.take_succ_eq_append_getElem hk, dict_snoc]
    unfold sD
    rw [List.map_append, List.map_cons, List.map_nil, setOf_snoc, size_put (tidy_setOf _ _ (sD_key _))]
    have hh := has_sD (xs.take k) xs[k]
    by_cases hm : xs[k] ∈ xs.take k
    · rw [if_pos (hh.2 hm), ins_old _ _ (dict_asc _) ((dict_mem _ _).2 hm)]
      exact ih
    · rw [if_neg (fun h => hm (hh.1 h)), ins_new _ _ (fun h => hm ((dict_mem _ _).1 h))]
      exact congrArg (· + 1) ih
theorem unused_iff (K : Nat) (is : List Nat) (hb : ∀ x ∈ is, x < K) : unused K is = decide (Maps.size (sD is) < K) := by
  have hs := size_sD is is.length (Nat.le_refl _)
  rw [List.take_length] at hs
  rw [hs]
  by_cases h : unused K is = true
  · rw [h]
    symm
    rw [decide_eq_true_iff]
    unfold unused at h
    rw [List.any_eq_true] at h
    obtain ⟨j, hj, hc⟩ := h
    have hjm : j ∉ is := by simpa using hc
    have h1 := asc_below (ins j (dict is)) K (ins_asc _ _ (dict_asc _)) (fun x hx => by
      rw [ins_mem] at hx
      rcases hx with rfl | hx
      · simpa using hj
      · exact hb x ((dict_mem _ _).1 hx))
    rw [ins_new _ _ (fun h => hjm ((dict_mem _ _).1 h))] at h1
    omega
  · have hn : ∀ j, j < K → j ∈ is := by
      intro j hj
      refine Classical.byContradiction fun hc => h ?_
      unfold unused
      rw [List.any_eq_true]
      exact ⟨j, by simpa using hj, by simpa using hc⟩
    have he : dict is = List.range K := asc_ext _ _ (dict_asc _) List.pairwise_lt_range (fun x => by rw [dict_mem, List.mem_range]; exact ⟨hb x, hn x⟩)
    rw [he, List.length_range]
    simp only [Bool.not_eq_true] at h
    rw [h]
    symm
    rw [decide_eq_false_iff_not]
    omega

theorem gdict_length : ∀ (m : Nat) (d : List Nat) (r : List Bool), (gdict m d r).2.1 = 0 → (gdict m d r).1.length = d.length + m := by
  intro m
  induction m with
  | zero => intro d r _; rfl
  | succ m ih =>
    intro d r h
    unfold gdict at h ⊢
    split at h
    · simp at h
    · split at h
      · simp at h
      · rename_i h1 h2
        rw [if_neg h1, if_neg h2, ih _ _ h]
        simp; omega
theorem gD_length (r : List Bool) (h : (gD r).2.1 = 0) : 0 < (gD r).1.length ∧ (gD r).1.length ≤ 128 := by
  unfold gD at h ⊢
  split at h
  · simp at h
  · rename_i h7
    rw [if_neg h7, gdict_length _ _ _ h]
    have := bv_lt (r.take 7)
    rw [List.length_take, Nat.min_eq_left (by omega)] at this
    simp
    omega

theorem gidx_more (k m : Nat) (l : List Nat) (r : List Bool) (h : ¬ r.length < wd k) (hb : ¬ k ≤ bv (r.take (wd k))) : gidx k (m + 1) l r = gidx k m (l ++ [bv (r.take (wd k))]) (r.drop (wd k)) := by
  conv => lhs; unfold gidx
  rw [if_neg h, if_neg hb]
theorem gidx_bad (k m : Nat) (l : List Nat) (r : List Bool) (h : ¬ r.length < wd k) (hb : k ≤ bv (r.take (wd k))) : gidx k (m + 1) l r = ([], 8, r.drop (wd k)) := by
  conv => lhs; unfold gidx
  rw [if_neg h, if_pos hb]
theorem gidx_eof (k m : Nat) (l : List Nat) (r : List Bool) (h : r.length < wd k) : gidx k (m + 1) l r = ([], 3, r) := by
  conv => lhs; unfold gidx
  rw [if_pos h]

theorem getVals_eq (n : Nat) (r : List Bool) (hn : n ≠ 0) : getVals n r = if (gD r).2.1 ≠ 0 then ([], (gD r).2.1, (gD r).2.2) else
    if (gidx (gD r).1.length n [] (gD r).2.2).2.1 ≠ 0 then ([], (gidx (gD r).1.length n [] (gD r).2.2).2.1, (gidx (gD r).1.length n [] (gD r).2.2).2.2)
    else if unused (gD r).1.length (gidx (gD r).1.length n [] (gD r).2.2).1 then ([], 8, (gidx (gD r).1.length n [] (gD r).2.2).2.2)
    else ((gidx (gD r).1.length n [] (gD r).2.2).1.map ((gD r).1.getD · 0), 0, (gidx (gD r).1.length n [] (gD r).2.2).2.2) := by
  unfold getVals gD
  rw [if_neg hn]
  by_cases h7 : r.length < 7
  · rw [if_pos h7, if_pos h7]; simp
  · rw [if_neg h7, if_neg h7]
end Go.Proofs.YtjepaneniodbpaaGreatDoor

/- dictval.Get. -/
namespace Go.Proofs.YtjepaneniodbpaaGreatDoor
open Go Go.RowKit Go.Maps

theorem Get_nil (w : World) (n : Int) : Calls Tryz.prog 46 #[.pointer none, .int .i64 n] w fun e w' => e = .returned (.tuple #[.slice none 0 0, .int .i64 1]) ∧ w = w' := by
  have hnil : ∀ W, (binOp .eql 67 (.pointer none) (.pointer none)).run Tryz.prog W = .ok (.bool true) W := fun _ => by kernel_rfl
  go_enter Tryz.func46, Tryz.ntmps46
  go_wp2
  go_ret2
  exact ⟨rfl, rfl⟩
theorem Get_neg (w : World) (g : Nat) (n : Int) (hn : n < 0) : Calls Tryz.prog 46 #[.pointer (some ⟨g, 0, none⟩), .int .i64 n] w fun e w' => e = .returned (.tuple #[.slice none 0 0, .int .i64 2]) ∧ w = w' := by
  have hnil : ∀ W, (binOp .eql 67 (.pointer (some ⟨g, 0, none⟩)) (.pointer none)).run Tryz.prog W = .ok (.bool false) W := fun _ => by kernel_rfl
  go_enter Tryz.func46, Tryz.ntmps46
  go_wp2
  go_ret2
  exact ⟨rfl, rfl⟩
theorem Get_zero (w : World) (g : Nat) : Calls Tryz.prog 46 #[.pointer (some ⟨g, 0, none⟩), .int .i64 0] w fun e w' => e = .returned (.tuple #[.slice none 0 0, .int .i64 0]) ∧ w = w' := by
  have hnil : ∀ W, (binOp .eql 67 (.pointer (some ⟨g, 0, none⟩)) (.pointer none)).run Tryz.prog W = .ok (.bool false) W := fun _ => by kernel_rfl
  go_enter Tryz.func46, Tryz.ntmps46
  go_wp2
  go_ret2
  exact ⟨rfl, rfl⟩

theorem cN_getD (D : List Nat) (x : Nat) (h : x < D.length) : (cN .u64 D)[x]? = some (.int .u64 ((D.getD x 0 : Nat) : Int)) := by
  rw [List.getElem?_map, List.getElem?_eq_getElem h, List.getD_eq_getElem?_getD, List.getElem?_eq_getElem h]
  rfl
theorem bvw (r : List Bool) (k : Nat) (hk : k ≤ 7) (h : ¬ r.length < k) : bv (r.take k) < 128 := by
  have h1 := bv_lt (r.take k)
  rw [List.length_take, Nat.min_eq_left (by omega)] at h1
  have := Nat.pow_le_pow_right (n := 2) (by omega) hk
  omega

/-- what a reading call leaves -/
def GotV (w w' : World) (g b : Nat) (bytes : List Nat) (pos : Nat) (e : Ending) (V : List Nat × Nat × List Bool) : Prop :=
  ∃ A c, e = .returned (.tuple #[.slice A V.1.length c, .int .i64 (V.2.1 : Nat)]) ∧ (∃ p, pos ≤ p ∧ rest bytes p = V.2.2 ∧ Rdr w' g b bytes p) ∧ (∃ b', Ow w' b' 25 1 A V.1.length c (cN .u64 V.1) ∧ w.heap.size ≤ b') ∧ Kp g g w w'
theorem GotV.fail {w w' : World} {g b : Nat} {bytes : List Nat} {pos p : Nat} {V : List Nat × Nat × List Bool} {k : Nat} (hV : V = ([], k, rest bytes p)) (hp : pos ≤ p) (hR : Rdr w' g b bytes p) (hK : Kp g g w w') :
    GotV w w' g b bytes pos (.returned (.tuple #[.slice none 0 0, .int .i64 (k : Int)])) V := by
  subst hV
  exact ⟨none, 0, rfl, ⟨p, hp, rfl, hR⟩, ⟨w.heap.size, Ow.nil _ _ _ _, Nat.le_refl _⟩, hK⟩

theorem Get_any (w : World) (g b : Nat) (bytes : List Nat) (pos n : Nat) (h : Rdr w g b bytes pos) (hn : 0 < n) (hm : n ≤ 1000000) :
    Calls Tryz.prog 46 #[.pointer (some ⟨g, 0, none⟩), .int .i64 (n : Int)] w fun e w' => GotV w w' g b bytes pos e (getVals n (rest bytes pos)) := by
  have hlt := h.lt
  have hnil : ∀ W, (binOp .eql 67 (.pointer (some ⟨g, 0, none⟩)) (.pointer none)).run Tryz.prog W = .ok (.bool false) W := fun _ => by kernel_rfl
  have hmm := @run_makeMap Tryz.prog
  have HG := Lib.hid (getVals_eq n (rest bytes pos) (by omega))
  have HC := Lib.hid (getD_any w g b bytes pos h)
  have HL := Lib.hid (gD_length (rest bytes pos))
  have HBL := Lib.hid (show (gD (rest bytes pos)).2.1 = 0 → b < w.heap.size from fun hz => h.blt (by rintro rfl; simp [gD, rest, up] at hz))
  generalize getVals n (rest bytes pos) = V at *
  generalize gD (rest bytes pos) = D at *
  obtain ⟨D, E, R⟩ := D
  have hne : (n : Int) ≠ 0 := by omega
  clear h
  by_cases hE : E = 0
  · subst hE
    obtain ⟨hK0, hK1⟩ := HL.out rfl
    have hblt : b < w.heap.size := HBL.out rfl
    clear HBL
    have hv := HG.out
    rw [if_neg (by simp)] at hv
    have HV := Lib.hid hv
    clear hv HG HL
    generalize hKd : D.length = K at *
    have HKD := Lib.hid hKd
    clear hKd
    have hw7 : wd K ≤ 7 := wd_le K hK1
    have e1 : IntKind.u64.wrap (K : Int) = (K : Int) := IntWalk.u64_in _ (by omega)
    go_enter Tryz.func46, Tryz.ntmps46
    go_wp2_with (go_at_call 78; refine HC.out.mono ?_; rintro e w1 ⟨AD, cD, rfl, hA, ⟨p0, hp0, hr0, hR0⟩, ⟨bd, hOD, hbd⟩, hK⟩; have hs1 := hK.size; have HR0 := Lib.hid hr0; clear hr0; have hbd2 : bd < w1.heap.size := hOD.lt hK0; clear hA)
    go_loopw [8, 31] (fun s i wr => ∃ k : Nat, k ≤ n ∧ i = .int .i64 k ∧ ∃ (is : List Nat) (bk : Nat) (Ak : Option Addr) (ck p : Nat), is.length = k ∧ (∀ x ∈ is, x < K) ∧ s = .slice Ak k ck ∧ Ow wr bk 25 1 Ak k ck (cN .u64 (is.map (D.getD · 0))) ∧ w1.heap.size < bk ∧
        wr.ownsMap Tryz.prog 25 (plainElem Tryz.prog 4) w1.heap.size k (sD is) ∧ pos ≤ p ∧ Rdr wr g b bytes p ∧ Ow wr bd 25 1 AD K cD (cN .u64 D) ∧ gidx K n [] R = gidx K (n - k) is (rest bytes p) ∧ Kp g g w wr) (fun _ i _ => n - (intOf i).toNat)
    case atStart =>
      have hnw := Nw.alloc' (Nw.refl w1) (.map #[] 0)
      exact ⟨0, by omega, rfl, [], w1.heap.size + 1, none, 0, p0, rfl, by simp, rfl, Ow.nil _ _ _ _, by omega, World.ownsMap_made _ _ _ _, hp0, hR0.nw hnw, hOD.nw hnw, by rw [HR0.out]; rfl, hK.nw' hnw⟩
    case round =>
      obtain ⟨k, hk, rfl, is, bk, Ak, ck, p, hisl, his, rfl, hO, hbk, hown, hp, hR, hOd, hgi, hKr⟩ := hrel
      have hsr := hKr.size
      have HI := Lib.hid his
      have HIL := Lib.hid hisl
      clear his hisl
      by_cases hlt2 : k < n
      · rw [show n - k = (n - k - 1) + 1 from by omega] at hgi
        obtain ⟨rfl, _⟩ := hOd.at_ (j := 0) (by omega)
        by_cases hf : (rest bytes p).length < wd K
        · rw [gidx_eof _ _ _ _ hf] at hgi
          have HGI := Lib.hid hgi
          have HQ := Lib.hid (RBits_eof wr g b bytes p (wd K) hR (by omega) (by rw [rest_length] at hf; have := hR.within; omega))
          have HRr := Lib.hid hR
          clear hgi hR hf hO hOd hOD
          go_wp2_with (first
            | (go_at_call 76; refine (Width_any _ _ (by omega) (by omega)).mono ?_; rintro e w3 ⟨rfl, hw3⟩; simp only [Int.toNat_natCast]; subst hw3)
            | (go_at_call 54; refine HQ.out.mono ?_; rintro e w2 ⟨rfl, hdr⟩))
          go_ret2
          have hv := HV.out
          rw [HGI.out, if_pos (by simp)] at hv
          exact GotV.fail hv hp (HRr.out.nw hdr.nw) (hKr.nw' hdr.nw)
        · have HQ := Lib.hid (RBits_ok wr g b bytes p (wd K) hR (by omega) (by rw [rest_length] at hf; have := hR.within; omega))
          have hx7 := bvw _ _ hw7 hf
          by_cases hbad : K ≤ bv ((rest bytes p).take (wd K))
          · rw [gidx_bad _ _ _ _ hf hbad, rest_drop] at hgi
            generalize bv ((rest bytes p).take (wd K)) = x at *
            have HGI := Lib.hid hgi
            clear hgi hR hf hO hOd hOD
            go_wp2_with (first
              | (go_at_call 76; refine (Width_any _ _ (by omega) (by omega)).mono ?_; rintro e w3 ⟨rfl, hw3⟩; simp only [Int.toNat_natCast]; subst hw3)
              | (go_at_call 54; refine HQ.out.mono ?_; rintro e w2 ⟨rfl, hR2, hK2⟩))
            go_ret2
            have hv := HV.out
            rw [HGI.out, if_pos (by simp)] at hv
            exact GotV.fail hv (by omega) hR2 (hKr.trans hK2 (.inl rfl) (.inl rfl))
          · rw [gidx_more _ _ _ _ hf hbad, rest_drop] at hgi
            generalize bv ((rest bytes p).take (wd K)) = x at *
            have HGI := Lib.hid hgi
            have HO := Lib.hid hO
            have HOd := Lib.hid hOd
            have hown0 := Lib.hid hown
            have HKEY := Lib.hid (show keyOf Tryz.prog 25 (.int .u64 (x : Int)) = some (ky x) from keyOf_int_mk Tryz.underlying25 (wfU _ (by omega)))
            have HCD := Lib.hid (cN_getD D x (by rw [HKD.out]; omega))
            generalize hy : D.getD x 0 = y at *
            have HY := Lib.hid hy
            clear hgi hR hf hO hOd hOD hown hy
            go_wp2_with (first
              | (go_at_call 76; refine (Width_any _ _ (by omega) (by omega)).mono ?_; rintro e w3 ⟨rfl, hw3⟩; simp only [Int.toNat_natCast]; subst hw3)
              | (go_at_call 54; refine HQ.out.mono ?_; rintro e w2 ⟨rfl, hR2, hK2⟩; have hown2 := hown0.out.kept hK2.gb (by intro e; injection e; omega); have hO2 := HO.out.kp hK2 (by omega) (by omega); have hOd2 := HOd.out.kp hK2 (by omega) (by omega); have HOO := Lib.hid (And.intro hown2 (And.intro hO2 hOd2)); clear hown2 hO2 hOd2)
              | (at_mapUpdate; refine wpList_mapUpdate_own _ rfl _ _ _ 140 rfl 25 4 lawU Tryz.underlying140 (plainElem (H := Unit) Tryz.prog 4) w1.heap.size k _ rfl HOO.out.1 (by unfold maxLen; omega) _ _ _ rfl rfl HKEY.out _ [] (plainElem_bool Tryz.underlying4 true) ?_; intro w3 hown3 hgrow3; have hK3 : Kp w1.heap.size w1.heap.size w2 w3 := (Kp.refl _ _ w2).grown hgrow3 (fun j hj => by cases hj; exact .inl rfl); have hO3 := HOO.out.2.1.kp hK3 (by omega) (by omega); have hOd3 := HOO.out.2.2.kp hK3 (by omega) (by omega); obtain ⟨_, _, hcell, _⟩ := hOd3.at_ (j := x) (by omega); rw [HCD.out] at hcell; have HO3 := Lib.hid (And.intro hO3 hown3); clear hO3 hown3 hOd3 hgrow3)
              | (at_builtin; refine wpList_app1 E_u64 rfl (.tmp 53) (.tmp 58) rfl rfl HO3.out.1 rfl rfl (by omega) (by omega) ?_; intro b4 A4 c4 w4 h1 h2 h3 h4))
            go_roundw
            case rel =>
              have hs2 := hK2.size
              have hs3 := hK3.size
              have hml := hown0.out.lt
              refine ⟨k + 1, by omega, by go_num, is ++ [x], b4, A4, c4, p + wd K, by simp [HIL.out], ?_, rfl, ?_, by omega, ?_, by omega, (hR2.kp hK3 (by omega) (by omega) (by omega) (by omega)).kp h3 (by omega) (by omega) (by omega) (by omega), (HOO.out.2.2.kp hK3 (by omega) (by omega)).kp h3 (by omega) (by omega), ?_, ((hKr.trans hK2 (.inl rfl) (.inl rfl)).trans hK3 (by omega) (by omega)).trans h3 (by omega) (by omega)⟩
              · intro z hz
                rw [List.mem_append] at hz
                rcases hz with hz | hz
                · exact HI.out z hz
                · simp at hz; omega
              · rw [List.map_append, List.map_cons, List.map_nil, HY.out]
                simpa using h1
              · unfold sD
                rw [List.map_append, List.map_cons, List.map_nil, setOf_snoc]
                exact HO3.out.2.kept h3.gb (by intro e; injection e; omega)
              · rw [HGI.out]; congr 1
            case measure => simp [intOf]; omega
      · obtain rfl : k = n := by omega
        rw [Nat.sub_self] at hgi
        have hv := HV.out
        rw [hgi] at hv
        have hu := unused_iff K is HI.out
        have hv2 : V = if unused K is then ([], 8, rest bytes p) else (is.map (D.getD · 0), 0, rest bytes p) := by
          rw [hv]
          unfold gidx
          rw [if_neg (by simp)]
        rw [hu] at hv2
        generalize hsz : Maps.size (sD is) = sz at *
        have HSZ := Lib.hid hsz
        have HV2 := Lib.hid hv2
        clear hv hv2 hgi hu hsz
        by_cases hlts : sz < K
        · go_wp2_with (first
            | (at_len; refine wpList_len_own _ rfl _ 140 rfl 25 4 Tryz.underlying140 _ w1.heap.size _ _ rfl hown ?_; rw [HSZ.out])
            | go_in)
          go_ret2
          have hv := HV2.out
          rw [decide_eq_true hlts, if_pos rfl] at hv
          exact GotV.fail hv hp hR hKr
        · go_wp2_with (first
            | (at_len; refine wpList_len_own _ rfl _ 140 rfl 25 4 Tryz.underlying140 _ w1.heap.size _ _ rfl hown ?_; rw [HSZ.out])
            | go_in)
          go_ret2
          have hv := HV2.out
          rw [decide_eq_false hlts, if_neg (by simp)] at hv
          have hlen : (is.map (D.getD · 0)).length = k := by rw [List.length_map]; exact HIL.out
          rw [hv]
          exact ⟨Ak, ck, by rw [hlen]; rfl, ⟨p, hp, rfl, hR⟩, ⟨bk, by rw [hlen]; exact hO, by omega⟩, hKr⟩
  · have hE2 : ((E : Int) == 0) = false := by rw [beq_eq_false_iff_ne]; omega
    go_enter Tryz.func46, Tryz.ntmps46
    go_wp2_with (go_at_call 78; refine HC.out.mono ?_; rintro e w1 ⟨A, c, rfl, hA, hp, hO, hK⟩)
    go_ret2
    have hv := HG.out
    rw [if_pos hE] at hv
    obtain ⟨p, hp1, hp2, hp3⟩ := hp
    exact GotV.fail (by rw [hv, hp2]) hp1 hp3 hK
end Go.Proofs.YtjepaneniodbpaaGreatDoor
