/- slices.Grow and slices.Concat at samples. -/
import Derived.Test.YtjepaneniodbpaaDoorChecked
import Derived.Test.YtjepaneniodbpaaDoorSplit
import Derived.Shelf.Spec.SlicesGrow
namespace Go.Proofs.YtjepaneniodbpaaDoor
open Go Go.RowKit Go.Shelf

def growS_ren : Go.Shelf.Ren := ⟨fun | 4 => 31 | n => n, fun | 22 => 29 | 25 => 39 | 3 => 3 | 4 => 4 | 9 => 9 | 20 => 20 | 0 => 0 | n => n, fun | n => n⟩
theorem growS : Go.Proofs.Lays8.n4 Tryd.prog growS_ren := {
  mixed := by kernel_rfl
  f4 := ⟨Tryd.f31.name, by decide, Tryd.func31.trans (congrArg some (by kernel_rfl))⟩
  t0 := Tryd.underlying0
  a0 := Tryd.isAgg0
  z0 := Tryd.sizeOf0
  v0 := Tryd.zeroValue0
  t3 := Tryd.underlying3
  a3 := Tryd.isAgg3
  z3 := Tryd.sizeOf3
  v3 := Tryd.zeroValue3
  t4 := Tryd.underlying4
  a4 := Tryd.isAgg4
  z4 := Tryd.sizeOf4
  v4 := Tryd.zeroValue4
  t9 := Tryd.underlying9
  a9 := Tryd.isAgg9
  z9 := Tryd.sizeOf9
  v9 := Tryd.zeroValue9
  t20 := Tryd.underlying20
  a20 := Tryd.isAgg20
  z20 := Tryd.sizeOf20
  v20 := Tryd.zeroValue20
  t22 := Tryd.underlying29
  a22 := Tryd.isAgg29
  z22 := Tryd.sizeOf29
  v22 := Tryd.zeroValue29 }

theorem GrowS_nil (w : World) (n : Nat) (hm : n ≤ 1000000) :
    Calls Tryd.prog 31 #[.slice none 0 0, .int .i64 (n : Int)] w fun e w' => ∃ b' A' c', e = .returned (.slice A' 0 c') ∧ Ow w' b' 39 2 A' 0 c' [] ∧ w.heap.size ≤ b' ∧ Nw w w' := by
  by_cases h0 : n = 0
  · subst h0
    refine (Any8.slices_Grow_room growS none 0 0 0 w (by omega) (by omega) (by omega) (by omega)).mono ?_
    rintro e w' ⟨rfl, rfl⟩
    exact ⟨w'.heap.size, none, 0, rfl, Ow.nil _ _ _ _, Nat.le_refl _, Nw.refl _⟩
  · obtain ⟨i0, hi, hz0, hz1, hz2⟩ := E_smp.info
    refine (Any8.slices_Grow_grow growS i0 (.agg #[.int .i64 0, .int .u64 0]) hi hz0 (by omega) none 0 0 n [] w (by omega) (by omega) (by rw [hz2]; omega) (by omega) (by simp) (fun _ => rfl) (by intro a h; cases h)).mono ?_
    rintro e w' ⟨rfl, rfl⟩
    refine ⟨w.heap.size, _, _, rfl, .inr ⟨rfl, by simp, rfl, .inr ⟨w.heap.size, _, _, rfl, Nat.zero_le _, heap_alloc_new _ _, by omega, ?_, ?_, by simp⟩⟩, Nat.le_refl _, (Nw.drewN' (Nw.refl w) 1).alloc' _⟩
    · exact grownCap_le_maxLen w (0 + n) 0 _ (by unfold maxLen; omega)
    · have hge := grownCap_ge w (0 + n) 0 (growS_ren.t 25)
      have e : (Value.agg #[.int .i64 0, .int .u64 0]).cells.size = 2 := rfl
      simp only [Array.size_append, size_zeroCells, e, List.size_toArray, List.length_nil]
      omega

theorem cS_cons (z : Int × Nat) (zs : List (Int × Nat)) : cS (z :: zs) = .int .i64 z.1 :: .int .u64 (z.2 : Int) :: cS zs := rfl
theorem cS_drop : ∀ (zs : List (Int × Nat)) (i : Nat), cS (zs.drop i) = (cS zs).drop (i * 2) := by
  intro zs
  induction zs with
  | nil => intro i; simp [cS]
  | cons z zs ih =>
    intro i
    cases i with
    | zero => simp
    | succ i => rw [List.drop_succ_cons, ih, cS_cons, show (i + 1) * 2 = i * 2 + 1 + 1 by omega, List.drop_succ_cons, List.drop_succ_cons]
theorem cS_take : ∀ (zs : List (Int × Nat)) (i : Nat), cS (zs.take i) = (cS zs).take (i * 2) := by
  intro zs
  induction zs with
  | nil => intro i; simp [cS]
  | cons z zs ih =>
    intro i
    cases i with
    | zero => simp [cS]
    | succ i => rw [List.take_succ_cons, cS_cons, cS_cons, ih, show (i + 1) * 2 = i * 2 + 1 + 1 by omega, List.take_succ_cons, List.take_succ_cons]
theorem cS_append (a b : List (Int × Nat)) : cS (a ++ b) = cS a ++ cS b := by simp [cS]
theorem rd_seg {w : World} {bs : Nat} {zs : List (Int × Nat)} (h : Rd w bs (some ⟨bs, 0, none⟩) (cS zs)) (i e : Nat) : Rd w bs (some ⟨bs, i * 2, none⟩) (cS ((zs.drop i).take e)) := by
  rw [cS_take, cS_drop]
  refine Rd.take ?_ _
  rcases h with h | ⟨o, e, hlt, hc⟩
  · exact .inl (by rw [h]; simp)
  · injection e with e
    injection e with _ e
    subst e
    refine .inr ⟨_, rfl, hlt, fun j u hu => ?_⟩
    rw [List.getElem?_drop] at hu
    have := hc _ _ hu
    rwa [Nat.zero_add] at this
theorem parts_get (n : Nat) : ∀ (k i : Nat), (parts n i)[k]? = if i + 120 * k < n then some (i + 120 * k, min 120 (n - (i + 120 * k))) else none := by
  intro k
  induction k with
  | zero =>
    intro i
    by_cases h : i < n
    · rw [parts_lt h, if_pos (by omega)]; rfl
    · rw [parts_ge (by omega), if_neg (by omega)]; rfl
  | succ k ih =>
    intro i
    by_cases h : i < n
    · rw [parts_lt h, List.getElem?_cons_succ, ih]
      rw [show i + 120 + 120 * k = i + 120 * (k + 1) by omega]
    · rw [parts_ge (by omega), if_neg (by omega)]; rfl

/-- the samples before the k-th part -/
def upTo (n k : Nat) : Nat := min n (120 * k)
theorem upTo_next {n k : Nat} (h : 120 * k < n) : upTo n k = 120 * k ∧ upTo n (k + 1) = 120 * k + min 120 (n - 120 * k) := by unfold upTo; omega
theorem upTo_all {n m : Nat} (h : m = (n + 119) / 120) : upTo n m = n := by unfold upTo; omega

set_option maxRecDepth 100000 in
set_option maxHeartbeats 2000000 in
theorem ConcatS_any (w : World) (bp bs : Nat) (Ap A2 : Option Addr) (n cp m : Nat) (zs : List (Int × Nat)) (hm : m = (parts n 0).length) (hn : n = zs.length) (hn1 : n ≤ 1000000) (hP : Rd w bp Ap ((parts n 0).map (partV bs))) (hS : Rd w bs A2 (cS zs)) (hA : 0 < n → A2 = some ⟨bs, 0, none⟩) :
    Calls Tryd.prog 17 #[.slice Ap m cp] w fun e w' => ∃ b' A' c', e = .returned (.slice A' n c') ∧ Ow w' b' 39 2 A' n c' (cS zs) ∧ w.heap.size ≤ b' ∧ Nw w w' := by
  have hml : m = (n + 119) / 120 := by rw [hm, parts_length n n 0 (by omega)]; simp
  have HG := Lib.hid (GrowS_nil w n hn1)
  have HP := Lib.hid hP
  have HS := Lib.hid hS
  have HA := Lib.hid hA
  have HN := Lib.hid hn
  have HPart : Hid (∀ k, k < m → (((parts n 0).map (partV bs))[k]? = some (.slice (some ⟨bs, (120 * k) * 2, none⟩) (min 120 (n - 120 * k)) (min 120 (n - 120 * k)))) ∧ 120 * k < n) := by
    refine Lib.hid fun k hk => ?_
    have h1 : 120 * k < n := by omega
    rw [List.getElem?_map, parts_get, if_pos (by omega), Nat.zero_add]
    exact ⟨rfl, h1⟩
  have HML := Lib.hid hml
  have HM := Lib.hid hm
  clear hP hS hA hn hml hm
  have hmb : m ≤ 1000000 := by have := HML.out; omega
  go_enter Tryd.func17, Tryd.ntmps17
  go_wp2
  go_loopw [3, 11] (fun s i wr => ∃ k : Nat, k ≤ m ∧ i = .int .i64 k ∧ s = .int .i64 (upTo n k : Int) ∧ w = wr) (fun _ i _ => m - (intOf i).toNat)
  case atStart => exact ⟨0, by omega, rfl, by simp [upTo], rfl⟩
  case round =>
    obtain ⟨k, hk, rfl, rfl, rfl⟩ := hrel
    by_cases hlt : k < m
    · obtain ⟨hpk, h120⟩ := HPart.out k hlt
      obtain ⟨o, rfl, hob, hc⟩ := HP.out.get (k := k) (by rw [List.length_map, ← HM.out]; exact hlt)
      rw [(List.getElem_eq_iff _).2 hpk] at hc
      obtain ⟨hu1, hu2⟩ := upTo_next h120
      obtain ⟨e, he⟩ : ∃ e, min 120 (n - 120 * k) = e := ⟨_, rfl⟩
      rw [he] at hc hu2
      have he1 : e ≤ 120 := by omega
      obtain ⟨u, hu⟩ : ∃ u, upTo n k = u := ⟨_, rfl⟩
      rw [hu] at hu1
      rw [hu]
      have hub : u ≤ 1000000 := by omega
      have HU2 : Hid (upTo n (k + 1) = u + e) := Lib.hid (by omega)
      clear hu hu1 hu2 he hpk h120
      go_wp2
      go_roundw
      case rel => exact ⟨k + 1, by omega, by go_num, by rw [HU2.out]; simp, by first | rfl | trivial⟩
      case measure => simp [intOf]; omega
    · obtain rfl : k = m := by omega
      rw [upTo_all HML.out]
      go_wp2_with (go_at_call 31; refine HG.out.mono ?_; rintro e w1 ⟨bg, Ag, cg, rfl, hO, hbg, hN⟩)
      have HO := Lib.hid hO
      clear hO
      go_loopw [6, 27] (fun s i wr => ∃ (j b' : Nat) (A' : Option Addr) (c' : Nat), j ≤ k ∧ i = .int .i64 j ∧ s = .slice A' (upTo n j) c' ∧ Ow wr b' 39 2 A' (upTo n j) c' (cS (zs.take (upTo n j))) ∧ w.heap.size ≤ b' ∧ Nw w wr) (fun _ i _ => k - (intOf i).toNat)
      case atStart =>
        have e0 : upTo n 0 = 0 := by simp [upTo]
        exact ⟨0, bg, Ag, cg, by omega, rfl, by rw [e0], by rw [e0]; exact HO.out, hbg, hN⟩
      case round =>
        obtain ⟨j, b', A', c', hj, rfl, rfl, hO', hb', hN'⟩ := hrel
        by_cases hlt : j < k
        · obtain ⟨hpk, h120⟩ := HPart.out j hlt
          obtain ⟨o, rfl, hob, hc⟩ := (HP.out.nw hN').get (k := j) (by rw [List.length_map, ← HM.out]; exact hlt)
          rw [(List.getElem_eq_iff _).2 hpk] at hc
          obtain ⟨hu1, hu2⟩ := upTo_next h120
          have hseg := HS.out.nw hN'
          rw [HA.out (by omega)] at hseg
          have hseg := rd_seg hseg (120 * j) (min 120 (n - 120 * j))
          have hsl : (cS ((zs.drop (120 * j)).take (min 120 (n - 120 * j)))).length = min 120 (n - 120 * j) * 2 := by
            rw [cS_length, List.length_take, List.length_drop, ← HN.out]; omega
          have htk : zs.take (upTo n (j + 1)) = zs.take (upTo n j) ++ (zs.drop (120 * j)).take (min 120 (n - 120 * j)) := by
            rw [hu1, hu2, List.take_add]
          obtain ⟨e, he⟩ : ∃ e, min 120 (n - 120 * j) = e := ⟨_, rfl⟩
          rw [he] at hc hu2 hseg hsl htk
          have he1 : e ≤ 120 := by omega
          obtain ⟨u, hu⟩ : ∃ u, upTo n j = u := ⟨_, rfl⟩
          rw [hu] at hu1 hO' htk
          rw [hu]
          have hub : u ≤ 1000000 := by omega
          have HU2 : Hid (upTo n (j + 1) = u + e) := Lib.hid (by omega)
          have HO' := Lib.hid hO'
          have HSeg := Lib.hid hseg
          have HSL := Lib.hid hsl
          have HTK := Lib.hid htk
          clear hu hu1 hu2 he hpk h120 hO' hseg hsl htk
          go_wp2_with (at_builtin; refine wpList_app E_smp rfl (.tmp 31) (.tmp 32) rfl rfl HO'.out rfl HSeg.out HSL.out (by intro h; cases h) (oc_S _) (by simp only [maxLen]; omega) (by omega) ?_; intro b3 A3 c3 w3 h7 h8 h9 h10)
          have hs' := hN'.size
          go_roundw
          case rel =>
            rw [← cS_append, ← HTK.out] at h7
            refine ⟨j + 1, b3, A3, c3, by omega, by go_num, by rw [HU2.out], by rw [HU2.out] at h7 ⊢; exact h7, by omega, Kp.nw hN' h9 hb' hb'⟩
          case measure => simp [intOf]; omega
        · obtain rfl : j = k := by omega
          rw [upTo_all HML.out] at hO'
          rw [upTo_all HML.out]
          rw [List.take_of_length_le (by rw [← HN.out]; omega)] at hO'
          have HO' := Lib.hid hO'
          clear hO'
          go_wp2
          go_ret
          exact ⟨b', A', c', rfl, HO'.out, hb', hN'⟩
end Go.Proofs.YtjepaneniodbpaaDoor
