/- dictval.Dictionary: the distinct values, ascending. -/
import Derived.Test.YtjepaneniodbpaaGreatDoorChecked
import Derived.Test.YtjepaneniodbpaaGreatDoorSortAll
import Derived.Test.YtjepaneniodbpaaGreatDoorDict
import Derived.Maps.RangeWalk
import Derived.Maps.OwnSet
import Derived.OpenShut
namespace Go.Proofs.YtjepaneniodbpaaGreatDoor
open Go Go.RowKit Go.Maps

theorem lawU : Keyed Tryz.prog 25 := int_keyed Tryz.underlying25
theorem wfU (x : Nat) (h : x < 18446744073709551616) : (Lit.int .u64 (x : Int)).wf = true := WalkArith.wf_u64 (by omega)
theorem wfU_inv {x : Int} (h : (Lit.int .u64 x).wf = true) : ∃ y : Nat, x = (y : Int) ∧ y < 18446744073709551616 := by
  have h2 := bounds_u64 h
  exact ⟨x.toNat, by omega, by omega⟩
theorem Kp.gb {g : Nat} {w w' : World} (h : Kp g g w w') : w.grownBy w' (some g) := ⟨h.os, h.tape, h.output, h.size, fun i hi hne => h.block i hi (by rintro rfl; exact hne rfl) (by rintro rfl; exact hne rfl)⟩
theorem Nw.gb {w w' : World} (h : Nw w w') : w.grownBy w' none := ⟨h.os, h.tape, h.output, h.size, fun i hi _ => h.block i hi⟩

/-- a number as a key -/
abbrev ky (x : Nat) : Lit := .int .u64 (x : Int)
/-- the set of numbers, as the map reads -/
abbrev sD (xs : List Nat) : DataW Unit := setOf (.lit (.bool true)) (xs.map ky)
theorem sD_key (xs : List Nat) : ∀ x ∈ xs.map ky, WideAt.IsKeyLit x := by
  intro x hx
  obtain ⟨y, _, rfl⟩ := List.mem_map.1 hx
  trivial
theorem has_sD (xs : List Nat) (x : Nat) : has (sD xs) (ky x) = true ↔ x ∈ xs := by
  rw [has_setOf _ _ _ (sD_key xs), List.any_map, List.any_eq_true]
  constructor
  · rintro ⟨y, hy, h⟩
    simp [ky, Lit.sameKey] at h
    obtain rfl : y = x := by omega
    exact hy
  · intro h
    exact ⟨x, h, by simp [ky, Lit.sameKey]⟩
/-- the keys met so far -/
def Coll (D : DataW Unit) (left : Lit → Bool) (ks : List Nat) : Prop := ks.Nodup ∧ ∀ x, x ∈ ks ↔ (has D (ky x) = true ∧ left (ky x) = false)
theorem Coll.start (D : DataW Unit) : Coll D (has D) [] := ⟨List.nodup_nil, fun x => by cases has D (ky x) <;> simp⟩
theorem Coll.step {D : DataW Unit} {left : Lit → Bool} {ks : List Nat} (h : Coll D left ks) {x : Nat} {y : DataW Unit} (hlk : left (ky x) = true) (hat : ∀ zd, D.atKey (ky x) zd = y) : Coll D (fun z => left z && !z.sameKey (ky x)) (ks ++ [x]) := by
  have hhas : has D (ky x) = true := has_true_of_atKey hat
  have hnew : x ∉ ks := fun hx => by have := ((h.2 x).1 hx).2; rw [hlk] at this; cases this
  refine ⟨List.nodup_append.2 ⟨h.1, by simp, fun a ha b hb => by simp at hb; subst hb; exact fun e => hnew (e ▸ ha)⟩, fun y => ?_⟩
  by_cases hy : y = x
  · subst hy; simp [hhas, Lit.sameKey]
  · have hyi : ¬ (y : Int) = (x : Int) := by omega
    simp [h.2 y, hy, hyi, Lit.sameKey]
theorem Coll.fin {xs : List Nat} {left : Lit → Bool} {ks l : List Nat} (h : Coll (sD xs) left ks) (hl : ∀ kl, left kl = false) (hp : l.Perm ks) (hs : l.Pairwise (· ≤ ·)) : l = dict xs := by
  refine dict_eq xs l ?_ fun x => ?_
  · have hn : l.Nodup := hp.nodup_iff.2 h.1
    exact (List.Pairwise.and hs hn).imp (fun h => by omega)
  · rw [hp.mem_iff, h.2 x, has_sD, hl]
    simp

theorem Dictionary_any (w : World) (b : Nat) (A : Option Addr) (n c : Nat) (xs : List Nat) (hn : n = xs.length) (hm : n * 8 ≤ 140737488355328) (hr : Rd w b A (cN .u64 xs)) (hx : ∀ x ∈ xs, x < 18446744073709551616) :
    Calls Tryz.prog 75 #[.slice A n c] w fun e w' => ∃ b' c', e = .returned (.slice (some ⟨b', 0, none⟩) (dict xs).length c') ∧ Ow w' b' 25 1 (some ⟨b', 0, none⟩) (dict xs).length c' (cN .u64 (dict xs)) ∧ w.heap.size ≤ b' ∧ Nw w w' := by
  subst hn
  have HX := Lib.hid hx
  clear hx
  have hmm := @run_makeMap Tryz.prog
  obtain ⟨i0, hi, hz0, hz1, hz2⟩ := E_u64.info
  go_enter Tryz.func75, Tryz.ntmps75
  go_wp2
  go_loopw [11] (fun i wr => ∃ k : Nat, k ≤ xs.length ∧ i = .int .i64 k ∧ wr.ownsMap Tryz.prog 25 (plainElem Tryz.prog 4) w.heap.size k (sD (xs.take k)) ∧ Nw w wr) (fun i _ => xs.length - (intOf i).toNat)
  case atStart => exact ⟨0, by omega, rfl, World.ownsMap_made _ _ _ _, Nw.alloc' (Nw.refl w) _⟩
  case round =>
    obtain ⟨k, hk, rfl, hown, hN⟩ := hrel
    by_cases hlt : k < xs.length
    · obtain ⟨o, rfl, _, hc⟩ := (hr.nw hN).get (k := k) (by simpa using hlt)
      rw [List.getElem_map] at hc
      have hx : xs[k] < 18446744073709551616 := HX.out _ (List.getElem_mem _)
      have hkey : keyOf Tryz.prog 25 (.int .u64 ((xs[k] : Nat) : Int)) = some (ky xs[k]) := keyOf_int_mk Tryz.underlying25 (wfU _ hx)
      have HK := Lib.hid hkey
      clear hkey
      go_wp2_with (first
        | (at_mapUpdate; refine wpList_mapUpdate_own _ rfl _ _ _ 140 rfl 25 4 lawU Tryz.underlying140 (plainElem (H := Unit) Tryz.prog 4) w.heap.size k _ rfl hown (by unfold maxLen; omega) _ _ _ rfl rfl HK.out _ [] (plainElem_bool Tryz.underlying4 true) ?_; intro w1 hown1 hgrow1)
        | go_in)
      go_roundw
      case rel =>
        refine ⟨k + 1, by omega, by go_num, ?_, hN.grown' hgrow1 (fun j hj => by cases hj; exact Nat.le_refl _)⟩
        rw [List.take_succ_eq_append_getElem hlt]
        unfold sD
        rw [List.map_append, List.map_cons, List.map_nil, setOf_snoc]
        exact hown1
      case measure => simp [intOf]; omega
    · obtain rfl : k = xs.length := by omega
      rw [List.take_length] at hown
      have hsz : Maps.size (sD xs) ≤ xs.length := hown.size_le
      generalize hSZ : Maps.size (sD xs) = sz at *
      have HSZ := Lib.hid hSZ
      clear hSZ
      go_wp2_with (first
        | (at_len; refine wpList_len_own _ rfl _ 140 rfl 25 4 Tryz.underlying140 _ w.heap.size _ _ rfl hown ?_)
        | (at_make; refine wpList_make_own _ rfl _ _ 44 rfl 0 25 i0 (.int .u64 0) 1 Tryz.underlying44 hi hz0 hz1 _ _ _ sz rfl rfl (by rw [HSZ.out]) (by rw [hz2]; omega) (by unfold maxLen; omega) (Nat.zero_le _) ?_; intro w1 hrow1 hg1)
        | (at_range; refine wpList_range_own _ rfl _ 140 rfl 25 4 lawU Tryz.underlying140 _ w.heap.size _ _ rfl (hown.kept hg1 (by simp)) ?_; intro w0 hrg0 hg0 hs0)
        | go_in)
      go_frame
      have hb0 := hrow1.2
      rcases hb0 with ⟨hv, _⟩ | ⟨g, cap, cur, hv, _, hh, _⟩
      · cases hv
      injection hv with hv1 hv2 hv3
      injection hv1 with hv1
      injection hv1 with hv1 hv4 hv5
      clear hv2 hv3 hv4 hv5
      have hwl := hown.lt
      have hO1 : Ow w1 wr.heap.size 25 1 (some ⟨wr.heap.size, 0, none⟩) 0 sz (cN .u64 []) := .inr ⟨rfl, by rw [hv1]; exact lt_of_block hh, hrow1⟩
      have hN1 : Nw w w1 := hN.grown' hg1 (fun j hj => by cases hj)
      have hN0 : Nw w w0 := hN1.grown' hg0 (fun j hj => by cases hj)
      have hO0 : Ow w0 wr.heap.size 25 1 (some ⟨wr.heap.size, 0, none⟩) 0 sz (cN .u64 []) := hO1.nw (by have := (Nw.refl w1).grown' hg0 (fun j hj => by cases hj); exact this)
      have hlt1 : wr.heap.size < w1.heap.size := by rw [hv1]; exact lt_of_block hh
      clear hh hrow1 hv1
      go_loopw [6] (fun v wq => ∃ (left : Lit → Bool) (cnt : Nat) (ks : List Nat), wq.ranges Tryz.prog 25 (plainElem Tryz.prog 4) w.heap.size w1.heap.size xs.length (sD xs) left cnt ∧ ks.length + cnt ≤ sz ∧
          Coll (sD xs) left ks ∧ Nw w wq ∧ ∃ bk ck, v = .slice (some ⟨bk, 0, none⟩) ks.length ck ∧ Ow wq bk 25 1 (some ⟨bk, 0, none⟩) ks.length ck (cN .u64 ks) ∧ w.heap.size < bk ∧ bk ≠ w1.heap.size)
        (fun _ wq => wq.rangeLeft w.heap.size w1.heap.size)
      case atStart => exact ⟨_, _, [], hrg0, by rw [HSZ.out]; simp, Coll.start _, hN0, _, _, rfl, hO0, by omega, by omega⟩
      case round =>
        obtain ⟨left, cnt, ks, hrg, hcs, hC, hNq, bk, ck, rfl, hO, hbk, hbk2⟩ := hrel
        go_wp2_with (first
          | (at_next; refine wpList_next_ranges _ rfl _ rfl 25 lawU (plainElem Tryz.prog 4) (Value.int .u64) (fun v : Value => v) (fun key kl hk => by obtain ⟨x, hx, _⟩ := Maps.keyOf_int_inv Tryz.underlying25 hk; exact ⟨x, hx⟩) (fun v y hv => ⟨v, rfl⟩) w.heap.size w1.heap.size _ _ _ _ rfl hrg ?_ ?_)
          | go_in)
        · intro hc0 hl0
          have HS := Lib.hid (Sort_any wr bk ks.length ck ks rfl hO (by omega))
          clear hO
          go_wp2_with (go_at_call 94; refine HS.out.mono ?_; rintro e w2 ⟨rfl, l', hp, hs, hO2, hK2⟩)
          go_ret
          have hd := hC.fin hl0 hp hs
          subst hd
          have hlen := hp.length_eq
          exact ⟨bk, ck, by rw [hlen]; rfl, by rw [hlen]; exact hO2, by omega, Kp.nw hNq hK2 (by omega) (by omega)⟩
        · intro x c kl yd yp w2 cnt2 hkey hlk hv hat hrg2 hlt2 hg2 hs2 hen
          obtain ⟨x', ex, rfl, hw⟩ := Maps.keyOf_int_inv Tryz.underlying25 hkey
          cases ex
          obtain ⟨y, rfl, hy⟩ := wfU_inv hw
          have hN2 : Nw w w2 := hNq.grown' hg2 (fun j hj => by cases hj; exact hN1.size)
          have hO2 : Ow w2 bk 25 1 (some ⟨bk, 0, none⟩) ks.length ck (cN .u64 ks) := hO.kp ((Kp.refl w1.heap.size w1.heap.size wr).grown hg2 (fun k hk => by cases hk; exact .inl rfl)) hbk2 hbk2
          have hC2 := Lib.hid (hC.step hlk hat)
          have hrgl := hrg2.lt
          have HRG := Lib.hid hrg2
          have HL := Lib.hid hrg.left_eq
          clear hs2 hkey hv hat hlk hrg hrg2 hC hg2
          go_wp2_with (first
            | (at_builtin; refine wpList_app1 E_u64 rfl (.tmp 27) (.tmp 29) rfl rfl hO2 rfl rfl (by omega) (by omega) ?_; intro b1 A1 c1 w3 h1 h2 h3 h4)
            | go_in)
          go_roundw
          case rel =>
            have h3' := h3.gb
            have hrg3 := HRG.out.kept h3' (by intro e; injection e; omega) (by intro e; injection e; omega)
            have hb1 : b1 = bk ∨ w2.heap.size ≤ b1 := h2
            have hN3 : Nw w w3 := Kp.nw hN2 h3 (by omega) (by omega)
            have h2s := hN2.size
            have hbn : A1 = some ⟨b1, 0, none⟩ := by
              rcases h1 with ⟨_, h, _⟩ | ⟨h, _⟩
              · omega
              · exact h
            subst hbn
            have hbl := HRG.out.owns.lt
            exact ⟨_, cnt2, ks ++ [y], hrg3, by simp; omega, hC2.out, hN3, b1, c1, by simp, by simpa using h1, by omega, by omega⟩
          case measure =>
            have h3' := h3.gb
            have hrg3 := HRG.out.kept h3' (by intro e; injection e; omega) (by intro e; injection e; omega)
            rw [hrg3.left_eq, HL.out]; exact hlt2
end Go.Proofs.YtjepaneniodbpaaGreatDoor
