/- chunk.Encode. -/
import Derived.Test.YtjepaneniodbpaaGreatDoorChunk
import Derived.Test.YtjepaneniodbpaaGreatDoorTimPut
import Derived.Deep.RegionHeld3
namespace Go.Proofs.YtjepaneniodbpaaGreatDoor
open Go Go.RowKit Go.Sort

/-- the cells of samples -/
def cS (zs : List (Int × Nat)) : List Value := zs.flatMap fun z => [.int .i64 z.1, .int .u64 (z.2 : Int)]
abbrev tsOf (zs : List (Int × Nat)) : List Int := zs.map Prod.fst
abbrev vsOf (zs : List (Int × Nat)) : List Nat := zs.map Prod.snd
theorem cS_length (zs : List (Int × Nat)) : (cS zs).length = 2 * zs.length := by
  induction zs with
  | nil => rfl
  | cons z zs ih => simp only [cS, List.flatMap_cons, List.length_append] at ih ⊢; simp only [ih, List.length_cons, List.length_nil]; omega
theorem cS_at : ∀ (zs : List (Int × Nat)) (k : Nat) (h : k < zs.length), (cS zs)[k * 2]? = some (.int .i64 zs[k].1) ∧ (cS zs)[k * 2 + 1]? = some (.int .u64 (zs[k].2 : Int)) := by
  intro zs
  induction zs with
  | nil => intro k h; simp at h
  | cons z zs ih =>
    intro k h
    cases k with
    | zero => exact ⟨rfl, rfl⟩
    | succ k =>
      obtain ⟨h1, h2⟩ := ih k (by simpa using h)
      exact ⟨by rw [show (k + 1) * 2 = k * 2 + 2 by omega]; simpa [cS] using h1, by rw [show (k + 1) * 2 + 1 = k * 2 + 1 + 2 by omega]; simpa [cS] using h2⟩
def InS (zs : List (Int × Nat)) : Prop := ∀ z ∈ zs, I6 z.1 ∧ z.2 < 18446744073709551616
theorem InS.t {zs : List (Int × Nat)} (h : InS zs) : ∀ x ∈ tsOf zs, I6 x := by
  intro x hx
  obtain ⟨z, hz, rfl⟩ := List.mem_map.1 hx
  exact (h z hz).1
theorem InS.v {zs : List (Int × Nat)} (h : InS zs) : ∀ x ∈ vsOf zs, x < 18446744073709551616 := by
  intro x hx
  obtain ⟨z, hz, rfl⟩ := List.mem_map.1 hx
  exact (h z hz).2
theorem zip_back (zs : List (Int × Nat)) : (tsOf zs).zip (vsOf zs) = zs := by
  induction zs with
  | nil => rfl
  | cons z zs ih => simp only [tsOf, vsOf, List.map_cons, List.zip_cons_cons] at ih ⊢; rw [ih]

theorem make_i64 (W : World) (n : Nat) (h : n ≤ 1000) : (Instr.makeSlice 48 (.int .i64 (n : Int)) (.int .i64 (n : Int))).run Tryz.prog W = .ok (.slice (some ⟨W.heap.size, 0, none⟩) n n) (W.alloc (.cells (madeCells #[.int .i64 0] n) 2)) := by
  obtain ⟨i0, hi, hz0, hz1, hz2⟩ := E_i64.info
  have := run_make (P := Tryz.prog) (w := W) 48 2 i0 (.int .i64 0) Tryz.underlying48 hi hz0 .i64 .i64 n n (by omega) (by omega) (by rw [hz2]; omega) (by omega)
  rw [hz1] at this
  simpa [Value.cells] using this
theorem make_u64 (W : World) (n : Nat) (h : n ≤ 1000) : (Instr.makeSlice 44 (.int .i64 (n : Int)) (.int .i64 (n : Int))).run Tryz.prog W = .ok (.slice (some ⟨W.heap.size, 0, none⟩) n n) (W.alloc (.cells (madeCells #[.int .u64 0] n) 25)) := by
  obtain ⟨i0, hi, hz0, hz1, hz2⟩ := E_u64.info
  have := run_make (P := Tryz.prog) (w := W) 44 25 i0 (.int .u64 0) Tryz.underlying44 hi hz0 .i64 .i64 n n (by omega) (by omega) (by rw [hz2]; omega) (by omega)
  rw [hz1] at this
  simpa [Value.cells] using this
theorem made_i64 (n : Nat) : (madeCells #[Value.int .i64 0] n).toList = cI .i64 (List.replicate n 0) := by
  refine List.ext_getElem (by simp [madeCells]) fun j h1 h2 => ?_
  simp [madeCells, Nat.mod_one]
theorem made_u64 (n : Nat) : (madeCells #[Value.int .u64 0] n).toList = cN .u64 (List.replicate n 0) := by
  refine List.ext_getElem (by simp [madeCells]) fun j h1 h2 => ?_
  simp [madeCells, Nat.mod_one]

/-- the frame behind the two slices -/
def actE (A : Option Addr) (n c bt bv : Nat) : Act := { tmps := #[.slice A n c, undef, .slice none 0 0, .int .i64 0, .int .i64 (n : Int), .slice (some ⟨bt, 0, none⟩) n n, .slice (some ⟨bv, 0, none⟩) n n, undef, undef, undef, undef, .slice A n c, .int .i64 (n : Int), .bool false, .int .i64 (n : Int), .bool false, .bool (decide ((120 : Int) < (n : Int))), .int .i64 (n : Int), .bool (decide ((120 : Int) < (n : Int))), .slice A n c, .int .i64 (n : Int), .slice (some ⟨bt, 0, none⟩) n n, .slice A n c, .int .i64 (n : Int), .slice (some ⟨bv, 0, none⟩) n n, undef, undef, undef, undef, undef, undef, undef, undef, undef, undef, undef, undef, undef, undef, undef, undef, undef, undef, undef, undef, undef, undef, undef, undef, undef, undef, undef, undef, undef, undef, undef, undef, undef, undef, undef, undef, undef, undef, undef, undef, undef, undef, undef, undef], defers := [] }

theorem ow_made2 (w : World) (cs cs' : Array Value) (e e' : TypeId) (n : Nat) (h : cs.size = n) (h' : cs'.size = n) (hn : n ≤ 9223372036854775807) :
    Ow ((w.alloc (.cells cs e)).alloc (.cells cs' e')).drew w.heap.size e 1 (some ⟨w.heap.size, 0, none⟩) n n cs.toList ∧
    Ow ((w.alloc (.cells cs e)).alloc (.cells cs' e')).drew (w.heap.size + 1) e' 1 (some ⟨w.heap.size + 1, 0, none⟩) n n cs'.toList ∧ Nw w ((w.alloc (.cells cs e)).alloc (.cells cs' e')).drew ∧
    w.heap.size + 1 < ((w.alloc (.cells cs e)).alloc (.cells cs' e')).drew.heap.size := by
  have h1 := Ow.lit w e 1 n cs (by omega) hn
  have h2 := Ow.lit (w.alloc (.cells cs e)) e' 1 n cs' (by omega) hn
  have e1 : (w.alloc (.cells cs e)).heap.size = w.heap.size + 1 := by simp
  rw [e1] at h2
  exact ⟨(h1.nw ((Nw.refl _).alloc' _)).nw (Nw.drewO _), h2.nw (Nw.drewO _), (((Nw.refl w).alloc' _).alloc' _).drewP, by simp⟩

theorem fill_next {α : Type} (ts : List α) (k n : Nat) (z : α) (hk : k < n) (h : k < ts.length) : (ts.take k ++ List.replicate (n - k) z).set k ts[k] = ts.take (k + 1) ++ List.replicate (n - (k + 1)) z := by
  have hl : (ts.take k).length = k := by rw [List.length_take]; omega
  rw [List.set_append_right _ _ (by omega), hl, Nat.sub_self, show n - k = (n - (k + 1)) + 1 by omega, List.replicate_succ, List.set_cons_zero, List.take_succ_eq_append_getElem h, List.append_assoc]
  rfl
theorem cI_set (k : IntKind) (xs : List Int) (i : Nat) (x : Int) : (cI k xs).set i (.int k x) = cI k (xs.set i x) := (List.map_set ..).symm
theorem cN_set (k : IntKind) (xs : List Nat) (i : Nat) (x : Nat) : (cN k xs).set i (.int k (x : Int)) = cN k (xs.set i x) := (List.map_set ..).symm

theorem putBits_small (l : List Nat) (h : l.length ≤ 120) (hd : (dict l).length ≤ 128) : (putBits l).length ≤ 20000 := by
  by_cases hl : l = []
  · subst hl; simp [putBits]
  · rw [putBits_length l hl]
    have h7 := wd_le _ hd
    have : wd (dict l).length * l.length ≤ 7 * 120 := Nat.mul_le_mul h7 (by omega)
    omega
theorem vput_small (l : List Nat) (h : l.length ≤ 120) (hx : ∀ x ∈ l, x < 18446744073709551616) : (vput (tagOf l) l).length ≤ 20000 := by
  have h1 := tagOf_in l
  unfold vput
  split
  · have := xput_length_le l hx; omega
  · split
    · have := rput_length l; have := runs_length_le l; omega
    · exact putBits_small l h (tagOf_dict l (by omega))
theorem cbits_small (ts : List Int) (vs : List Nat) (h : ts.length ≤ 120) (h' : vs.length ≤ 120) (hx : ∀ x ∈ vs, x < 18446744073709551616) : (cbits ts vs).length ≤ 1099511627776 := by
  have h1 := tput_length_le ts
  have h2 := vput_small vs h' hx
  unfold cbits
  simp only [List.length_append, bitsOf_length]
  omega
/-- the function that puts values -/
def putF (t : Nat) : FuncId := if t = 1 then 39 else if t = 2 then 42 else 45
theorem vPut_any (t : Nat) (ht : 1 ≤ t ∧ t ≤ 3) (w : World) (gw b0 bl : Nat) (A : Option Addr) (n c : Nat) (bs : List Bool) (l : List Nat) (hW : Wtr w gw b0 bs) (hne : bs ≠ []) (hbs : bs.length ≤ 1000000000) (hn : n = l.length) (hm : n ≤ 10000) (hr : Rd w bl A (cN .u64 l)) (hbl : bl < w.heap.size)
    (hx : ∀ x ∈ l, x < 18446744073709551616) (hG : Gl w) (hd : t = 3 → (dict l).length ≤ 128) (h1 : bl ≠ gw) (h2 : bl ≠ b0) (e1 : 2 ≤ gw) (e2 : 2 ≤ b0) :
    Calls Tryz.prog (putF t) #[.pointer (some ⟨gw, 0, none⟩), .slice A n c] w fun e w' => e = .returned (.int .i64 0) ∧ ∃ b', Wtr w' gw b' (bs ++ vput t l) ∧ (b' = b0 ∨ w.heap.size ≤ b') ∧ Kp gw b0 w w' := by
  have : t = 1 ∨ t = 2 ∨ t = 3 := by omega
  rcases this with rfl | rfl | rfl
  · exact xPut_any w gw b0 bl A n c bs l hW hbs hn hm hr hbl hx hG h1 h2 e1 e2
  · exact rPut_any w gw b0 bl A n c bs l hW hne hbs hn hm hr hbl hx h1 h2
  · exact Put_all w gw b0 bl A n c bs l hn (by omega) hr hx hW h1 h2 hbs (fun _ => hbl) (hd rfl)
theorem Rd.cons_any {w : World} {b : Nat} {A : Option Addr} {xs : List Value} (h : Rd w b A xs) (hn : xs ≠ []) : b < w.heap.size := by
  obtain ⟨_, _, h, _⟩ := h.get (k := 0) (List.length_pos_iff.2 hn)
  exact h

theorem Ow.cell1 {w : World} {b : Nat} {e : TypeId} {n c k : Nat} {p : Addr} {xs : List Value} (h : Ow w b e 1 (some p) n c xs) (hk : k < n) : ∃ u, w.cell? ⟨b, k, none⟩ = some u ∧ w.frozen? ⟨b, k, none⟩ = false := by
  obtain ⟨_, _, h1, h2⟩ := h.at_ (j := k) (by omega)
  rw [List.getElem?_eq_getElem (by have := h.len; omega)] at h1
  exact ⟨_, h1, h2⟩

set_option maxRecDepth 100000 in
set_option maxHeartbeats 4000000 in
theorem Encode_ok (w : World) (b : Nat) (A : Option Addr) (n c : Nat) (zs : List (Int × Nat)) (hn : n = zs.length) (h1 : 1 ≤ n) (h120 : n ≤ 120) (hr : Rd w b A (cS zs)) (hx : InS zs) (hG : Gl w) :
    Calls Tryz.prog 7 #[.slice A n c] w fun e w' => ∃ b' A' c', e = .returned (.tuple #[.slice A' (pk (cbits (tsOf zs) (vsOf zs))).length c', .int .i64 0]) ∧
      Ow w' b' 5 1 A' (pk (cbits (tsOf zs) (vsOf zs))).length c' (cN .u8 (pk (cbits (tsOf zs) (vsOf zs)))) ∧ w.heap.size ≤ b' ∧ Nw w w' := by
  have mkI := fun W => make_i64 W n (by omega)
  have mkU := fun W => make_u64 W n (by omega)
  have n0 : ((n : Int) == 0) = false := by rw [beq_eq_false_iff_ne]; omega
  have HR := Lib.hid hr
  have HX := Lib.hid hx
  have HG := Lib.hid hG
  have HN := Lib.hid hn
  clear hr hx hG hn
  go_enter Tryz.func7, Tryz.ntmps7
  go_wp2_with fail
  refine Code.wp_mono (Q := fun e a W => e = .normal ∧ ∃ bt bv, a = actE A n c bt bv ∧ w.heap.size ≤ bt ∧ w.heap.size ≤ bv ∧ bt ≠ bv ∧ bt < W.heap.size ∧ bv < W.heap.size ∧ Ow W bt 2 1 (some ⟨bt, 0, none⟩) n n (cI .i64 (List.replicate n 0)) ∧
      Ow W bv 25 1 (some ⟨bv, 0, none⟩) n n (cN .u64 (List.replicate n 0)) ∧ Nw w W) ?_ ?_
  · rintro e a W1 ⟨rfl, bt, bv, rfl, hbt, hbv, hne, hlt, hlv, hOt, hOv, hN1⟩
    unfold actE
    clear mkI mkU
    go_wp2_with fail
    go_loopw [27] (fun i wr => ∃ k : Nat, k ≤ n ∧ i = .int .i64 k ∧ Ow wr bt 2 1 (some ⟨bt, 0, none⟩) n n (cI .i64 ((tsOf zs).take k ++ List.replicate (n - k) 0)) ∧ Ow wr bv 25 1 (some ⟨bv, 0, none⟩) n n (cN .u64 ((vsOf zs).take k ++ List.replicate (n - k) 0)) ∧ Nw w wr ∧ W1.heap.size ≤ wr.heap.size) (fun i _ => n - (intOf i).toNat)
    case atStart => exact ⟨0, by omega, rfl, hOt, hOv, hN1, Nat.le_refl _⟩
    case round =>
      obtain ⟨k, hk, rfl, hT, hV, hN, hsz⟩ := hrel
      by_cases hlk : k < n
      · have hlz : k < zs.length := by have := HN.out; omega
        obtain ⟨o, rfl, hob, hc0⟩ := (HR.out.nw hN).get (k := k * 2) (by rw [cS_length]; omega)
        obtain ⟨o', ho', _, hc1⟩ := (HR.out.nw hN).get (k := k * 2 + 1) (by rw [cS_length]; omega)
        obtain ⟨g0, g1⟩ := cS_at zs k hlz
        rw [(List.getElem_eq_iff _).2 g0] at hc0
        rw [(List.getElem_eq_iff _).2 g1] at hc1
        injection ho' with ho'; injection ho' with _ ho'; subst ho'
        rw [← Nat.add_assoc] at hc1
        obtain ⟨ut, ct, ft⟩ := hT.cell1 hlk
        obtain ⟨uv, cv, fv⟩ := hV.cell1 hlk
        have HT := Lib.hid hT
        have HV := Lib.hid hV
        clear hT hV
        have n8a : bt < wr.heap.size := by omega
        have n8b : bv < wr.heap.size := by omega
        have n8c : ¬ bt = bv := hne
        have n8d : ¬ bv = bt := fun h => hne h.symm
        go_wp2_with fail
        go_region
        all_goals
          go_wp2_with fail
          go_roundw
          case rel =>
            refine ⟨k + 1, by omega, by go_num, ?_, ?_, (((hN.setCell' hbt _).setCell' hbv _).alloc' _).drewP, by simp [World.setCell]; omega⟩
            · have h := HT.out.set_ k (.int .i64 zs[k].1)
              have hf := fill_next (tsOf zs) k n 0 hlk (by simpa using hlz)
              rw [List.getElem_map] at hf
              rw [cI_set, hf] at h
              exact ((h.kp ((Kp.refl bv bv _).setCell' (.inl rfl) _) hne hne).nw ((Nw.refl _).alloc' _)).nw (Nw.drewO _)
            · have h := (HV.out.kp ((Kp.refl bt bt _).setCell' (p := ⟨bt, k, none⟩) (.inl rfl) (.int .i64 zs[k].1)) (Ne.symm hne) (Ne.symm hne)).set_ k (.int .u64 (zs[k].2 : Int))
              have hf := fill_next (vsOf zs) k n 0 hlk (by simpa using hlz)
              rw [List.getElem_map] at hf
              rw [cN_set, hf] at h
              exact (h.nw ((Nw.refl _).alloc' _)).nw (Nw.drewO _)
          case measure => simp [intOf]; omega
      · obtain rfl : k = n := by omega
        rw [Nat.sub_self, List.replicate_zero, List.append_nil, List.take_of_length_le (by simp [← HN.out])] at hT hV
        have hvl : (vsOf zs).length = k := by simp [← HN.out]
        have htl : (tsOf zs).length = k := by simp [← HN.out]
        have HT := Lib.hid hT
        have HV := Lib.hid hV
        have HVL := Lib.hid hvl
        have HTL := Lib.hid htl
        have HCh := Lib.hid (Choose_any wr bv _ k k (vsOf zs) hvl.symm (by omega) hV.rd (by omega) HX.out.v (HG.out.nw hN))
        have htag := tagOf_in (vsOf zs)
        obtain ⟨t, ht⟩ : ∃ t, tagOf (vsOf zs) = t := ⟨_, rfl⟩
        rw [ht] at htag HCh
        have HTag := Lib.hid ht
        clear hT hV hvl htl ht
        have hG2 := HG.out.lt
        have hNs := hN.size
        go_wp2_with fail
        refine HCh.out.mono ?_
        rintro e w3 ⟨rfl, hN3⟩
        have hs3 := hN3.size
        clear HCh
        have HNW := Lib.hid (NewWriter_any w3)
        have hc8 : t < 18446744073709551616 := by omega
        have ek : ((k : Int) - 1) = ((k - 1 : Nat) : Int) := by omega
        have EK := Lib.hid ek
        clear ek
        have i0 : ∀ W, (Instr.index 57 (.agg encFs) (.int .i64 0)).run Tryz.prog W = .ok (.agg #[.func (.func 38) #[] #[], .func (.func 39) #[] #[], .func (.func 40) #[] #[]]) W := fun _ => by kernel_rfl
        have i1 : ∀ W, (Instr.index 57 (.agg encFs) (.int .i64 1)).run Tryz.prog W = .ok (.agg #[.func (.func 41) #[] #[], .func (.func 42) #[] #[], .func (.func 43) #[] #[]]) W := fun _ => by kernel_rfl
        have i2 : ∀ W, (Instr.index 57 (.agg encFs) (.int .i64 2)).run Tryz.prog W = .ok (.agg #[.func (.func 44) #[] #[], .func (.func 45) #[] #[], .func (.func 46) #[] #[]]) W := fun _ => by kernel_rfl
        have fl0 : ∀ W, (Instr.field 56 (.agg #[.func (.func 38) #[] #[], .func (.func 39) #[] #[], .func (.func 40) #[] #[]]) 1).run Tryz.prog W = .ok (.func (.func 39) #[] #[]) W := fun _ => by kernel_rfl
        have fl1 : ∀ W, (Instr.field 56 (.agg #[.func (.func 41) #[] #[], .func (.func 42) #[] #[], .func (.func 43) #[] #[]]) 1).run Tryz.prog W = .ok (.func (.func 42) #[] #[]) W := fun _ => by kernel_rfl
        have fl2 : ∀ W, (Instr.field 56 (.agg #[.func (.func 44) #[] #[], .func (.func 45) #[] #[], .func (.func 46) #[] #[]]) 1).run Tryz.prog W = .ok (.func (.func 45) #[] #[]) W := fun _ => by kernel_rfl
        rcases (show t = 1 ∨ t = 2 ∨ t = 3 by omega) with rfl | rfl | rfl
        all_goals
          go_wp2_with fail
          refine HNW.out.mono ?_
          rintro e w4 ⟨g, rfl, hW4, hg4, hN4⟩
          have hs4 := hN4.size
          have hn4 := hN3.trans hN4
          have H5 := Lib.hid (WBits_any w4 g g [] _ 8 hW4 (by omega) hc8 (by simp))
          clear hW4
          go_wp2_with fail
          refine H5.out.mono ?_
          rintro e w5 ⟨rfl, b5, hW5, hb5, hK5⟩
          rw [List.nil_append] at hW5
          have hs5 := hK5.size
          have hn5 : Nw wr w5 := Kp.nw hn4 hK5 (by omega) (by omega)
          have H6 := Lib.hid (WBits_any w5 g b5 _ (k - 1) 8 hW5 (by omega) (by omega) (by simp [bitsOf_length]))
          clear hW5 H5 hK5
          go_wp2_with fail
          rw [EK.out]
          refine H6.out.mono ?_
          rintro e w6 ⟨rfl, b6, hW6, hb6, hK6⟩
          have hs6 := hK6.size
          have hn6 : Nw wr w6 := Kp.nw hn5 hK6 (by omega) (by omega)
          have H7 := Lib.hid (tPut_any w6 g b6 bt _ k k _ (tsOf zs) hW6 (by rw [List.length_append, bitsOf_length, bitsOf_length]; omega) HTL.out.symm (by omega) (HT.out.nw hn6).rd (by omega) HX.out.t (HG.out.nw (hN.trans hn6)) (by omega) (by omega) (by omega) (by omega))
          clear hW6 H6 hK6
          go_wp2_with fail
          refine H7.out.mono ?_
          rintro e w7 ⟨rfl, b7, hW7, hb7, hK7⟩
          have hs7 := hK7.size
          have hn7 : Nw wr w7 := Kp.nw hn6 hK7 (by omega) (by omega)
          have htl := tput_length_le (tsOf zs)
          rw [HTL.out] at htl
          have HW7 := Lib.hid hW7
          have H8 := Lib.hid (fun (W : World) (hN8 : Nw w7 W) => vPut_any _ (by omega) W g b7 bv _ k k _ (vsOf zs) (hW7.nw hN8) (by simp [bitsOf]) (by rw [List.length_append, List.length_append, bitsOf_length, bitsOf_length]; omega) HVL.out.symm (by omega) ((HV.out.nw hn7).nw hN8).rd (by have := hN8.size; omega) HX.out.v ((HG.out.nw (hN.trans hn7)).nw hN8)
            (fun h3 => tagOf_dict _ (HTag.out.trans h3)) (by omega) (by omega) (by omega) (by omega))
          clear hW7 H7 hK7
          go_wp2_with (go_at_call 20; refine (encodings_any _).mono ?_; rintro e w8 ⟨rfl, hN8⟩)
          refine (H8.out _ hN8).mono ?_
          rintro e w9 ⟨rfl, b9, hW9, hb9, hK9⟩
          have hs8 := hN8.size
          have hs9 := hK9.size
          have hn9 : Nw wr w9 := Kp.nw (hn7.trans hN8) hK9 (by omega) (by omega)
          rw [List.append_assoc, List.append_assoc, ← HVL.out] at hW9
          rw [show bitsOf _ 8 ++ (bitsOf ((vsOf zs).length - 1) 8 ++ (tput (tsOf zs) ++ vput _ (vsOf zs))) = cbits (tsOf zs) (vsOf zs) from by unfold cbits; rw [HTag.out]] at hW9
          have H10 := Lib.hid (WBytes_any w9 g b9 _ hW9 (cbits_small (tsOf zs) (vsOf zs) (by rw [HTL.out]; omega) (by rw [HVL.out]; omega) HX.out.v))
          clear hW9 H8 hK9
          go_wp2_with fail
          refine H10.out.mono ?_
          rintro e w10 ⟨b10, A10, c10, rfl, hO10, hb10, hN10⟩
          have hs10 := hN10.size
          go_wp2_with fail
          go_ret2
          exact ⟨b10, A10, c10, rfl, hO10, by omega, (hN.trans hn9).trans hN10⟩
  · go_region
    · obtain ⟨a1, a2, a3, a4⟩ := ow_made2 w (madeCells #[.int .i64 0] n) (madeCells #[.int .u64 0] n) 2 25 n (by simp [madeCells]) (by simp [madeCells]) (by omega)
      rw [made_i64] at a1
      rw [made_u64] at a2
      exact ⟨rfl, _, _, rfl, Nat.le_refl _, by omega, by omega, by omega, a4, a1, a2, a3⟩
    · obtain ⟨a1, a2, a3, a4⟩ := ow_made2 w (madeCells #[.int .u64 0] n) (madeCells #[.int .i64 0] n) 25 2 n (by simp [madeCells]) (by simp [madeCells]) (by omega)
      rw [made_u64] at a1
      rw [made_i64] at a2
      exact ⟨rfl, _, _, rfl, by omega, Nat.le_refl _, by omega, a4, by omega, a2, a1, a3⟩

theorem Encode_empty (w : World) (A : Option Addr) (c : Nat) : Calls Tryz.prog 7 #[.slice A 0 c] w fun e w' => e = .returned (.tuple #[.slice none 0 0, .int .i64 21]) ∧ w = w' := by
  go_enter Tryz.func7, Tryz.ntmps7
  go_wp2
  go_ret2
  exact ⟨rfl, rfl⟩
theorem Encode_limit (w : World) (A : Option Addr) (n c : Nat) (h : 120 < n) : Calls Tryz.prog 7 #[.slice A n c] w fun e w' => e = .returned (.tuple #[.slice none 0 0, .int .i64 7]) ∧ w = w' := by
  have n0 : ((n : Int) == 0) = false := by rw [beq_eq_false_iff_ne]; omega
  go_enter Tryz.func7, Tryz.ntmps7
  go_wp2
  go_ret2
  exact ⟨rfl, rfl⟩
end Go.Proofs.YtjepaneniodbpaaGreatDoor
