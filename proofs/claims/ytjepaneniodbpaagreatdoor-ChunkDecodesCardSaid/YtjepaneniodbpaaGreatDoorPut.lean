/- dictval.Size and dictval.Put. -/
import Derived.Test.YtjepaneniodbpaaGreatDoorChecked
import Derived.Test.YtjepaneniodbpaaGreatDoorDictF
import Derived.Test.YtjepaneniodbpaaGreatDoorWidth
import Derived.Test.YtjepaneniodbpaaGreatDoorWriter
namespace Go.Proofs.YtjepaneniodbpaaGreatDoor
open Go Go.RowKit

/-- the size that is told -/
def szOf (l : List Nat) : Int := if 128 < (dict l).length then -1 else if (dict l).length = 0 then 0 else 7 + (dict l).length * 64 + l.length * wd (dict l).length

theorem szOf_at (l : List Nat) (k : Nat) (h : (dict l).length = k) : szOf l = if 128 < k then -1 else if k = 0 then 0 else 7 + (k : Int) * 64 + (l.length : Int) * (wd k : Int) := by subst h; rfl

theorem Size_any (w : World) (b : Nat) (A : Option Addr) (n c : Nat) (l : List Nat) (hn : n = l.length) (hm : n ≤ 1000000) (hr : Rd w b A (cN .u64 l)) (hx : ∀ x ∈ l, x < 18446744073709551616) :
    Calls Tryz.prog 44 #[.slice A n c] w fun e w' => e = .returned (.int .i64 (szOf l)) ∧ Nw w w' := by
  subst hn
  have hdl := dict_length l
  have HD := Lib.hid (Dictionary_any w b A l.length c l rfl (by omega) hr hx)
  have HW := Lib.hid (wd_le (dict l).length)
  clear hx hr
  generalize hd : (dict l).length = k at *
  have HS := Lib.hid (szOf_at l k hd)
  clear hd
  by_cases h1 : 128 < k
  · go_enter Tryz.func44, Tryz.ntmps44
    go_wp2_with (go_at_call 75; refine HD.out.mono ?_; rintro e w1 ⟨b1, c1, rfl, hO, hge, hN⟩)
    go_ret
    have h := HS.out
    rw [if_pos h1] at h
    exact ⟨by rw [h]; rfl, hN⟩
  · by_cases h0 : k = 0
    · go_enter Tryz.func44, Tryz.ntmps44
      go_wp2_with (go_at_call 75; refine HD.out.mono ?_; rintro e w1 ⟨b1, c1, rfl, hO, hge, hN⟩)
      go_ret
      have h := HS.out
      rw [if_neg h1, if_pos h0] at h
      exact ⟨by rw [h]; rfl, hN⟩
    · have hw := HW.out (by omega)
      have hmul : l.length * wd k ≤ l.length * 7 := Nat.mul_le_mul_left _ hw
      have HM := Lib.hid (show ((l.length * wd k : Nat) : Int) = (l.length : Int) * (wd k : Int) from by simp)
      generalize hv : wd k = v at *
      generalize hp : l.length * v = p at *
      have HV := Lib.hid hv
      have HP := Lib.hid hp
      clear hv hp
      have e1 : (l.length : Int) * (v : Int) = (p : Int) := HM.out.symm
      go_enter Tryz.func44, Tryz.ntmps44
      go_wp2_with (first
        | (go_at_call 75; refine HD.out.mono ?_; rintro e w1 ⟨b1, c1, rfl, hO, hge, hN⟩)
        | (go_at_call 76; refine (Width_any _ _ (by omega) (by omega)).mono ?_; rintro e w2 ⟨rfl, hw2⟩; simp only [Int.toNat_natCast, HV.out]; subst hw2))
      go_ret
      have h := HS.out
      rw [if_neg h1, if_neg h0] at h
      refine ⟨?_, hN⟩
      rw [h, e1]
      rfl

theorem Put_nil (w : World) (b : Nat) (A : Option Addr) (n c : Nat) (l : List Nat) (hn : n = l.length) (hm : n ≤ 1000000) (hr : Rd w b A (cN .u64 l)) (hx : ∀ x ∈ l, x < 18446744073709551616) :
    Calls Tryz.prog 45 #[.pointer none, .slice A n c] w fun e w' => e = .returned (.int .i64 1) ∧ Nw w w' := by
  subst hn
  have HD := Lib.hid (Dictionary_any w b A l.length c l rfl (by omega) hr hx)
  clear hx hr
  have hnil : ∀ W, (binOp .eql 49 (.pointer none) (.pointer none)).run Tryz.prog W = .ok (.bool true) W := fun _ => by kernel_rfl
  go_enter Tryz.func45, Tryz.ntmps45
  go_wp2_with (go_at_call 75; refine HD.out.mono ?_; rintro e w1 ⟨b1, c1, rfl, hO, hge, hN⟩)
  go_ret
  exact ⟨rfl, hN⟩

theorem Put_limit (w : World) (g b : Nat) (A : Option Addr) (n c : Nat) (l : List Nat) (hn : n = l.length) (hm : n ≤ 1000000) (hr : Rd w b A (cN .u64 l)) (hx : ∀ x ∈ l, x < 18446744073709551616) (hd : 128 < (dict l).length) :
    Calls Tryz.prog 45 #[.pointer (some ⟨g, 0, none⟩), .slice A n c] w fun e w' => e = .returned (.int .i64 7) ∧ Nw w w' := by
  subst hn
  have hdl := dict_length l
  have HD := Lib.hid (Dictionary_any w b A l.length c l rfl (by omega) hr hx)
  clear hx hr
  have hnil : ∀ W, (binOp .eql 49 (.pointer (some ⟨g, 0, none⟩)) (.pointer none)).run Tryz.prog W = .ok (.bool false) W := fun _ => by kernel_rfl
  generalize (dict l).length = k at *
  go_enter Tryz.func45, Tryz.ntmps45
  go_wp2_with (go_at_call 75; refine HD.out.mono ?_; rintro e w1 ⟨b1, c1, rfl, hO, hge, hN⟩)
  go_ret
  exact ⟨rfl, hN⟩

theorem Put_empty (w : World) (g b : Nat) (A : Option Addr) (c : Nat) :
    Calls Tryz.prog 45 #[.pointer (some ⟨g, 0, none⟩), .slice A 0 c] w fun e w' => e = .returned (.int .i64 0) ∧ Nw w w' := by
  have HD := Lib.hid (Dictionary_any w b A 0 c [] rfl (by omega) (Rd.nil _ _ _) (by simp))
  rw [show dict [] = [] from rfl] at HD
  have hnil : ∀ W, (binOp .eql 49 (.pointer (some ⟨g, 0, none⟩)) (.pointer none)).run Tryz.prog W = .ok (.bool false) W := fun _ => by kernel_rfl
  go_enter Tryz.func45, Tryz.ntmps45
  go_wp2_with (go_at_call 75; refine HD.out.mono ?_; rintro e w1 ⟨b1, c1, rfl, hO, hge, hN⟩)
  go_ret
  exact ⟨rfl, hN⟩

theorem flatv_length {f : Nat → List Bool} {v : Nat} (hf : ∀ x, (f x).length = v) (l : List Nat) : (l.flatMap f).length = v * l.length := by
  induction l with
  | nil => rfl
  | cons x l ih => rw [List.flatMap_cons, List.length_append, ih, hf, List.length_cons, Nat.mul_succ, Nat.add_comm]
theorem flat64_length (d : List Nat) (k : Nat) (h : k ≤ d.length) : ((d.take k).flatMap (bitsOf · 64)).length = 64 * k := by
  rw [flatv_length (fun x => bitsOf_length x 64), List.length_take, Nat.min_eq_left h]
theorem flatw_length (l : List Nat) (f : Nat → Nat) (v k : Nat) (h : k ≤ l.length) : ((l.take k).flatMap (fun x => bitsOf (f x) v)).length = v * k := by
  rw [flatv_length (fun x => bitsOf_length (f x) v), List.length_take, Nat.min_eq_left h]
theorem flat_succ {f : Nat → List Bool} (l : List Nat) (k : Nat) (h : k < l.length) : (l.take (k + 1)).flatMap f = (l.take k).flatMap f ++ f l[k] := by
  rw [List.take_succ_eq_append_getElem h, List.flatMap_append]
  simp

theorem Put_ok (w : World) (g gb b : Nat) (A : Option Addr) (n c : Nat) (bs : List Bool) (l : List Nat) (hn : n = l.length) (hm : n ≤ 1000000) (hr : Rd w b A (cN .u64 l)) (hx : ∀ x ∈ l, x < 18446744073709551616)
    (hW : Wtr w g gb bs) (hne : b ≠ g) (hne2 : b ≠ gb) (hb : bs.length ≤ 1000000000) (hbl : l ≠ [] → b < w.heap.size) (hd : (dict l).length ≤ 128) (hl : l ≠ []) :
    Calls Tryz.prog 45 #[.pointer (some ⟨g, 0, none⟩), .slice A n c] w fun e w' => e = .returned (.int .i64 0) ∧ ∃ b', Wtr w' g b' (bs ++ putBits l) ∧ (b' = gb ∨ w.heap.size ≤ b') ∧ Kp g gb w w' := by
  subst hn
  have hl0 : 0 < l.length := List.length_pos_iff.2 hl
  have hd0 : 0 < (dict l).length := by rw [List.length_pos_iff]; intro h; exact hl ((dict_nil_iff l).1 h)
  have HPB := Lib.hid (show putBits l = bitsOf ((dict l).length - 1) 7 ++ (dict l).flatMap (bitsOf · 64) ++ l.flatMap (fun x => bitsOf ((dict l).idxOf x) (wd (dict l).length)) from by unfold putBits; rw [if_neg hl])
  have HD := Lib.hid (Dictionary_any w b A l.length c l rfl (by omega) hr hx)
  have HV := Lib.hid (wd_le (dict l).length hd)
  have HDX := Lib.hid (show ∀ x ∈ dict l, x < 18446744073709551616 from fun x h => hx x ((dict_mem l x).1 h))
  have HDM := Lib.hid (dict_mem l)
  have HDA := Lib.hid (dict_asc l)
  have hglt := hW.glt
  have hgblt := hW.lt
  have HW := Lib.hid hW
  have HBL := Lib.hid (hbl hl)
  have HR := Lib.hid hr
  clear hx hr hW hbl hl
  have hnil : ∀ W, (binOp .eql 49 (.pointer (some ⟨g, 0, none⟩)) (.pointer none)).run Tryz.prog W = .ok (.bool false) W := fun _ => by kernel_rfl
  generalize hdd : dict l = d at *
  clear hdd
  have e1 : IntKind.u64.wrap ((d.length : Int) - 1) = ((d.length - 1 : Nat) : Int) := by rw [IntWalk.u64_in _ (by omega)]; omega
  go_enter Tryz.func45, Tryz.ntmps45
  go_wp2_with (first
    | (go_at_call 75; refine HD.out.mono ?_; rintro e w1 ⟨b1, c1, rfl, hO, hge, hN⟩; have hO0 := hO; have HO := Lib.hid hO.rd; clear hO; have HN1 := Lib.hid hN; have hs1 := hN.size; have hb1 : b1 < w1.heap.size := hO0.lt hd0)
    | (go_at_call 18; refine (WBits_any w1 g gb bs (d.length - 1) 7 (HW.out.nw HN1.out) (by omega) (by omega) (by omega)).mono ?_; rintro e w2 ⟨rfl, b2, h1, h2, h3⟩))
  have hN1 := HN1.out
  have hK2 : Kp g gb w w2 := (hN1.kp g gb).trans h3 (.inl rfl) (.inr (.inl rfl))
  have hs2 := h3.size
  have hb2 : b2 ≠ b1 := by omega
  clear hO0
  go_loopw [33] (fun i wr => ∃ k : Nat, k ≤ d.length ∧ i = .int .i64 k ∧ ∃ bk, Wtr wr g bk (bs ++ (bitsOf (d.length - 1) 7 ++ (d.take k).flatMap (bitsOf · 64))) ∧ (bk = gb ∨ w1.heap.size ≤ bk) ∧ Kp g gb w1 wr) (fun i _ => d.length - (intOf i).toNat)
  case atStart => exact ⟨0, by omega, rfl, b2, by simpa using h1, h2, h3⟩
  case round =>
    obtain ⟨k, hk, rfl, bk, hWk, hbk, hKk⟩ := hrel
    have hsk := hKk.size
    have hRd : Rd wr b1 (some ⟨b1, 0, none⟩) (cN .u64 d) := HO.out.kp hKk (by omega) (by omega)
    by_cases hlt : k < d.length
    · obtain ⟨o, ho, _, hc⟩ := hRd.get (k := k) (by simpa using hlt)
      injection ho with ho
      injection ho with _ ho _
      subst ho
      rw [List.getElem_map, Nat.zero_add] at hc
      have HWk := Lib.hid hWk
      have HL := Lib.hid (flat64_length d k (by omega))
      have HX := Lib.hid (HDX.out _ (List.getElem_mem hlt))
      clear hWk hRd
      go_wp2_with (go_at_call 18; refine (WBits_any wr g bk _ d[k] 64 HWk.out (by omega) HX.out (by simp only [List.length_append, HL.out, bitsOf_length]; omega)).mono ?_; rintro e w3 ⟨rfl, b3, h4, h5, h6⟩)
      go_roundw
      case rel =>
        refine ⟨k + 1, by omega, by go_num, b3, ?_, by omega, hKk.trans h6 (.inl rfl) (by omega)⟩
        rw [flat_succ d k hlt]
        simpa using h4
      case measure => simp [intOf]; omega
    · obtain rfl : k = d.length := by omega
      rw [List.take_length] at hWk
      have HWk := Lib.hid hWk
      clear hWk
      have HL := Lib.hid (flat64_length d d.length (Nat.le_refl _))
      rw [List.take_length] at HL
      go_wp2_with fail
      go_loopw [43] (fun i wr => ∃ j : Nat, j ≤ l.length ∧ i = .int .i64 j ∧ ∃ bk, Wtr wr g bk (bs ++ (bitsOf (d.length - 1) 7 ++ d.flatMap (bitsOf · 64) ++ (l.take j).flatMap (fun x => bitsOf (d.idxOf x) (wd d.length)))) ∧ (bk = gb ∨ w1.heap.size ≤ bk) ∧ Kp g gb w1 wr) (fun i _ => l.length - (intOf i).toNat)
      case atStart => exact ⟨0, by omega, rfl, bk, by simpa using HWk.out, hbk, hKk⟩
      case round =>
        obtain ⟨j, hj, rfl, bj, hWj, hbj, hKj⟩ := hrel
        have hsj := hKj.size
        have hRd : Rd wr b1 (some ⟨b1, 0, none⟩) (cN .u64 d) := HO.out.kp hKj (by omega) (by omega)
        by_cases hlt2 : j < l.length
        · have hRl : Rd wr b A (cN .u64 l) := (HR.out.nw HN1.out).kp hKj (by omega) (by omega)
          obtain ⟨o, rfl, _, hc⟩ := hRl.get (k := j) (by simpa using hlt2)
          rw [List.getElem_map] at hc
          have HWj := Lib.hid hWj
          have HL2 := Lib.hid (flatw_length l (fun x => d.idxOf x) (wd d.length) j (by omega))
          have hv : wd d.length * j ≤ 7 * l.length := Nat.mul_le_mul HV.out (by omega)
          have hv7 := HV.out
          have hmem : l[j] ∈ d := (HDM.out _).2 (List.getElem_mem hlt2)
          have hix := List.idxOf_lt_length_of_mem hmem
          have HB := Lib.hid (BinarySearch_hit wr b1 _ d.length c1 d l[j] rfl (by omega) hRd HDA.out hmem)
          clear hWj hRd hmem
          have e2 : IntKind.u64.wrap ((d.idxOf l[j] : Nat) : Int) = ((d.idxOf l[j] : Nat) : Int) := IntWalk.u64_in _ (by omega)
          go_wp2_with (first
            | (go_at_call 77; refine HB.out.mono ?_; rintro e w3 ⟨rfl, hw3⟩; subst hw3)
            | (go_at_call 76; refine (Width_any _ _ (by omega) (by omega)).mono ?_; rintro e w3 ⟨rfl, hw3⟩; simp only [Int.toNat_natCast]; subst hw3)
            | (go_at_call 18; refine (WBits_any wr g bj _ (d.idxOf l[j]) (wd d.length) HWj.out (by omega) (by omega) (by simp only [List.length_append, HL.out, HL2.out, bitsOf_length]; omega)).mono ?_; rintro e w3 ⟨rfl, b3, h4, h5, h6⟩))
          go_roundw
          case rel =>
            refine ⟨j + 1, by omega, by go_num, b3, ?_, by omega, hKj.trans h6 (.inl rfl) (by omega)⟩
            rw [flat_succ l j hlt2]
            simpa using h4
          case measure => simp [intOf]; omega
        · obtain rfl : j = l.length := by omega
          rw [List.take_length, ← HPB.out] at hWj
          go_wp2_with fail
          go_ret
          refine ⟨rfl, bj, hWj, ?_, (HN1.out.kp g gb).trans hKj (.inl rfl) (.inr (.inl rfl))⟩
          omega
end Go.Proofs.YtjepaneniodbpaaGreatDoor
