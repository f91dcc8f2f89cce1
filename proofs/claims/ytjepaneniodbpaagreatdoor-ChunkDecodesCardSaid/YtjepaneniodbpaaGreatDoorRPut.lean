/- The reference's Put. -/
import Derived.Test.YtjepaneniodbpaaGreatDoorChecked
import Derived.Test.YtjepaneniodbpaaGreatDoorPut
import Derived.Test.YtjepaneniodbpaaGreatDoorRef1
namespace Go.Proofs.YtjepaneniodbpaaGreatDoor
open Go Go.RowKit

theorem findI_in (xs : List Nat) (x : Nat) (h : x ∈ xs) : findI xs x = ((xs.idxOf x : Nat) : Int) := if_pos h

/-- more than the dictionary holds -/
theorem RPut_limit (w : World) (bl : Nat) (A Al : Option Addr) (m c n cl : Nat) (l : List Nat) (hn : n = l.length) (hm : n ≤ 1000000) (hr : Rd w bl Al (cN .u64 l)) (hd : 128 < (dict l).length) :
    Calls Tryz.prog 51 #[.slice A m c, .slice Al n cl] w fun e w' => e = .returned (.tuple #[.slice A m c, .bool false]) ∧ Nw w w' := by
  subst hn
  have hdl := dict_length l
  have HD := Lib.hid (RDict_any w bl Al l.length cl l rfl (by omega) hr)
  clear hr
  generalize (dict l).length = k at *
  have hl0 : ((l.length : Int) == 0) = false := by rw [beq_eq_false_iff_ne]; omega
  have hk1 : decide (128 < (k : Int)) = true := by rw [decide_eq_true_iff]; omega
  go_enter Tryz.func51, Tryz.ntmps51
  go_wp2_with (go_at_call 82; refine HD.out.mono ?_; rintro e w1 ⟨b1, A1, c1, rfl, hO, hge, hN⟩)
  go_ret2
  exact ⟨rfl, hN⟩

theorem RPut_empty (w : World) (A Al : Option Addr) (m c cl : Nat) :
    Calls Tryz.prog 51 #[.slice A m c, .slice Al 0 cl] w fun e w' => e = .returned (.tuple #[.slice A m c, .bool true]) ∧ Nw w w' := by
  have HD := Lib.hid (RDict_any w 0 Al 0 cl [] rfl (by omega) (Rd.nil _ _ _))
  rw [show dict [] = [] from rfl] at HD
  go_enter Tryz.func51, Tryz.ntmps51
  go_wp2_with (go_at_call 82; refine HD.out.mono ?_; rintro e w1 ⟨b1, A1, c1, rfl, hO, hge, hN⟩)
  go_ret2
  exact ⟨rfl, hN⟩

theorem RPut_ok (w : World) (b bl : Nat) (A Al : Option Addr) (m c n cl : Nat) (bs : List Bool) (l : List Nat) (hO : Ow w b 4 1 A m c (cB bs)) (hn : n = l.length) (hm : n ≤ 1000000) (hb : m ≤ 1000000000) (hbl : b < w.heap.size) (hne : bl ≠ b)
    (hr : Rd w bl Al (cN .u64 l)) (hx : ∀ x ∈ l, x < 18446744073709551616) (hd : (dict l).length ≤ 128) (hl : l ≠ []) :
    Calls Tryz.prog 51 #[.slice A m c, .slice Al n cl] w fun e w' => ∃ b' A' c', e = .returned (.tuple #[.slice A' (m + (putBits l).length) c', .bool true]) ∧ Ow w' b' 4 1 A' (m + (putBits l).length) c' (cB (bs ++ putBits l)) ∧ (b' = b ∨ w.heap.size ≤ b') ∧ Kp b b w w' ∧ (A = none → Nw w w' ∧ (w.heap.size ≤ b' ∨ A' = none)) := by
  subst hn
  have hl0 : 0 < l.length := List.length_pos_iff.2 hl
  have hd0 : 0 < (dict l).length := by rw [List.length_pos_iff]; intro h; exact hl ((dict_nil_iff l).1 h)
  have HPB := Lib.hid (show putBits l = bitsOf ((dict l).length - 1) 7 ++ (dict l).flatMap (bitsOf · 64) ++ l.flatMap (fun x => bitsOf ((dict l).idxOf x) (wd (dict l).length)) from by unfold putBits; rw [if_neg hl])
  have HD := Lib.hid (RDict_any w bl Al l.length cl l rfl (by omega) hr)
  have HV := Lib.hid (wd_le (dict l).length hd)
  have HDX := Lib.hid (show ∀ x ∈ dict l, x < 18446744073709551616 from fun x h => hx x ((dict_mem l x).1 h))
  have HDM := Lib.hid (dict_mem l)
  have HO := Lib.hid hO
  have HR := Lib.hid hr
  clear hx hr hO hl
  generalize hdd : dict l = d at *
  clear hdd
  have e1 : IntKind.u64.wrap ((d.length : Int) - 1) = ((d.length - 1 : Nat) : Int) := by rw [IntWalk.u64_in _ (by omega)]; omega
  have hli : ((l.length : Int) == 0) = false := by rw [beq_eq_false_iff_ne]; omega
  have hk1 : decide (128 < (d.length : Int)) = false := by rw [decide_eq_false_iff_not]; omega
  go_enter Tryz.func51, Tryz.ntmps51
  go_wp2_with (first
    | (go_at_call 82; refine HD.out.mono ?_; rintro e w1 ⟨b1, A1, c1, rfl, hO1, hge, hN⟩; have hO0 := hO1; have HO1 := Lib.hid hO1.rd; clear hO1; have HN1 := Lib.hid hN; have hs1 := hN.size; have hb1 : b1 < w1.heap.size := hO0.lt hd0)
    | (go_at_call 52; refine (Write_any w1 b A m c bs (d.length - 1) 7 (HO.out.nw HN1.out) (by omega) (by omega) (by omega)).mono ?_; rintro e w2 ⟨b2, A2, c2, rfl, h1, h2, h3, h3n⟩))
  have hN1 := HN1.out
  have hs2 := h3.size
  have HNN := Lib.hid h3n
  clear hO0 h3n
  go_loopw [0, 7] (fun s i wr => ∃ k : Nat, k ≤ d.length ∧ i = .int .i64 k ∧ ∃ bk Ak ck, s = .slice Ak (m + (7 + 64 * k)) ck ∧ Ow wr bk 4 1 Ak (m + (7 + 64 * k)) ck (cB (bs ++ (bitsOf (d.length - 1) 7 ++ (d.take k).flatMap (bitsOf · 64)))) ∧ (bk = b ∨ w1.heap.size ≤ bk) ∧ Kp b b w1 wr ∧ Hid (A = none → Nw w1 wr ∧ (w1.heap.size ≤ bk ∨ Ak = none))) (fun _ i _ => d.length - (intOf i).toNat)
  case atStart => exact ⟨0, by omega, rfl, b2, A2, c2, rfl, by simpa using h1, h2, h3, HNN⟩
  case round =>
    obtain ⟨k, hk, rfl, bk, Ak, ck, rfl, hWk, hbk, hKk, hnn⟩ := hrel
    have hsk := hKk.size
    have hRd : Rd wr b1 A1 (cN .u64 d) := HO1.out.kp hKk (by omega) (by omega)
    by_cases hlt : k < d.length
    · obtain ⟨o, rfl, _, hc⟩ := hRd.get (k := k) (by simpa using hlt)
      rw [List.getElem_map] at hc
      have HWk := Lib.hid hWk
      have HX := Lib.hid (HDX.out _ (List.getElem_mem hlt))
      clear hWk hRd
      go_wp2_with (go_at_call 52; refine (Write_any wr bk Ak (m + (7 + 64 * k)) ck _ d[k] 64 HWk.out (by omega) HX.out (by omega)).mono ?_; rintro e w3 ⟨b3, A3, c3, rfl, h4, h5, h6, h6n⟩; have H6N := Lib.hid h6n; clear h6n)
      go_roundw
      case rel =>
        refine ⟨k + 1, by omega, by go_num, b3, A3, c3, by rw [show m + (7 + 64 * (k + 1)) = m + (7 + 64 * k) + 64 from by omega], ?_, by omega, hKk.trans h6 (by omega) (by omega), Lib.hid (nn_step hnn.out h5 h6 H6N.out)⟩
        rw [flat_succ d k hlt, show m + (7 + 64 * (k + 1)) = m + (7 + 64 * k) + 64 from by omega]
        simpa using h4
      case measure => simp [intOf]; omega
    · obtain rfl : k = d.length := by omega
      rw [List.take_length] at hWk
      have HWk := Lib.hid hWk
      clear hWk
      go_wp2_with fail
      go_loopw [0, 8] (fun s i wr => ∃ j : Nat, j ≤ l.length ∧ i = .int .i64 j ∧ ∃ M bk Ak ck, M = m + (7 + 64 * d.length + wd d.length * j) ∧ s = .slice Ak M ck ∧ Ow wr bk 4 1 Ak M ck (cB (bs ++ (bitsOf (d.length - 1) 7 ++ d.flatMap (bitsOf · 64) ++ (l.take j).flatMap (fun x => bitsOf (d.idxOf x) (wd d.length))))) ∧ (bk = b ∨ w1.heap.size ≤ bk) ∧ Kp b b w1 wr ∧ Hid (A = none → Nw w1 wr ∧ (w1.heap.size ≤ bk ∨ Ak = none))) (fun _ i _ => l.length - (intOf i).toNat)
      case atStart => exact ⟨0, by omega, rfl, _, bk, Ak, ck, by simp, rfl, by simpa using HWk.out, hbk, hKk, hnn⟩
      case round =>
        obtain ⟨j, hj, rfl, M, bj, Aj, cj, hM, rfl, hWj, hbj, hKj, hnj⟩ := hrel
        have hsj := hKj.size
        have hRd : Rd wr b1 A1 (cN .u64 d) := HO1.out.kp hKj (by omega) (by omega)
        by_cases hlt2 : j < l.length
        · have hRl : Rd wr bl Al (cN .u64 l) := (HR.out.nw HN1.out).kp hKj (by omega) (by omega)
          obtain ⟨o, rfl, _, hc⟩ := hRl.get (k := j) (by simpa using hlt2)
          rw [List.getElem_map] at hc
          have HWj := Lib.hid hWj
          have hv : wd d.length * j ≤ 7 * l.length := Nat.mul_le_mul HV.out (by omega)
          have hv7 := HV.out
          have hmem : l[j] ∈ d := (HDM.out _).2 (List.getElem_mem hlt2)
          have hix := List.idxOf_lt_length_of_mem hmem
          have hf := find_any wr b1 A1 d.length c1 d l[j] rfl (by omega) hRd
          rw [findI_in _ _ hmem] at hf
          have HF := Lib.hid hf
          have HM := Lib.hid hM
          have hMb : M ≤ m + (7 + 64 * d.length + 7 * l.length) := by omega
          clear hWj hRd hmem hf hM
          have e2 : IntKind.u64.wrap ((d.idxOf l[j] : Nat) : Int) = ((d.idxOf l[j] : Nat) : Int) := IntWalk.u64_in _ (by omega)
          go_wp2_with (first
            | (go_at_call 83; refine HF.out.mono ?_; rintro e w3 ⟨rfl, hw3⟩; subst hw3)
            | (go_at_call 84; refine (RWidth_any _ _ (by omega) (by omega)).mono ?_; rintro e w3 ⟨rfl, hw3⟩; simp only [Int.toNat_natCast]; subst hw3)
            | (go_at_call 52; refine (Write_any wr bj Aj M cj _ (d.idxOf l[j]) (wd d.length) HWj.out (by omega) (by omega) (by omega)).mono ?_; rintro e w3 ⟨b3, A3, c3, rfl, h4, h5, h6, h6n⟩; have H6N := Lib.hid h6n; clear h6n))
          go_roundw
          case rel =>
            have hM := HM.out
            refine ⟨j + 1, by omega, by go_num, M + wd d.length, b3, A3, c3, by rw [Nat.mul_succ]; omega, rfl, ?_, by omega, hKj.trans h6 (by omega) (by omega), Lib.hid (nn_step hnj.out h5 h6 H6N.out)⟩
            rw [flat_succ l j hlt2]
            simpa using h4
          case measure => simp [intOf]; omega
        · obtain rfl : j = l.length := by omega
          rw [List.take_length, ← HPB.out] at hWj
          have hlen := hWj.len
          simp only [List.length_map, List.length_append, Nat.mul_one] at hlen
          have hlen0 := HO.out.len
          simp only [List.length_map, Nat.mul_one] at hlen0
          obtain rfl : M = m + (putBits l).length := by omega
          go_wp2_with fail
          go_ret2
          exact ⟨bj, Aj, cj, rfl, hWj, by omega, (HN1.out.kp b b).trans hKj (.inl rfl) (.inr (.inl rfl)), fun e => ⟨HN1.out.trans (hnj.out e).1, by rcases (hnj.out e).2 with h | h; exact .inl (by omega); exact .inr h⟩⟩
end Go.Proofs.YtjepaneniodbpaaGreatDoor
