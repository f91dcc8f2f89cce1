/- Samples, and the limits of model and of its reference. -/
import Derived.Test.YtoogadidbbpplaaGreatSer
namespace Go.Proofs.YtoogadidbbpplaaGreat
open Go Go.RowKit

def smpSum (l : List Ser) : Nat := (l.map fun s => s.smps.length).sum
theorem smpSum_snoc {l : List Ser} {k : Nat} (h : k < l.length) : smpSum (l.take (k + 1)) = smpSum (l.take k) + l[k].smps.length := by
  unfold smpSum
  rw [List.take_succ_eq_append_getElem h, List.map_append, List.sum_append]
  simp only [List.map_cons, List.map_nil, List.sum_cons, List.sum_nil, Nat.add_zero]
theorem smpSum_take (l : List Ser) (k : Nat) : smpSum (l.take k) ≤ smpSum l := by
  unfold smpSum
  conv => rhs; rw [← List.take_append_drop k l, List.map_append, List.sum_append]
  omega

theorem Samples_any (w : World) (b : Nat) (A : Option Addr) (n c : Nat) (l : List Ser) (hI : InSer w b A n c l) (hs : smpSum l ≤ 1000000000) (hn : n ≤ 1000000000) :
    Calls Tryz.prog 16 #[.slice A n c] w fun e w' => e = .returned (.int .i64 (smpSum l : Int)) ∧ Nw w w' := by
  have hl := hI.len
  subst hl
  have HR := Lib.hid hI.rd
  clear hI
  go_enter Tryz.func16, Tryz.ntmps16
  go_wp2
  go_loopw [3, 8] (fun v i wr => ∃ k : Nat, k ≤ l.length ∧ i = .int .i64 k ∧ ∃ N : Nat, v = .int .i64 N ∧ N ≤ 1000000000 ∧ Hid (N = smpSum (l.take k)) ∧ Hid (Nw w wr)) (fun _ i _ => l.length - (intOf i).toNat)
  case atStart => exact ⟨0, by omega, rfl, 0, rfl, by omega, Lib.hid rfl, Lib.hid (Nw.refl _)⟩
  case round =>
    obtain ⟨k, hk, rfl, N, rfl, hN, HS, HN⟩ := hrel
    by_cases hlt : k < l.length
    · have hltI : (k : Int) < (l.length : Int) := by omega
      obtain ⟨o, rfl, _, hc0, hc1⟩ := two_at (HR.out.nw HN.out) hlt
      have HNX := Lib.hid (smpSum_snoc hlt)
      have htk := smpSum_take l (k + 1)
      rw [HNX.out, ← HS.out] at htk
      generalize l[k] = s at *
      go_wp2
      go_roundw
      case rel => exact ⟨k + 1, by omega, by go_num, N + s.smps.length, by go_num, by omega, Lib.hid (by rw [HNX.out, ← HS.out]), Lib.hid (HN.out.alloc' _)⟩
      case measure => simp [intOf]; omega
    · obtain rfl : k = l.length := by omega
      go_wp2
      go_ret
      have h := HS.out
      rw [List.take_length] at h
      rw [h]
      exact ⟨rfl, HN.out⟩

theorem RSamples_any (w : World) (b : Nat) (A : Option Addr) (n c : Nat) (l : List Ser) (hI : InSer w b A n c l) (hs : smpSum l ≤ 1000000000) (hn : n ≤ 1000000000) :
    Calls Tryz.prog 54 #[.slice A n c] w fun e w' => e = .returned (.int .i64 (smpSum l : Int)) ∧ w = w' := by
  have hl := hI.len
  subst hl
  have HR := Lib.hid hI.rd
  clear hI
  go_enter Tryz.func54, Tryz.ntmps54
  go_wp2
  go_loop [3, 4] (fun v i => ∃ k : Nat, k ≤ l.length ∧ i = .int .i64 k ∧ ∃ N : Nat, v = .int .i64 N ∧ N ≤ 1000000000 ∧ Hid (N = smpSum (l.take k))) (fun _ i => l.length - (intOf i).toNat)
  case atStart => exact ⟨0, by omega, rfl, 0, rfl, by omega, Lib.hid rfl⟩
  case round =>
    obtain ⟨k, hk, rfl, N, rfl, hN, HS⟩ := hrel
    by_cases hlt : k < l.length
    · have hltI : (k : Int) < (l.length : Int) := by omega
      obtain ⟨o, rfl, _, hc0, hc1⟩ := two_at HR.out hlt
      have HNX := Lib.hid (smpSum_snoc hlt)
      have htk := smpSum_take l (k + 1)
      rw [HNX.out, ← HS.out] at htk
      generalize l[k] = s at *
      go_wp2
      go_round
      case rel => exact ⟨k + 1, by omega, by go_num, N + s.smps.length, by go_num, by omega, Lib.hid (by rw [HNX.out, ← HS.out])⟩
      case measure => simp [intOf]; omega
    · obtain rfl : k = l.length := by omega
      go_wp2
      go_ret
      have h := HS.out
      rw [List.take_length] at h
      rw [h]
      exact ⟨rfl, rfl⟩

theorem check_any (w : World) (b : Nat) (A : Option Addr) (n c : Nat) (l : List Ser) (hI : InSer w b A n c l) (hs : smpSum l ≤ 100000) (hn : n ≤ 100000) :
    Calls Tryz.prog 20 #[.slice A n c] w fun e w' => e = .returned (.int .i64 0) ∧ Nw w w' := by
  have HS := Lib.hid (Samples_any w b A n c l hI (by omega) (by omega))
  have h1 : decide ((1048576 : Int) < (n : Int)) = false := by rw [decide_eq_false_iff_not]; omega
  generalize smpSum l = S at *
  have h2 : decide ((16777216 : Int) < (S : Int)) = false := by rw [decide_eq_false_iff_not]; omega
  clear hI
  go_enter Tryz.func20, Tryz.ntmps20
  go_wp2_with (go_at_call 16; refine HS.out.mono ?_; rintro e w1 ⟨rfl, hN⟩)
  go_ret
  exact ⟨rfl, hN⟩
theorem large_any (w : World) (b : Nat) (A : Option Addr) (n c : Nat) (l : List Ser) (hI : InSer w b A n c l) (hs : smpSum l ≤ 100000) (hn : n ≤ 100000) :
    Calls Tryz.prog 28 #[.slice A n c] w fun e w' => e = .returned (.bool false) ∧ w = w' := by
  have HS := Lib.hid (RSamples_any w b A n c l hI (by omega) (by omega))
  have h1 : decide ((1048576 : Int) < (n : Int)) = false := by rw [decide_eq_false_iff_not]; omega
  generalize smpSum l = S at *
  have h2 : decide ((16777216 : Int) < (S : Int)) = false := by rw [decide_eq_false_iff_not]; omega
  clear hI
  go_enter Tryz.func28, Tryz.ntmps28
  go_wp2_with (go_at_call 54; refine HS.out.mono ?_; rintro e w1 ⟨rfl, hw⟩; subst hw)
  go_ret
  exact ⟨rfl, rfl⟩
end Go.Proofs.YtoogadidbbpplaaGreat
