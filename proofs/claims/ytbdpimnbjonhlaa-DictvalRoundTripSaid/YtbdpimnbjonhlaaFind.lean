/- Walks of functions that only read lists of words: find, Index, Contains, Less. -/
import Derived.Test.YtbdpimnbjonhlaaChecked
import Derived.Test.YtbdpimnbjonhlaaWords
import Derived.Deep.QuietTactic
import Derived.BigQuiet
namespace Go.Proofs.Ytbdpimnbjonhlaa
open Go Go.RowKit

def findI (xs : List Nat) (x : Nat) : Int := if x ∈ xs then (xs.idxOf x : Int) else -1

theorem idxOf_hit (xs : List Nat) (x k : Nat) (hk : k < xs.length) (h : xs[k] = x) (hn : x ∉ xs.take k) : xs.idxOf x = k := by
  have e : xs = xs.take k ++ (xs[k] :: xs.drop (k + 1)) := by simp
  rw [e, List.idxOf_append, if_neg hn, h]
  simp; omega

theorem findI_hit (xs : List Nat) (x k : Nat) (hk : k < xs.length) (h : ((xs[k] : Nat) : Int) = x) (hn : x ∉ xs.take k) : (k : Int) = findI xs x := by
  have h' : xs[k] = x := by omega
  unfold findI
  rw [if_pos (by rw [← h']; exact List.getElem_mem hk), idxOf_hit xs x k hk h' hn]
theorem findI_no (xs : List Nat) (x k : Nat) (hk : ¬ k < xs.length) (hn : x ∉ xs.take k) : (-1 : Int) = findI xs x := by
  unfold findI
  rw [List.take_of_length_le (by omega)] at hn
  rw [if_neg hn]
theorem notin_next (xs : List Nat) (x k : Nat) (hk : k < xs.length) (h : ¬ ((xs[k] : Nat) : Int) = x) (hn : x ∉ xs.take k) : x ∉ xs.take (k + 1) := by
  rw [List.take_succ_eq_append_getElem hk, List.mem_append, List.mem_singleton]
  rintro (h1 | h1)
  · exact hn h1
  · omega
theorem ret_int {k : IntKind} {a b : Int} (h : a = b) : Ending.returned (.int k a) = .returned (.int k b) := by rw [h]
theorem ret_bool {a b : Bool} (h : a = b) : Ending.returned (.bool a) = .returned (.bool b) := by rw [h]

theorem find_any (w : World) (b : Nat) (A : Option Addr) (n c : Nat) (xs : List Nat) (x : Nat) (hn : n = xs.length) (hm : n ≤ 9223372036854775807) (hr : Rd w b A (cN .u64 xs)) :
    Calls Try.prog 37 #[.slice A n c, .int .u64 (x : Int)] w fun e w' => e = .returned (.int .i64 (findI xs x)) ∧ w = w' := by
  subst hn
  go_enter Try.func37, Try.ntmps37
  go_wp2
  go_loop [5] (fun i => ∃ k : Nat, k ≤ xs.length ∧ i = .int .i64 k ∧ x ∉ xs.take k) (fun i => xs.length - (intOf i).toNat)
  case atStart => exact ⟨0, by omega, rfl, by simp⟩
  case round =>
    obtain ⟨k, hk, rfl, hnot⟩ := hrel
    have HN := Lib.hid hnot
    clear hnot
    by_cases hlt : k < xs.length
    · obtain ⟨o, rfl, _, hc⟩ := hr.get (k := k) (by simpa using hlt)
      rw [List.getElem_map] at hc
      by_cases hx : ((xs[k] : Nat) : Int) = x
      · have hx' : (((xs[k] : Nat) : Int) == x) = true := by simpa using hx
        have HX := Lib.hid hx
        clear hx
        go_wp2
        go_ret
        exact ⟨ret_int (findI_hit xs x k hlt HX.out HN.out), rfl⟩
      · have hx' : (((xs[k] : Nat) : Int) == x) = false := by simpa using hx
        have HX := Lib.hid hx
        clear hx
        go_wp2
        go_round
        case rel => exact ⟨k + 1, by omega, by go_num, notin_next xs x k hlt HX.out HN.out⟩
        case measure => simp [intOf]; omega
    · go_wp2
      go_ret
      exact ⟨ret_int (findI_no xs x k hlt HN.out), rfl⟩

theorem Index_any (w : World) (b : Nat) (A : Option Addr) (n c : Nat) (xs : List Nat) (x : Nat) (hn : n = xs.length) (hm : n ≤ 9223372036854775807) (hr : Rd w b A (cN .u64 xs)) :
    Calls Try.prog 47 #[.slice A n c, .int .u64 (x : Int)] w fun e w' => e = .returned (.int .i64 (findI xs x)) ∧ w = w' := by
  subst hn
  go_enter Try.func47, Try.ntmps47
  go_wp2
  go_loop [8] (fun i => ∃ k : Nat, k ≤ xs.length ∧ i = .int .i64 k ∧ x ∉ xs.take k) (fun i => xs.length - (intOf i).toNat)
  case atStart => exact ⟨0, by omega, rfl, by simp⟩
  case round =>
    obtain ⟨k, hk, rfl, hnot⟩ := hrel
    have HN := Lib.hid hnot
    clear hnot
    by_cases hlt : k < xs.length
    · obtain ⟨o, rfl, _, hc⟩ := hr.get (k := k) (by simpa using hlt)
      rw [List.getElem_map] at hc
      by_cases hx : ((xs[k] : Nat) : Int) = x
      · have hx' : ((x : Int) == ((xs[k] : Nat) : Int)) = true := by simp [hx]
        have HX := Lib.hid hx
        clear hx
        go_wp2
        go_ret
        exact ⟨ret_int (findI_hit xs x k hlt HX.out HN.out), rfl⟩
      · have hx' : ((x : Int) == ((xs[k] : Nat) : Int)) = false := by simpa using fun h => hx h.symm
        have HX := Lib.hid hx
        clear hx
        go_wp2
        go_round
        case rel => exact ⟨k + 1, by omega, by go_num, notin_next xs x k hlt HX.out HN.out⟩
        case measure => simp [intOf]; omega
    · go_wp2
      go_ret
      exact ⟨ret_int (findI_no xs x k hlt HN.out), rfl⟩

theorem findI_mem (xs : List Nat) (x : Nat) : decide (0 ≤ findI xs x) = decide (x ∈ xs) := by
  unfold findI
  split <;> simp_all

theorem Contains_any (w : World) (b : Nat) (A : Option Addr) (n c : Nat) (xs : List Nat) (x : Nat) (hn : n = xs.length) (hm : n ≤ 9223372036854775807) (hr : Rd w b A (cN .u64 xs)) :
    Calls Try.prog 34 #[.slice A n c, .int .u64 (x : Int)] w fun e w' => e = .returned (.bool (decide (x ∈ xs))) ∧ w = w' := by
  rw [← findI_mem]
  have H := Lib.hid hn
  clear hn
  go_enter Try.func34, Try.ntmps34
  go_wp2_with (go_at_call 47; refine (Index_any w b A n c xs x H.out hm hr).mono ?_; rintro e w' ⟨rfl, rfl⟩)
  go_ret
  exact ⟨ret_bool (by simp), rfl⟩

theorem isNaN_any (w : World) (x : Nat) : Calls Try.prog 53 #[.int .u64 (x : Int)] w fun e w' => e = .returned (.bool false) ∧ w = w' := by
  go_enter Try.func53, Try.ntmps53
  go_wp2
  go_ret
  exact ⟨rfl, rfl⟩

theorem isNaN'_any (w : World) (x : Nat) : Calls Try.prog 52 #[.int .u64 (x : Int)] w fun e w' => e = .returned (.bool false) ∧ w = w' := by
  go_enter Try.func52, Try.ntmps52
  go_wp2
  go_ret
  exact ⟨rfl, rfl⟩

theorem Less_any (w : World) (x y : Nat) : Calls Try.prog 48 #[.int .u64 (x : Int), .int .u64 (y : Int)] w fun e w' => e = .returned (.bool (decide (x < y))) ∧ w = w' := by
  go_enter Try.func48, Try.ntmps48
  go_wp2_with (go_at_call 53; refine (isNaN_any _ _).mono ?_; rintro e w' ⟨rfl, rfl⟩)
  go_ret
  exact ⟨ret_bool (by simp), rfl⟩

end Go.Proofs.Ytbdpimnbjonhlaa
