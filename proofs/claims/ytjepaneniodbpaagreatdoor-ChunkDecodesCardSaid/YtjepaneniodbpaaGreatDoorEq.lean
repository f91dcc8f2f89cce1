import Derived.Test.YtjepaneniodbpaaGreatDoorChecked
import Derived.Test.YtjepaneniodbpaaGreatDoorWords
import Derived.Deep.QuietTactic
import Derived.BigQuiet
import Derived.Test.YtjepaneniodbpaaGreatDoorMem
import Derived.Test.YtjepaneniodbpaaGreatDoorShelf

/- Walks of functions that only read lists of words: find, Index, Contains, Less. -/
namespace Go.Proofs.YtjepaneniodbpaaGreatDoor
open Go Go.RowKit

def findI (xs : List Nat) (x : Nat) : Int := if x ∈ xs then (xs.idxOf x : Int) else -1

theorem idxOf_hit (xs : List Nat) (x k : Nat) (hk : k < xs.length) (h : xs[k] = x) (hn : x ∉ xs.take k) : xs.idxOf x = k := by
  have e : xs = xs.take k ++ (xs[k] :: xs.drop (k + 1)) := by simp
  rw [e, List.idxOf_append, if_neg hn, h]
  simp; omega

theorem findI_hit (xs : List Nat) (x k : Nat) (hk : k < xs.length) (h : ((xs[k] : Nat) : Int) = x) (hn : x ∉ xs.take k) : (k : Int) = findI xs x := by
  have h' : xs[k] = x := by omega
  unfold findI
  rw [if_pos (by rw [← h']; exact List.getElem_mem hk), idxOf_hit xs x k hk h' hn]
theorem findI_no (xs : List Nat) (x k : Nat) (hk : ¬ k < xs.length) (hn : x ∉ xs.take k) : (-1 : Int) = findI xs x := by
  unfold findI
  rw [List.take_of_length_le (by omega)] at hn
  rw [if_neg hn]
theorem notin_next (xs : List Nat) (x k : Nat) (hk : k < xs.length) (h : ¬ ((xs[k] : Nat) : Int) = x) (hn : x ∉ xs.take k) : x ∉ xs.take (k + 1) := by
  rw [List.take_succ_eq_append_getElem hk, List.mem_append, List.mem_singleton]
  rintro (h1 | h1)
  · exact hn h1
  · omega
theorem ret_int {k : IntKind} {a b : Int} (h : a = b) : Ending.returned (.int k a) = .returned (.int k b) := by rw [h]
theorem ret_bool {a b : Bool} (h : a = b) : Ending.returned (.bool a) = .returned (.bool b) := by rw [h]

theorem find_any (w : World) (b : Nat) (A : Option Addr) (n c : Nat) (xs : List Nat) (x : Nat) (hn : n = xs.length) (hm : n ≤ 9223372036854775807) (hr : Rd w b A (cN .u64 xs)) :
    Calls Tryz.prog 83 #[.slice A n c, .int .u64 (x : Int)] w fun e w' => e = .returned (.int .i64 (findI xs x)) ∧ w = w' := by
  subst hn
  go_enter Tryz.func83, Tryz.ntmps83
  go_wp2
  go_loop [5] (fun i => ∃ k : Nat, k ≤ xs.length ∧ i = .int .i64 k ∧ x ∉ xs.take k) (fun i => xs.length - (intOf i).toNat)
  case atStart => exact ⟨0, by omega, rfl, by simp⟩
  case round =>
    obtain ⟨k, hk, rfl, hnot⟩ := hrel
    have HN := Lib.hid hnot
    clear hnot
    by_cases hlt : k < xs.length
    · obtain ⟨o, rfl, _, hc⟩ := hr.get (k := k) (by simpa using hlt)
      rw [List.getElem_map] at hc
      by_cases hx : ((xs[k] : Nat) : Int) = x
      · have hx' : (((xs[k] : Nat) : Int) == x) = true := by simpa using hx
        have HX := Lib.hid hx
        clear hx
        go_wp2
        go_ret
        exact ⟨ret_int (findI_hit xs x k hlt HX.out HN.out), rfl⟩
      · have hx' : (((xs[k] : Nat) : Int) == x) = false := by simpa using hx
        have HX := Lib.hid hx
        clear hx
        go_wp2
        go_round
        case rel => exact ⟨k + 1, by omega, by go_num, notin_next xs x k hlt HX.out HN.out⟩
        case measure => simp [intOf]; omega
    · go_wp2
      go_ret
      exact ⟨ret_int (findI_no xs x k hlt HN.out), rfl⟩

theorem findI_mem (xs : List Nat) (x : Nat) : decide (0 ≤ findI xs x) = decide (x ∈ xs) := by
  unfold findI
  split <;> simp_all

theorem isNaN_any (w : World) (x : Nat) : Calls Tryz.prog 103 #[.int .u64 (x : Int)] w fun e w' => e = .returned (.bool false) ∧ w = w' := by
  go_enter Tryz.func103, Tryz.ntmps103
  go_wp2
  go_ret
  exact ⟨rfl, rfl⟩

theorem isNaN'_any (w : World) (x : Nat) : Calls Tryz.prog 97 #[.int .u64 (x : Int)] w fun e w' => e = .returned (.bool false) ∧ w = w' := by
  go_enter Tryz.func97, Tryz.ntmps97
  go_wp2
  go_ret
  exact ⟨rfl, rfl⟩

theorem Less_any (w : World) (x y : Nat) : Calls Tryz.prog 96 #[.int .u64 (x : Int), .int .u64 (y : Int)] w fun e w' => e = .returned (.bool (decide (x < y))) ∧ w = w' := by
  go_enter Tryz.func96, Tryz.ntmps96
  go_wp2_with (go_at_call 103; refine (isNaN_any _ _).mono ?_; rintro e w' ⟨rfl, rfl⟩)
  go_ret
  exact ⟨ret_bool (by simp), rfl⟩

end Go.Proofs.YtjepaneniodbpaaGreatDoor

/- slices.Clone at words and at bytes: the same elements in memory of the call's own. -/
namespace Go.Proofs.YtjepaneniodbpaaGreatDoor
open Go Go.RowKit

theorem E_u64 : ElemT Tryz.prog 44 25 (.int .u64 0) 1 8 := ElemT.mk' Tryz.underlying44 (by kernel_rfl) (by kernel_rfl) (by omega)
theorem E_u8 : ElemT Tryz.prog 28 5 (.int .u8 0) 1 1 := ElemT.mk' Tryz.underlying28 (by kernel_rfl) (by kernel_rfl) (by omega)
theorem E_bool : ElemT Tryz.prog 62 4 (.bool false) 1 1 := ElemT.mk' Tryz.underlying62 (by kernel_rfl) (by kernel_rfl) (by omega)

theorem oc_N (k : IntKind) (xs : List Nat) : ∀ u ∈ cN k xs, u.oneCell' = true := by
  intro u hu
  obtain ⟨x, _, rfl⟩ := List.mem_map.1 hu
  rfl
theorem oc_B (xs : List Bool) : ∀ u ∈ cB xs, u.oneCell' = true := by
  intro u hu
  obtain ⟨x, _, rfl⟩ := List.mem_map.1 hu
  rfl

theorem CloneB_any (w : World) (b : Nat) (A : Option Addr) (n c : Nat) (xs : List Nat) (hn : n = xs.length) (hm : n ≤ 140737488355328) (hr : Rd w b A (cN .u8 xs)) (hA : A = none → c = 0) :
    Calls Tryz.prog 47 #[.slice A n c] w fun e w' => ∃ b' A' c', e = .returned (.slice A' n c') ∧ Ow w' b' 5 1 A' n c' (cN .u8 xs) ∧ w.heap.size ≤ b' ∧ Nw w w' := by
  subst hn
  cases A with
  | none =>
    obtain rfl : xs = [] := by
      rcases hr with h | ⟨o, h, _⟩
      · simpa using h
      · cases h
    obtain rfl := hA rfl
    have hnil := fun W => Lib.run_eql_slice_nil (P := Tryz.prog) W 28 5 none 0 0 0 0 Tryz.underlying28
    go_enter Tryz.func47, Tryz.ntmps47
    go_wp2
    go_ret
    exact ⟨w.heap.size, none, 0, rfl, Ow.nil _ _ _ _, Nat.le_refl _, Nw.refl w⟩
  | some ad =>
    have hnil := fun W => Lib.run_eql_slice_nil (P := Tryz.prog) W 28 5 (some ad) xs.length c 0 0 Tryz.underlying28
    go_enter Tryz.func47, Tryz.ntmps47
    go_wp2_with (at_builtin; refine wpList_app E_u8 rfl (.tmp 5) (.tmp 6) rfl rfl (Ow.empty w _ _) rfl (hr.nw (Nw.alloc' (Nw.refl w) _)) (by simp) (by intro h; cases h) (oc_N _ _) (by simp only [maxLen]; omega) (by omega) ?_; intro b' A' c' w' h1 h2 h3 _)
    go_ret
    refine ⟨b', A', c', by simp, by simpa using h1, ?_, Kp.nw (Nw.alloc' (Nw.refl w) _) h3 (by simp) (by simp)⟩
    have := (Nw.alloc' (Nw.refl w) (.cells #[] 5)).size
    rcases h2 with h2 | h2 <;> omega

end Go.Proofs.YtjepaneniodbpaaGreatDoor

/- Walks of Equal at lists of words and of bools, of IsSorted and of bytes.Equal: they only read. -/
namespace Go.Proofs.YtjepaneniodbpaaGreatDoor
open Go Go.RowKit

section
variable {α : Type} (xs ys : List α) (k : Nat)
theorem take_eq_next (hx : k < xs.length) (hy : k < ys.length) (h : xs[k] = ys[k]) (he : xs.take k = ys.take k) : xs.take (k + 1) = ys.take (k + 1) := by
  rw [List.take_succ_eq_append_getElem hx, List.take_succ_eq_append_getElem hy, he, h]
theorem take_eq_all (hl : xs.length = ys.length) (hk : ¬ k < xs.length) (he : xs.take k = ys.take k) : xs = ys := by
  rw [← List.take_of_length_le (l := xs) (i := k) (by omega), he, List.take_of_length_le (by omega)]
theorem ne_of_at (hx : k < xs.length) (hy : k < ys.length) (h : ¬ xs[k] = ys[k]) : ¬ xs = ys := by
  rintro rfl
  exact h rfl
end

theorem bytesIn_of {w : World} {b : Nat} {A : Option Addr} {xs : List Nat} (h : Rd w b A (cN .u8 xs)) : Lib.BytesIn w A xs.length (xs.map fun x : Nat => (x : Int)) := by
  intro h0
  obtain ⟨o, rfl, hlt, _⟩ := h.get (k := 0) (by simpa using h0)
  refine ⟨b, o, rfl, fun i hi => ?_⟩
  obtain ⟨o', had, _, hc⟩ := h.get (k := i) (by simpa using hi)
  obtain rfl : o = o' := by simpa using had
  rw [hc, List.getElem_map]
  simp [List.getD, hi]
theorem bytesOf_inj (xs : List Nat) : ∀ (ys : List Nat), (∀ x ∈ xs, x < 256) → (∀ y ∈ ys, y < 256) →
    (Lib.bytesOf (xs.map fun x : Nat => (x : Int)) == Lib.bytesOf (ys.map fun x : Nat => (x : Int))) = decide (xs = ys) := by
  induction xs with
  | nil => intro ys _ _; cases ys <;> simp [Lib.bytesOf]
  | cons a l ih =>
    intro ys hx hy
    cases ys with
    | nil => simp [Lib.bytesOf]
    | cons a' l' =>
      have h1 : a < 256 := hx a (by simp)
      have h2 : a' < 256 := hy a' (by simp)
      have := ih l' (fun x h => hx x (by simp [h])) (fun x h => hy x (by simp [h]))
      have e : (UInt8.ofNat a == UInt8.ofNat a') = decide (a = a') := by
        rw [Bool.eq_iff_iff]
        simp only [beq_iff_eq, decide_eq_true_eq]
        constructor
        · intro h
          have := congrArg UInt8.toNat h
          simp [UInt8.toNat_ofNat'] at this
          omega
        · rintro rfl; rfl
      simp only [Lib.bytesOf, List.map_cons, List.map_map, Int.toNat_natCast, List.cons_beq_cons, e] at this ⊢
      rw [this]
      simp
theorem bytesEqual_any (w : World) (b b' : Nat) (A A' : Option Addr) (n c n' c' : Nat) (xs ys : List Nat) (hn : n = xs.length) (hn' : n' = ys.length)
    (hr : Rd w b A (cN .u8 xs)) (hr' : Rd w b' A' (cN .u8 ys)) (hx : ∀ x ∈ xs, x < 256) (hy : ∀ y ∈ ys, y < 256) :
    Calls Tryz.prog 9 #[.slice A n c, .slice A' n' c'] w fun e w' => e = .returned (.bool (decide (xs = ys))) ∧ w = w' := by
  refine (Tryz.bytes_Equal_all A A' n c n' c' (xs.map fun x : Nat => (x : Int)) (ys.map fun x : Nat => (x : Int)) w (by simp [hn]) (by simp [hn']) (by rw [hn]; exact bytesIn_of hr) (by rw [hn']; exact bytesIn_of hr')).mono ?_
  rintro e w' ⟨rfl, rfl⟩
  exact ⟨ret_bool (bytesOf_inj xs ys hx hy), rfl⟩

end Go.Proofs.YtjepaneniodbpaaGreatDoor
