/- Walks of Equal at lists of words and of bools, of IsSorted and of bytes.Equal: they only read. -/
import Derived.Test.YtbdpimnbjonhlaaFind
import Derived.Test.YtbdpimnbjonhlaaShelf
namespace Go.Proofs.Ytbdpimnbjonhlaa
open Go Go.RowKit

section
variable {α : Type} (xs ys : List α) (k : Nat)
theorem take_eq_next (hx : k < xs.length) (hy : k < ys.length) (h : xs[k] = ys[k]) (he : xs.take k = ys.take k) : xs.take (k + 1) = ys.take (k + 1) := by
  rw [List.take_succ_eq_append_getElem hx, List.take_succ_eq_append_getElem hy, he, h]
theorem take_eq_all (hl : xs.length = ys.length) (hk : ¬ k < xs.length) (he : xs.take k = ys.take k) : xs = ys := by
  rw [← List.take_of_length_le (l := xs) (i := k) (by omega), he, List.take_of_length_le (by omega)]
theorem ne_of_at (hx : k < xs.length) (hy : k < ys.length) (h : ¬ xs[k] = ys[k]) : ¬ xs = ys := by
  rintro rfl
  exact h rfl
end

theorem Equal_any (w : World) (b b' : Nat) (A A' : Option Addr) (n c n' c' : Nat) (xs ys : List Nat) (hn : n = xs.length) (hn' : n' = ys.length) (hm : n ≤ 9223372036854775807) (hm' : n' ≤ 9223372036854775807)
    (hr : Rd w b A (cN .u64 xs)) (hr' : Rd w b' A' (cN .u64 ys)) :
    Calls Try.prog 12 #[.slice A n c, .slice A' n' c'] w fun e w' => e = .returned (.bool (decide (xs = ys))) ∧ Dr w w' := by
  subst hn hn'
  by_cases hl : xs.length = ys.length
  · have hl1 : (((xs.length : Nat) : Int) != ((ys.length : Nat) : Int)) = false := by rw [bne_eq_false_iff_eq]; omega
    have HL := Lib.hid hl
    have hl2 : xs.length ≤ ys.length := by omega
    have hl3 : ys.length ≤ xs.length := by omega
    clear hl
    go_enter Try.func12, Try.ntmps12
    go_wp2
    go_loopw [13] (fun i wr => ∃ k : Nat, k ≤ xs.length ∧ i = .int .i64 k ∧ xs.take k = ys.take k ∧ Dr w wr) (fun i _ => xs.length - (intOf i).toNat)
    case atStart => exact ⟨0, by omega, rfl, by simp, Dr.refl _⟩
    case round =>
      obtain ⟨k, hk, rfl, he, hd⟩ := hrel
      have hr := hr.nw hd.nw
      have hr' := hr'.nw hd.nw
      have HE := Lib.hid he
      clear he
      by_cases hlt : k < xs.length
      · have hlt' : k < ys.length := by omega
        obtain ⟨o, rfl, _, hc⟩ := hr.get (k := k) (by simpa using hlt)
        obtain ⟨o', rfl, _, hc'⟩ := hr'.get (k := k) (by simpa using hlt')
        rw [List.getElem_map] at hc hc'
        have hi0 : (0 : Int) ≤ (k : Int) := by omega
        have hi1 : (k : Int) < (xs.length : Int) := by omega
        have hi2 : (k : Int) < (ys.length : Int) := by omega
        by_cases hx : ((xs[k] : Nat) : Int) = ((ys[k] : Nat) : Int)
        · have hx' : (((xs[k] : Nat) : Int) != ((ys[k] : Nat) : Int)) = false := by rw [bne_eq_false_iff_eq]; exact hx
          have HX := Lib.hid hx
          clear hx
          go_wp2
          go_quiet (fail)
          go_wp2
          go_roundw
          case rel => exact ⟨k + 1, by omega, by go_num, take_eq_next xs ys k hlt hlt' (by have := HX.out; omega) HE.out, hd.step _⟩
          case measure => simp [intOf]; omega
        · have hx' : (((xs[k] : Nat) : Int) != ((ys[k] : Nat) : Int)) = true := by rw [bne_iff_ne]; exact hx
          have HX := Lib.hid hx
          clear hx
          go_wp2
          go_quiet (fail)
          go_wp2
          go_ret
          exact ⟨ret_bool (by rw [eq_comm, decide_eq_false_iff_not]; exact ne_of_at xs ys k hlt hlt' (by have := HX.out; omega)), hd.step _⟩
      · go_wp2
        go_ret
        exact ⟨ret_bool (by rw [eq_comm, decide_eq_true_iff]; exact take_eq_all xs ys k HL.out hlt HE.out), hd⟩
  · have hl1 : (((xs.length : Nat) : Int) != ((ys.length : Nat) : Int)) = true := by rw [bne_iff_ne]; omega
    have HL := Lib.hid hl
    clear hl
    go_enter Try.func12, Try.ntmps12
    go_wp2
    go_ret
    exact ⟨ret_bool (by rw [eq_comm, decide_eq_false_iff_not]; rintro rfl; exact HL.out rfl), Dr.refl _⟩

theorem EqualB_any (w : World) (b b' : Nat) (A A' : Option Addr) (n c n' c' : Nat) (xs ys : List Bool) (hn : n = xs.length) (hn' : n' = ys.length) (hm : n ≤ 9223372036854775807) (hm' : n' ≤ 9223372036854775807)
    (hr : Rd w b A (cB xs)) (hr' : Rd w b' A' (cB ys)) :
    Calls Try.prog 22 #[.slice A n c, .slice A' n' c'] w fun e w' => e = .returned (.bool (decide (xs = ys))) ∧ Dr w w' := by
  subst hn hn'
  by_cases hl : xs.length = ys.length
  · have hl1 : (((xs.length : Nat) : Int) != ((ys.length : Nat) : Int)) = false := by rw [bne_eq_false_iff_eq]; omega
    have HL := Lib.hid hl
    have hl2 : xs.length ≤ ys.length := by omega
    have hl3 : ys.length ≤ xs.length := by omega
    clear hl
    go_enter Try.func22, Try.ntmps22
    go_wp2
    go_loopw [13] (fun i wr => ∃ k : Nat, k ≤ xs.length ∧ i = .int .i64 k ∧ xs.take k = ys.take k ∧ Dr w wr) (fun i _ => xs.length - (intOf i).toNat)
    case atStart => exact ⟨0, by omega, rfl, by simp, Dr.refl _⟩
    case round =>
      obtain ⟨k, hk, rfl, he, hd⟩ := hrel
      have hr := hr.nw hd.nw
      have hr' := hr'.nw hd.nw
      have HE := Lib.hid he
      clear he
      by_cases hlt : k < xs.length
      · have hlt' : k < ys.length := by omega
        obtain ⟨o, rfl, _, hc⟩ := hr.get (k := k) (by simpa using hlt)
        obtain ⟨o', rfl, _, hc'⟩ := hr'.get (k := k) (by simpa using hlt')
        rw [List.getElem_map] at hc hc'
        have hi0 : (0 : Int) ≤ (k : Int) := by omega
        have hi1 : (k : Int) < (xs.length : Int) := by omega
        have hi2 : (k : Int) < (ys.length : Int) := by omega
        cases hbx : xs[k] <;> cases hby : ys[k] <;> rw [hbx] at hc <;> rw [hby] at hc' <;> (have HX := Lib.hid hbx; have HY := Lib.hid hby; clear hbx hby)
        all_goals
          go_wp2
          go_quiet (fail)
          go_wp2
        · go_roundw
          case rel => exact ⟨k + 1, by omega, by go_num, take_eq_next xs ys k hlt hlt' (by rw [HX.out, HY.out]) HE.out, hd.step _⟩
          case measure => simp [intOf]; omega
        · go_ret
          exact ⟨ret_bool (by rw [eq_comm, decide_eq_false_iff_not]; exact ne_of_at xs ys k hlt hlt' (by rw [HX.out, HY.out]; simp)), hd.step _⟩
        · go_ret
          exact ⟨ret_bool (by rw [eq_comm, decide_eq_false_iff_not]; exact ne_of_at xs ys k hlt hlt' (by rw [HX.out, HY.out]; simp)), hd.step _⟩
        · go_roundw
          case rel => exact ⟨k + 1, by omega, by go_num, take_eq_next xs ys k hlt hlt' (by rw [HX.out, HY.out]) HE.out, hd.step _⟩
          case measure => simp [intOf]; omega
      · go_wp2
        go_ret
        exact ⟨ret_bool (by rw [eq_comm, decide_eq_true_iff]; exact take_eq_all xs ys k HL.out hlt HE.out), hd⟩
  · have hl1 : (((xs.length : Nat) : Int) != ((ys.length : Nat) : Int)) = true := by rw [bne_iff_ne]; omega
    have HL := Lib.hid hl
    clear hl
    go_enter Try.func22, Try.ntmps22
    go_wp2
    go_ret
    exact ⟨ret_bool (by rw [eq_comm, decide_eq_false_iff_not]; rintro rfl; exact HL.out rfl), Dr.refl _⟩



theorem bytesIn_of {w : World} {b : Nat} {A : Option Addr} {xs : List Nat} (h : Rd w b A (cN .u8 xs)) : Lib.BytesIn w A xs.length (xs.map fun x : Nat => (x : Int)) := by
  intro h0
  obtain ⟨o, rfl, hlt, _⟩ := h.get (k := 0) (by simpa using h0)
  refine ⟨b, o, rfl, fun i hi => ?_⟩
  obtain ⟨o', had, _, hc⟩ := h.get (k := i) (by simpa using hi)
  obtain rfl : o = o' := by simpa using had
  rw [hc, List.getElem_map]
  simp [List.getD, hi]
theorem bytesOf_inj (xs : List Nat) : ∀ (ys : List Nat), (∀ x ∈ xs, x < 256) → (∀ y ∈ ys, y < 256) →
    (Lib.bytesOf (xs.map fun x : Nat => (x : Int)) == Lib.bytesOf (ys.map fun x : Nat => (x : Int))) = decide (xs = ys) := by
  induction xs with
  | nil => intro ys _ _; cases ys <;> simp [Lib.bytesOf]
  | cons a l ih =>
    intro ys hx hy
    cases ys with
    | nil => simp [Lib.bytesOf]
    | cons a' l' =>
      have h1 : a < 256 := hx a (by simp)
      have h2 : a' < 256 := hy a' (by simp)
      have := ih l' (fun x h => hx x (by simp [h])) (fun x h => hy x (by simp [h]))
      have e : (UInt8.ofNat a == UInt8.ofNat a') = decide (a = a') := by
        rw [Bool.eq_iff_iff]
        simp only [beq_iff_eq, decide_eq_true_eq]
        constructor
        · intro h
          have := congrArg UInt8.toNat h
          simp [UInt8.toNat_ofNat'] at this
          omega
        · rintro rfl; rfl
      simp only [Lib.bytesOf, List.map_cons, List.map_map, Int.toNat_natCast, List.cons_beq_cons, e] at this ⊢
      rw [this]
      simp
theorem bytesEqual_any (w : World) (b b' : Nat) (A A' : Option Addr) (n c n' c' : Nat) (xs ys : List Nat) (hn : n = xs.length) (hn' : n' = ys.length)
    (hr : Rd w b A (cN .u8 xs)) (hr' : Rd w b' A' (cN .u8 ys)) (hx : ∀ x ∈ xs, x < 256) (hy : ∀ y ∈ ys, y < 256) :
    Calls Try.prog 27 #[.slice A n c, .slice A' n' c'] w fun e w' => e = .returned (.bool (decide (xs = ys))) ∧ w = w' := by
  refine (Try.bytes_Equal_all A A' n c n' c' (xs.map fun x : Nat => (x : Int)) (ys.map fun x : Nat => (x : Int)) w (by simp [hn]) (by simp [hn']) (by rw [hn]; exact bytesIn_of hr) (by rw [hn']; exact bytesIn_of hr')).mono ?_
  rintro e w' ⟨rfl, rfl⟩
  exact ⟨ret_bool (bytesOf_inj xs ys hx hy), rfl⟩

theorem IsSorted_any (w : World) (b : Nat) (A : Option Addr) (n c : Nat) (xs : List Nat) (hn : n = xs.length) (hm : n ≤ 9223372036854775807) (hr : Rd w b A (cN .u64 xs)) (hs : xs.Pairwise (· < ·)) :
    Calls Try.prog 35 #[.slice A n c] w fun e w' => e = .returned (.bool true) ∧ Dr w w' := by
  subst hn
  have HS := Lib.hid hs
  clear hs
  go_enter Try.func35, Try.ntmps35
  go_wp2
  go_loopw [3] (fun i wr => ∃ k : Int, k < xs.length ∧ -1 ≤ k ∧ i = .int .i64 k ∧ Dr w wr) (fun i _ => (intOf i + 1).toNat)
  case atStart => exact ⟨(xs.length : Int) - 1, by omega, by omega, rfl, Dr.refl _⟩
  case round =>
    obtain ⟨k, hk, hk0, rfl, hd⟩ := hrel
    have hr := hr.nw hd.nw
    by_cases hlt : 0 < k
    · obtain ⟨j, rfl⟩ : ∃ j : Nat, k = (j : Int) + 1 := ⟨(k - 1).toNat, by omega⟩
      have hj1 : j + 1 < xs.length := by omega
      have hj : j < xs.length := by omega
      obtain ⟨o, rfl, _, hc⟩ := hr.get (k := j) (by simpa using hj)
      obtain ⟨o', had, _, hc'⟩ := hr.get (k := j + 1) (by simpa using hj1)
      obtain rfl : o = o' := by simpa using had
      rw [List.getElem_map] at hc hc'
      have hlt2 : xs[j] < xs[j + 1] := List.pairwise_iff_getElem.1 HS.out j (j + 1) hj hj1 (by omega)
      have hlt3 : ¬ xs[j + 1] < xs[j] := by omega
      clear hlt2
      have i0 : (0 : Int) ≤ (j : Int) + 1 := by omega
      have i1 : (j : Int) + 1 < (xs.length : Int) := by omega
      have i2 : ((j : Int) + 1).toNat = j + 1 := by omega
      have i3 : (0 : Int) ≤ (j : Int) := by omega
      have i4 : (j : Int) < (xs.length : Int) := by omega
      have e1 : IntKind.i64.wrap (j : Int) = (j : Int) := IntWalk.i64_in _ (by omega)
      go_wp2
      go_quiet ((go_at_call 48; exact Calls.quiet_of_same ((Less_any _ _ _).mono fun _ _ h => ⟨h.1, h.2.symm⟩)))
      go_wp2
      go_roundw
      case rel => exact ⟨(j : Int), by omega, by omega, rfl, hd.step _⟩
      case measure => simp [intOf]; omega
    · go_wp2
      go_ret
      exact ⟨rfl, hd⟩

end Go.Proofs.Ytbdpimnbjonhlaa
