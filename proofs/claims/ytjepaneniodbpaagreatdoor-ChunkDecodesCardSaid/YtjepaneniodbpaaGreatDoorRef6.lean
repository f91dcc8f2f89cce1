/- The reference of xorval: zeros, inside, Put. -/
import Derived.Test.YtjepaneniodbpaaGreatDoorRef1
import Derived.Test.YtjepaneniodbpaaGreatDoorEq
import Derived.Test.YtjepaneniodbpaaGreatDoorXorLaw
import Derived.BigQuiet
import Derived.Deep.AppendLies
namespace Go.Proofs.YtjepaneniodbpaaGreatDoor
open Go Go.RowKit

/-- Write with its arguments as they come -/
theorem Write_int (w : World) (b : Nat) (A : Option Addr) (m c : Nat) (bs : List Bool) (X N : Int) (x n : Nat) (hX : X = (x : Int)) (hN : N = (n : Int)) (hO : Ow w b 4 1 A m c (cB bs)) (hn : n ≤ 64) (hx : x < 18446744073709551616) (hs : m + n ≤ 1099511627776) :
    Calls Tryz.prog 52 #[.slice A m c, .int .u64 X, .int .i64 N] w fun e w' =>
      ∃ b' A' c', e = .returned (.slice A' (m + n) c') ∧ Ow w' b' 4 1 A' (m + n) c' (cB (bs ++ bitsOf x n)) ∧ (b' = b ∨ w.heap.size ≤ b') ∧ Kp b b w w' ∧ (A = none → Nw w w' ∧ (w.heap.size ≤ b' ∨ A' = none)) := by
  subst hX hN
  exact Write_any w b A m c bs x n hO hn hx hs

/-- append of two elements of one cell -/
theorem wpList_app2 {P : Program} {w : World} {b : Nat} {e : TypeId} {n c : Nat} {A : Option Addr} {xs : List Value} {ops : Array Oper} {rest : List Oper} {o : Oper} {a : Act} {Q : Exit → Act → World → Prop} {t : TypeId} {z : Value} {bytes : Nat} (E : ElemT P t e z 1 bytes) (hgd : o.guard = none) (s x : Operand)
    (ho : o.op = .call { callee := .builtin .append, args := #[s, x], argTypes := #[t, t] })
    (hs : a.eval s = .slice A n c) (hown : Ow w b e 1 A n c xs) {u v : Value} (hx : a.eval x = .slice (some ⟨w.heap.size, 0, none⟩) 2 2) (h1 : u.oneCell' = true) (h1' : v.oneCell' = true)
    (hbytes : (n + 2) * bytes ≤ 140737488355328) (hby0 : 0 < bytes)
    (h : ∀ b' A' c' w', Ow w' b' e 1 A' (n + 2) c' (xs ++ [u, v]) → (b' = b ∨ w.heap.size ≤ b') → Kp b b w w' → (A = none → Nw w w' ∧ w.heap.size ≤ b') → wpList P ops Q rest (a.put o.dst (.slice A' (n + 2) c')) w') :
    wpList P ops Q (o :: rest) a (w.alloc (.cells #[u, v] e)) := by
  have hn : n + 2 ≤ 140737488355328 := Nat.le_trans (Nat.le_mul_of_pos_right _ hby0) hbytes
  have hnw : Nw w (w.alloc (.cells #[u, v] e)) := Nw.alloc' (Nw.refl w) _
  refine wpList_app E hgd s x ho hs (hown.nw hnw) (b2 := w.heap.size) (news := [u, v]) hx (.inr ⟨0, rfl, by simp, fun j v' hj => ?_⟩) (by simp) (by simp) (by intro v' hv; simp at hv; rcases hv with rfl | rfl; exact h1; exact h1')
    (by simp only [maxLen]; omega) hbytes ?_
  · have hb : (w.alloc (.cells #[u, v] e)).heap[w.heap.size]? = some (.cells #[u, v] e (0, 0)) := heap_alloc_new w _
    have := World.news_of_block hb j v' (by simpa using hj)
    rwa [add_lit'] at this
  · intro b' A' c' w' h2 h3 h4 h4n
    have h5 := h4.size
    have h6 := hnw.size
    refine h b' A' c' w' h2 (by rcases h3 with h3 | h3; exact .inl h3; right; omega) ?_ ?_
    · exact (hnw.kp b b).trans h4 (.inl rfl) (.inl rfl)
    · refine fun e => ⟨Nw.trans hnw (h4n e).1, ?_⟩
      rcases (h4n e).2 with h7 | rfl
      · omega
      · rcases h2 with ⟨_, h8, _⟩ | ⟨h8, _⟩
        · omega
        · cases h8

theorem bit64 (x i : Nat) (h : i < 64) : (bitsOf x 64)[i]'(by rw [bitsOf_length]; exact h) = decide (x / 2 ^ (63 - i) % 2 = 1) := bitsOf_get x 64 i (by rw [bitsOf_length]; exact h)
theorem lead_lt {x k : Nat} (h0 : x ≠ 0) (hx : x < 18446744073709551616) (hk : k < lz x) : decide (x / 2 ^ (63 - k) % 2 = 1) = false := by
  obtain ⟨h1, h2, h3⟩ := lz_spec h0 hx
  have : 2 ^ (64 - lz x) ≤ 2 ^ (63 - k) := Nat.pow_le_pow_right (by omega) (by omega)
  rw [Nat.div_eq_of_lt (by omega)]
  rfl
theorem lead_at {x : Nat} (h0 : x ≠ 0) (hx : x < 18446744073709551616) : decide (x / 2 ^ (63 - lz x) % 2 = 1) = true := by
  obtain ⟨h1, h2, h3⟩ := lz_spec h0 hx
  have e : 2 ^ (64 - lz x) = 2 ^ (63 - lz x) * 2 := by rw [← Nat.pow_succ]; congr 1; omega
  have : x / 2 ^ (63 - lz x) = 1 := by
    rw [Nat.div_eq_iff (Nat.pow_pos (by omega))]
    generalize 2 ^ (63 - lz x) = p at *
    omega
  rw [this]; rfl
theorem trail_lt {x k : Nat} (h0 : x ≠ 0) (hx : x < 18446744073709551616) (hk : k < tz x) : decide (x / 2 ^ k % 2 = 1) = false := by
  obtain ⟨m, h1, h2⟩ := tz_spec h0 hx
  have e : x / 2 ^ k = 2 * (2 ^ (tz x - k - 1) * (2 * m + 1)) := by
    have : x = 2 ^ k * (2 * (2 ^ (tz x - k - 1) * (2 * m + 1))) := by
      rw [← Nat.mul_assoc 2, ← Nat.pow_succ', ← Nat.mul_assoc, ← Nat.pow_add, show k + (tz x - k - 1 + 1) = tz x from by omega]
      exact h1
    conv => lhs; rw [this]
    rw [Nat.mul_div_cancel_left _ (Nat.pow_pos (by omega))]
  rw [e, Nat.mul_mod_right]
  rfl
theorem trail_at {x : Nat} (h0 : x ≠ 0) (hx : x < 18446744073709551616) : decide (x / 2 ^ tz x % 2 = 1) = true := by
  obtain ⟨m, h1, h2⟩ := tz_spec h0 hx
  have e : x / 2 ^ tz x = 2 * m + 1 := by
    conv => lhs; lhs; rw [h1]
    rw [Nat.mul_div_cancel_left _ (Nat.pow_pos (by omega))]
  rw [e, decide_eq_true_iff]
  omega

theorem zeros_any (w : World) (x : Nat) (h0 : x ≠ 0) (hx : x < 18446744073709551616) :
    Calls Tryz.prog 79 #[.int .u64 (x : Int)] w fun e w' => e = .returned (.tuple #[.int .i64 (lz x : Int), .int .i64 (tz x : Int)]) ∧ Nw w w' := by
  have HW := Lib.hid (Write_any w 0 none 0 0 [] x 64 (Ow.nil _ _ _ _) (by omega) hx (by omega))
  have hl := (lz_spec h0 hx).1
  have ht := (tz_spec h0 hx).choose_spec.2
  have L1 := Lib.hid fun (k : Nat) (hk : k < lz x) => lead_lt h0 hx hk
  have L2 := Lib.hid (lead_at h0 hx)
  have L3 := Lib.hid fun (k : Nat) (hk : k < tz x) => trail_lt h0 hx hk
  have L4 := Lib.hid (trail_at h0 hx)
  generalize lz x = p at *
  generalize tz x = q at *
  clear h0 hx
  go_enter Tryz.func79, Tryz.ntmps79
  go_wp2_with (go_at_call 52; refine HW.out.mono ?_; rintro e w1 ⟨b1, A1, c1, rfl, h1, _, _, h2⟩)
  have hN := (h2 trivial).1
  have hr := h1.rd
  rw [List.nil_append] at hr
  have HL := Lib.hid (bitsOf_length x 64)
  clear h1 h2
  go_loop [5] (fun i => ∃ k : Nat, k ≤ p ∧ i = .int .i64 k) (fun i => p - (intOf i).toNat)
  case atStart => exact ⟨0, by omega, rfl⟩
  case round =>
    obtain ⟨k, hk, rfl⟩ := hrel
    obtain ⟨o, rfl, _, hc⟩ := hr.get (k := k) (by rw [List.length_map, HL.out]; omega)
    rw [List.getElem_map, bit64 x k (by omega)] at hc
    by_cases hlt : k < p
    · rw [L1.out k hlt] at hc
      go_wp2
      go_round
      case rel => exact ⟨k + 1, by omega, by go_num⟩
      case measure => simp [intOf]; omega
    · obtain rfl : k = p := by omega
      rw [L2.out] at hc
      go_wp2
      clear hc
      go_loop [6] (fun i => ∃ k : Nat, k ≤ q ∧ i = .int .i64 k) (fun i => q - (intOf i).toNat)
      case atStart => exact ⟨0, by omega, rfl⟩
      case round =>
        obtain ⟨j, hj, rfl⟩ := hrel
        obtain ⟨o2, e2, _, hc⟩ := hr.get (k := 63 - j) (by rw [List.length_map, HL.out]; omega)
        obtain rfl : o2 = o := by injection e2 with e2; injection e2 with _ e2 _; exact e2.symm
        rw [List.getElem_map, bit64 x _ (by omega), show 63 - (63 - j) = j from by omega] at hc
        have i0 : (0 : Int) ≤ 63 - (j : Int) := by omega
        have i1 : 63 - (j : Int) < 64 := by omega
        have i2 : (63 - (j : Int)).toNat = 63 - j := by omega
        by_cases hlt2 : j < q
        · rw [L3.out j hlt2] at hc
          go_wp2
          go_round
          case rel => exact ⟨j + 1, by omega, by go_num⟩
          case measure => simp [intOf]; omega
        · obtain rfl : j = q := by omega
          rw [L4.out] at hc
          go_wp2
          go_ret2
          exact ⟨rfl, hN⟩

theorem inside_any (w : World) (x t q : Nat) (hx : x < 18446744073709551616) (ht : t ≤ 64) (hq : q = x / 2 ^ t) :
    Calls Tryz.prog 80 #[.int .u64 (x : Int), .int .i64 (t : Int)] w fun e w' => e = .returned (.int .u64 (q : Int)) ∧ w = w' := by
  have HQ := Lib.hid hq
  clear hq
  go_enter Tryz.func80, Tryz.ntmps80
  go_wp2
  go_loop [0, 5] (fun y i => ∃ k : Nat, k ≤ t ∧ i = .int .i64 k ∧ ∃ z : Nat, z < 18446744073709551616 ∧ y = .int .u64 (z : Int) ∧ Hid (z = x / 2 ^ k)) (fun _ i => t - (intOf i).toNat)
  case atStart => exact ⟨0, by omega, rfl, x, hx, rfl, Lib.hid (by simp)⟩
  case round =>
    obtain ⟨k, hk, rfl, z, hz, rfl, HZ⟩ := hrel
    by_cases hlt : k < t
    · go_wp2
      go_round
      case rel => exact ⟨k + 1, by omega, by go_num, z / 2, by omega, by go_num, Lib.hid (by rw [HZ.out, Nat.pow_succ, Nat.div_div_eq_div_mul])⟩
      case measure => simp [intOf]; omega
    · obtain rfl : k = t := by omega
      obtain rfl : z = q := by rw [HZ.out, HQ.out]
      go_wp2
      go_ret
      exact ⟨rfl, rfl⟩

/-! ### Put -/
def leadOf : Win → Int
  | none => -1
  | some ab => ab.1
def trailOf : Win → Int
  | none => 0
  | some ab => ab.2
/-- the first k values have been written: these bits, this window -/
def XRel (l : List Nat) (k : Nat) (pre : List Bool) (win : Win) : Prop :=
  WinOk win ∧ pre.length ≤ 78 * k ∧ ((k = 0 ∧ pre = [] ∧ win = none) ∨ ∃ last, 0 < k ∧ l[k - 1]? = some last ∧ xput l = pre ++ xputF last win (l.drop k))
theorem xword_len6 (win : Win) (x : Nat) : (xword win x).1.length ≤ 78 := by
  unfold xword
  split
  · split <;> simp [bitsOf_length] <;> omega
  · simp [bitsOf_length]; omega
theorem XRel.start (l : List Nat) : XRel l 0 [] none := ⟨trivial, by simp, .inl ⟨rfl, rfl, rfl⟩⟩
theorem XRel.first {l : List Nat} {v : Nat} {pre : List Bool} {win : Win} (h : XRel l 0 pre win) (hv : l[0]? = some v) : XRel l 1 (pre ++ bitsOf v 64) win := by
  obtain ⟨h1, h2, h3⟩ := h
  rcases h3 with ⟨_, rfl, rfl⟩ | ⟨_, h, _⟩
  · refine ⟨trivial, by simp [bitsOf_length], .inr ⟨v, by omega, hv, ?_⟩⟩
    cases l with
    | nil => simp at hv
    | cons x l =>
      obtain rfl : x = v := by simpa using hv
      rfl
  · omega
theorem XRel.next {l : List Nat} {k v last : Nat} {pre : List Bool} {win : Win} (h : XRel l k pre win) (hk : 0 < k) (hv : l[k]? = some v) (hl : l[k - 1]? = some last) (hv' : v < 18446744073709551616) (hl' : last < 18446744073709551616) :
    XRel l (k + 1) (pre ++ (xstep last win v).1) (xstep last win v).2 := by
  obtain ⟨h1, h2, h3⟩ := h
  have hlen : (xstep last win v).1.length ≤ 78 := by
    unfold xstep
    split
    · simp
    · exact xword_len6 _ _
  rcases h3 with ⟨h, _⟩ | ⟨last', _, h4, h5⟩
  · omega
  · obtain rfl : last' = last := by rw [hl] at h4; exact (Option.some.inj h4).symm
    refine ⟨?_, by rw [List.length_append]; omega, .inr ⟨v, by omega, by simpa using hv, ?_⟩⟩
    · unfold xstep
      split
      · exact h1
      · rename_i h0
        have := lz_tz h0 (xor_lt64 hv' hl')
        unfold xword
        split
        · split
          · exact h1
          · exact this
        · exact this
    · obtain ⟨hlt, e⟩ := List.getElem?_eq_some_iff.1 hv
      rw [h5, List.append_assoc]
      congr 1
      rw [List.drop_eq_getElem_cons hlt, e]
      rfl
theorem XRel.done {l : List Nat} {pre : List Bool} {win : Win} (h : XRel l l.length pre win) : xput l = pre := by
  obtain ⟨_, _, h3⟩ := h
  rcases h3 with ⟨h0, rfl, _⟩ | ⟨last, _, _, h5⟩
  · rw [List.eq_nil_of_length_eq_zero h0]; rfl
  · rw [h5, List.drop_length]; simp [xputF]

/-- what a call leaves that appends bits -/
def AppR (w : World) (b : Nat) (A : Option Addr) (m : Nat) (bs X : List Bool) (e : Ending) (w' : World) : Prop :=
  ∃ b' A' c', e = .returned (.slice A' (m + X.length) c') ∧ Ow w' b' 4 1 A' (m + X.length) c' (cB (bs ++ X)) ∧ (b' = b ∨ w.heap.size ≤ b') ∧ Kp b b w w' ∧ (A = none → Nw w w' ∧ (w.heap.size ≤ b' ∨ A' = none))
/-- on the way: the bits X lie behind bs -/
structure Bst (w : World) (b : Nat) (A : Option Addr) (m : Nat) (bs : List Bool) (wr : World) (bk : Nat) (Ak : Option Addr) (M ck : Nat) (X : List Bool) : Prop where
  len : M = m + X.length
  ow : Ow wr bk 4 1 Ak M ck (cB (bs ++ X))
  at_ : bk = b ∨ w.heap.size ≤ bk
  kp : Kp b b w wr
  nn : A = none → Nw w wr ∧ (w.heap.size ≤ bk ∨ Ak = none)
section
variable {w : World} {b : Nat} {A : Option Addr} {m c : Nat} {bs : List Bool} {wr : World} {bk : Nat} {Ak : Option Addr} {M ck : Nat} {X : List Bool}
theorem Bst.start (hO : Ow w b 4 1 A m c (cB bs)) : Bst w b A m bs w b A m c [] :=
  ⟨rfl, by simpa using hO, .inl rfl, Kp.refl _ _ _, fun e => ⟨Nw.refl _, .inr e⟩⟩
theorem Bst.nw {w' : World} (h : Bst w b A m bs wr bk Ak M ck X) (hN : Nw wr w') : Bst w b A m bs w' bk Ak M ck X :=
  ⟨h.len, h.ow.nw hN, h.at_, h.kp.nw' hN, fun e => ⟨(h.nn e).1.trans hN, (h.nn e).2⟩⟩
theorem Bst.step {w1 : World} {b1 : Nat} {A1 : Option Addr} {M1 c1 : Nat} {Y : List Bool} (h : Bst w b A m bs wr bk Ak M ck X) (h4 : Ow w1 b1 4 1 A1 M1 c1 (cB (bs ++ X) ++ cB Y)) (hM : M1 = M + Y.length) (h5 : b1 = bk ∨ wr.heap.size ≤ b1)
    (h6 : Kp bk bk wr w1) (h6n : Ak = none → Nw wr w1 ∧ (wr.heap.size ≤ b1 ∨ A1 = none)) : Bst w b A m bs w1 b1 A1 M1 c1 (X ++ Y) := by
  have hs := h.kp.size
  have h1 := h.at_
  refine ⟨by rw [hM, h.len, List.length_append, Nat.add_assoc], ?_, by omega, h.kp.trans h6 (by omega) (by omega), nn_step h.nn h5 h6 h6n⟩
  rw [← List.append_assoc]
  simpa using h4
theorem Bst.app {w1 : World} {b1 : Nat} {A1 : Option Addr} {M1 c1 : Nat} {Y : List Bool} (h : Bst w b A m bs wr bk Ak M ck X) (h4 : Ow w1 b1 4 1 A1 M1 c1 (cB (bs ++ X) ++ cB Y)) (hM : M1 = M + Y.length) (h5 : b1 = bk ∨ wr.heap.size ≤ b1)
    (h6 : Kp bk bk wr w1) (h6n : Ak = none → Nw wr w1 ∧ wr.heap.size ≤ b1) : Bst w b A m bs w1 b1 A1 M1 c1 (X ++ Y) :=
  h.step h4 hM h5 h6 fun e => ⟨(h6n e).1, .inl (h6n e).2⟩
theorem Bst.write (h : Bst w b A m bs wr bk Ak M ck X) (XI NI : Int) (x n : Nat) (hX : XI = (x : Int)) (hN : NI = (n : Int)) (hn : n ≤ 64) (hx : x < 18446744073709551616) (hs : M + n ≤ 1099511627776) :
    Calls Tryz.prog 52 #[.slice Ak M ck, .int .u64 XI, .int .i64 NI] wr fun e w' => ∃ b' A' c', e = .returned (.slice A' (M + n) c') ∧ Bst w b A m bs w' b' A' (M + n) c' (X ++ bitsOf x n) := by
  refine (Write_int wr bk Ak M ck _ XI NI x n hX hN h.ow hn hx hs).mono ?_
  rintro e w' ⟨b', A', c', rfl, h4, h5, h6, h7⟩
  exact ⟨b', A', c', rfl, h.step (by simpa using h4) (by rw [bitsOf_length]) h5 h6 h7⟩
theorem Bst.done (h : Bst w b A m bs wr bk Ak M ck X) : AppR w b A m bs X (.returned (.slice Ak M ck)) wr := by
  obtain ⟨rfl, h2, h3, h4, h5⟩ := h
  exact ⟨bk, Ak, ck, rfl, h2, h3, h4, h5⟩
end

theorem xword_new {win : Win} {x : Nat} (hf : ¬ fits win x) :
    xword win x = ([true, true] ++ bitsOf (lz x) 6 ++ bitsOf (63 - lz x - tz x) 6 ++ bitsOf (x / 2 ^ tz x) (64 - lz x - tz x), some (lz x, tz x)) := by
  unfold xword
  split
  · split
    · rename_i h; exact absurd h hf
    · rfl
  · rfl

set_option maxRecDepth 100000 in
set_option maxHeartbeats 1600000 in
theorem RXPut_any (w : World) (b bl : Nat) (A Al : Option Addr) (m c n cl : Nat) (bs : List Bool) (l : List Nat) (hO : Ow w b 4 1 A m c (cB bs)) (hn : n = l.length) (hm : n ≤ 10000) (hb : m ≤ 1000000000) (hne : bl ≠ b)
    (hr : Rd w bl Al (cN .u64 l)) (hx : ∀ x ∈ l, x < 18446744073709551616) :
    Calls Tryz.prog 49 #[.slice A m c, .slice Al n cl] w (AppR w b A m bs (xput l)) := by
  subst hn
  have HO := Lib.hid hO
  have HR := Lib.hid hr
  have HX := Lib.hid fun (k v : Nat) (h : l[k]? = some v) => hx v (List.mem_of_getElem? h)
  clear hO hr hx
  go_enter Tryz.func49, Tryz.ntmps49
  go_wp2
  go_loopw [0, 5, 6, 7] (fun s ld tr i wr => ∃ k : Nat, k ≤ l.length ∧ i = .int .i64 k ∧ ∃ (pre : List Bool) (win : Win) (M bk : Nat) (Ak : Option Addr) (ck : Nat), s = .slice Ak M ck ∧ ld = .int .i64 (leadOf win) ∧ tr = .int .i64 (trailOf win) ∧
      Hid (Bst w b A m bs wr bk Ak M ck pre) ∧ Hid (XRel l k pre win)) (fun _ _ _ i _ => l.length - (intOf i).toNat)
  case atStart => exact ⟨0, by omega, rfl, [], none, m, b, A, c, rfl, rfl, rfl, Lib.hid (Bst.start HO.out), Lib.hid (XRel.start l)⟩
  case round =>
    obtain ⟨k, hk, rfl, pre, win, M, bk, Ak, ck, rfl, rfl, rfl, HS, hrel⟩ := hrel
    have hK := HS.out.kp
    have hsk := hK.size
    have hpl : pre.length ≤ 780000 := by have := hrel.out.2.1; omega
    have hMb : M ≤ m + 780000 := by have := HS.out.len; omega
    by_cases hlt : k < l.length
    · have hRl : Rd wr bl Al (cN .u64 l) := HR.out.kp hK hne hne
      have HRL := Lib.hid hRl
      obtain ⟨o, rfl, _, hc⟩ := hRl.get (k := k) (by simpa using hlt)
      rw [List.getElem_map] at hc
      have HV := Lib.hid (List.getElem?_eq_getElem hlt)
      generalize l[k] = v at *
      have hv : v < 18446744073709551616 := HX.out k v HV.out
      clear hRl hK
      by_cases hk0 : k = 0
      · subst hk0
        rw [Nat.add_zero] at hc
        have i0 : (0 : Int) < (l.length : Int) := by omega
        go_wp2_with (go_at_call 52; refine (HS.out.write _ _ v 64 rfl rfl (by omega) hv (by omega)).mono ?_; rintro e w3 ⟨b3, A3, c3, rfl, h4⟩; have H4 := Lib.hid h4; clear h4)
        go_roundw
        case rel => exact ⟨1, by omega, by go_num, _, win, _, b3, A3, c3, rfl, rfl, rfl, H4, Lib.hid (hrel.out.first HV.out)⟩
        case measure => simp [intOf]; omega
      · obtain ⟨o', e', _, hcl⟩ := HRL.out.get (k := k - 1) (by simp; omega)
        obtain rfl : o' = o := by injection e' with e'; injection e' with _ e' _; exact e'.symm
        rw [List.getElem_map] at hcl
        have HL := Lib.hid (List.getElem?_eq_getElem (l := l) (i := k - 1) (by omega))
        generalize l[k - 1] = last at *
        have hl : last < 18446744073709551616 := HX.out _ last HL.out
        have HN := Lib.hid (hrel.out.next (by omega) HV.out HL.out hv hl)
        have hxor := u64_xor_nat v last hv hl
        have hxl := xor_lt64 hv hl
        have i0 : (0 : Int) ≤ (k : Int) - 1 := by omega
        have i1 : (k : Int) - 1 < (l.length : Int) := by omega
        have i2 : ((k : Int) - 1).toNat = k - 1 := by omega
        have hk0' : ((k : Int) == 0) = false := by rw [beq_eq_false_iff_ne]; omega
        have HST := Lib.hid (show xstep last win v = if v ^^^ last = 0 then ([false], win) else xword win (v ^^^ last) from rfl)
        have HW := Lib.hid hrel.out.1
        generalize v ^^^ last = x at *
        go_wp2_with fail
        go_quiet (fail)
        generalize hwq : World.drewN wr _ = wq
        have HSq := Lib.hid (show Bst w b A m bs wq bk Ak M ck pre from by rw [← hwq]; exact HS.out.nw (Nw.drewN _ _))
        clear hwq hc hcl HS HRL
        by_cases hx0 : x = 0
        · subst hx0
          have hst := HST.out
          rw [if_pos rfl] at hst
          have hn := HN.out
          rw [hst] at hn
          have HN2 := Lib.hid hn
          clear hst HN HST hn
          go_wp2_with (at_builtin; refine wpList_app1 E_bool rfl (.tmp 36) (.tmp 37) rfl rfl HSq.out.ow rfl rfl (by omega) (by omega) ?_; intro b3 A3 c3 w3 h4 h5 h6 h6n; have H4 := Lib.hid (HSq.out.app (Y := [false]) h4 rfl h5 h6 h6n); clear h4 h5 h6 h6n)
          go_roundw
          case rel => exact ⟨k + 1, by omega, by go_num, _, win, _, b3, A3, c3, rfl, rfl, rfl, H4, HN2⟩
          case measure => simp [intOf]; omega
        · have hst := HST.out
          rw [if_neg hx0] at hst
          have hx0' : ((x : Int) == 0) = false := by rw [beq_eq_false_iff_ne]; omega
          have HZ := Lib.hid fun W => zeros_any W x hx0 hxl
          have hlt2 := lz_tz hx0 hxl
          by_cases hf : fits win x
          · obtain ⟨a, t, rfl⟩ : ∃ a t, win = some (a, t) := by
              cases win with
              | none => exact hf.elim
              | some ab => exact ⟨ab.1, ab.2, rfl⟩
            have hf1 : a ≤ lz x := hf.1
            have hf2 : t ≤ tz x := hf.2
            rw [show xword (some (a, t)) x = ([true, false] ++ bitsOf (x / 2 ^ t) (64 - a - t), some (a, t)) from if_pos hf] at hst
            have hn := HN.out
            rw [hst] at hn
            have HN2 := Lib.hid hn
            have hab : a + t ≤ 63 := HW.out
            clear hst HN HST hn hf
            have hy : x / 2 ^ t ≤ x := Nat.div_le_self _ _
            generalize hyy : x / 2 ^ t = y at *
            have HY := Lib.hid hyy.symm
            generalize lz x = p at *
            generalize tz x = q at *
            have g1 : (a : Int) ≤ (p : Int) := by omega
            have g2 : (t : Int) ≤ (q : Int) := by omega
            have g3 : leadOf (some (a, t)) = (a : Int) := rfl
            have g4 : trailOf (some (a, t)) = (t : Int) := rfl
            rw [g3, g4]
            clear hyy g3 g4
            go_wp2_with (first
              | (go_at_call 79; refine (HZ.out _).mono ?_; rintro e w2 ⟨rfl, hN2⟩; have HS2 := Lib.hid (HSq.out.nw hN2); clear hN2)
              | (at_builtin; refine wpList_app2 E_bool rfl (.tmp 56) (.tmp 57) rfl rfl HS2.out.ow rfl rfl rfl (by omega) (by omega) ?_; intro b3 A3 c3 w3 h4 h5 h6 h6n; have HS3 := Lib.hid (HS2.out.app (Y := [true, false]) h4 rfl h5 h6 h6n); clear h4 h5 h6 h6n)
              | (go_at_call 80; refine (inside_any _ x t y hxl (by omega) HY.out).mono ?_; rintro e w4 ⟨rfl, hw4⟩; subst hw4)
              | (go_at_call 52; refine (HS3.out.write _ _ y (64 - a - t) rfl (by omega) (by omega) (by omega) (by omega)).mono ?_; rintro e w5 ⟨b5, A5, c5, rfl, h5⟩; have HS5 := Lib.hid h5; clear h5))
            go_roundw
            case rel => exact ⟨k + 1, by omega, by go_num, _, some (a, t), _, b5, A5, c5, rfl, rfl, rfl, by rw [List.append_assoc] at HS5; exact HS5, HN2⟩
            case measure => simp [intOf]; omega
          · rw [xword_new hf] at hst
            have hn := HN.out
            rw [hst] at hn
            have HN2 := Lib.hid hn
            have hcase : win = none ∨ (∃ a t, win = some (a, t) ∧ lz x < a) ∨ ∃ a t, win = some (a, t) ∧ a ≤ lz x ∧ tz x < t := by
              cases win with
              | none => exact .inl rfl
              | some ab =>
                by_cases h : ab.1 ≤ lz x
                · exact .inr (.inr ⟨ab.1, ab.2, rfl, h, by have : ¬ ab.2 ≤ tz x := fun h' => hf ⟨h, h'⟩; omega⟩)
                · exact .inr (.inl ⟨ab.1, ab.2, rfl, by omega⟩)
            clear hst HN HST hn hf HW hrel
            have hy : x / 2 ^ tz x ≤ x := Nat.div_le_self _ _
            have HYY := Lib.hid (rfl : x / 2 ^ tz x = x / 2 ^ tz x)
            generalize hyy : x / 2 ^ tz x = y at *
            have HY := Lib.hid hyy.symm
            clear HYY hyy
            generalize lz x = p at *
            generalize tz x = q at *
            have e1 : IntKind.u64.wrap (p : Int) = (p : Int) := IntWalk.u64_in _ (by omega)
            have e2 : IntKind.u64.wrap (63 - (p : Int) - (q : Int)) = ((63 - p - q : Nat) : Int) := by rw [IntWalk.u64_in _ (by omega)]; omega
            have HW : ∃ ld tr : Int, leadOf win = ld ∧ trailOf win = tr ∧ (ld = -1 ∨ (0 ≤ ld ∧ (decide (ld ≤ (p : Int)) = false)) ∨ (0 ≤ ld ∧ ld ≤ (p : Int) ∧ decide (tr ≤ (q : Int)) = false)) := by
              rcases hcase with rfl | ⟨a, t, rfl, h⟩ | ⟨a, t, rfl, h, h'⟩
              · exact ⟨_, _, rfl, rfl, .inl rfl⟩
              · exact ⟨_, _, rfl, rfl, .inr (.inl ⟨Int.natCast_nonneg _, by rw [decide_eq_false_iff_not]; show ¬ (a : Int) ≤ _; omega⟩)⟩
              · exact ⟨_, _, rfl, rfl, .inr (.inr ⟨Int.natCast_nonneg _, by show (a : Int) ≤ _; omega, by rw [decide_eq_false_iff_not]; show ¬ (t : Int) ≤ _; omega⟩)⟩
            obtain ⟨ld, tr, g3, g4, hW⟩ := HW
            rw [g3, g4]
            clear g3 g4 hcase
            rcases hW with rfl | ⟨g0, g1⟩ | ⟨g0, g1, g2⟩
            all_goals
              go_wp2_with (first
                | (go_at_call 79; refine (HZ.out _).mono ?_; rintro e w2 ⟨rfl, hN2⟩; have HS2 := Lib.hid (HSq.out.nw hN2); clear hN2)
                | (at_builtin; refine wpList_app2 E_bool rfl (.tmp 61) (.tmp 62) rfl rfl HS2.out.ow rfl rfl rfl (by omega) (by omega) ?_; intro b3 A3 c3 w3 h4 h5 h6 h6n; have HS3 := Lib.hid (HS2.out.app (Y := [true, true]) h4 rfl h5 h6 h6n); clear h4 h5 h6 h6n HS2)
                | (go_at_call 80; refine (inside_any _ x q y hxl (by omega) HY.out).mono ?_; rintro e w6 ⟨rfl, hw6⟩; subst hw6)
                | (go_at_call 52; refine (HS5.out.write _ _ y (64 - p - q) rfl (by omega) (by omega) (by omega) (by omega)).mono ?_; rintro e w7 ⟨b7, A7, c7, rfl, h5⟩; have HS7 := Lib.hid h5; clear h5)
                | (go_at_call 52; refine (HS4.out.write _ _ (63 - p - q) 6 rfl rfl (by omega) (by omega) (by omega)).mono ?_; rintro e w5 ⟨b5, A5, c5, rfl, h5⟩; have HS5 := Lib.hid h5; clear h5)
                | (go_at_call 52; refine (HS3.out.write _ _ p 6 rfl rfl (by omega) (by omega) (by omega)).mono ?_; rintro e w4 ⟨b4, A4, c4, rfl, h5⟩; have HS4 := Lib.hid h5; clear h5))
              go_roundw
              case rel => exact ⟨k + 1, by omega, by go_num, _, some (p, q), _, b7, A7, c7, rfl, rfl, rfl, by simp only [List.append_assoc] at HS7; exact HS7, by simp only [List.append_assoc] at HN2; exact HN2⟩
              case measure => simp [intOf]; omega
    · obtain rfl : k = l.length := by omega
      have hp := hrel.out.done
      go_wp2
      go_ret
      rw [hp]
      exact HS.out.done
end Go.Proofs.YtjepaneniodbpaaGreatDoor
