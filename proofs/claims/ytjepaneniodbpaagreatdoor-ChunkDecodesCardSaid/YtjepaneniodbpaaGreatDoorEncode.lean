import Derived.Test.YtjepaneniodbpaaGreatDoorWin
import Derived.Shelf.Abstract
import Derived.Test.YtjepaneniodbpaaGreatDoorWriter

/- xorval's encoder: put, for whatever function takes the bits. -/
namespace Go.Proofs.YtjepaneniodbpaaGreatDoor
open Go Go.RowKit Go.Sort

/-- what a step keeps: block bl, the variables, whatever size -/
structure Kv (bl : Nat) (w w' : World) : Prop where
  size : w.heap.size ≤ w'.heap.size
  at_ : w'.heap[bl]? = w.heap[bl]?
  g0 : w'.heap[0]? = w.heap[0]?
  g1 : w'.heap[1]? = w.heap[1]?
theorem Kv.refl (bl : Nat) (w : World) : Kv bl w w := ⟨Nat.le_refl _, rfl, rfl, rfl⟩
theorem Kv.trans {bl : Nat} {a b c : World} (h : Kv bl a b) (k : Kv bl b c) : Kv bl a c := ⟨Nat.le_trans h.size k.size, k.at_.trans h.at_, k.g0.trans h.g0, k.g1.trans h.g1⟩
theorem Kv.kp {bl g g' : Nat} {w w' : World} (hk : Kp g g' w w') (hb : bl < w.heap.size) (h1 : bl ≠ g) (h2 : bl ≠ g') (e1 : 2 ≤ g) (e2 : 2 ≤ g') (hs : 2 ≤ w.heap.size) : Kv bl w w' :=
  ⟨hk.size, hk.block bl hb h1 h2, hk.block _ (by omega) (by omega) (by omega), hk.block _ (by omega) (by omega) (by omega)⟩
theorem Gl.kv {bl : Nat} {w w' : World} (h : Gl w) (hk : Kv bl w w') : Gl w' :=
  ⟨fun k v e => (World.cell?_of_block hk.g0).trans (h.forms k v e), fun k v e => (World.cell?_of_block hk.g1).trans (h.tab k v e), Nat.le_trans h.lt hk.size⟩
theorem Rd.kv {b bl : Nat} {w w' : World} {A : Option Addr} {xs : List Value} (h : Rd w b A xs) (hk : Kv bl w w') (e : b = bl) : Rd w' b A xs := by
  subst e
  rcases h with rfl | ⟨o, e, hlt, hc⟩
  · exact .inl rfl
  · exact .inr ⟨o, e, Nat.lt_of_lt_of_le hlt hk.size, fun j u hu => (World.cell?_of_block hk.at_).trans (hc j u hu)⟩

/-- a function value that takes bits: I bs W: it has taken bs; it leaves block g alone -/
structure Sink (fo : Nat) (lb : Array Value) (g bl : Nat) (I : List Bool → World → Prop) : Prop where
  call : ∀ (W : World) (bs : List Bool) (x n : Nat), I bs W → x < 18446744073709551616 → n ≤ 64 → bs.length ≤ 1000000 →
    Calls Tryz.prog fo (#[.int .u64 (x : Int), .int .i64 (n : Int)] ++ lb) W fun e W' => e = .returned (.tuple #[]) ∧ I (bs ++ bitsOf x n) W' ∧ W'.heap[g]? = W.heap[g]? ∧ Kv bl W W'
  keep : ∀ (W W' : World) (bs : List Bool), I bs W → Kp g g W W' → I bs W'
  enters : ∀ args w, (callFunc fo args).run Tryz.prog w = .ok (.enter fo args) w

/-- block g is an encoder -/
def EncB (W : World) (g last : Nat) (win : Win) (fo : Nat) (lb : Array Value) : Prop :=
  ∃ a n : Int, winOf win = winV a n ∧ W.heap[g]? = some (.cells #[.int .u64 (last : Int), .int .i64 a, .int .i64 n, .func (.func fo) #[] lb] 154 (0, 0))
theorem EncB.same {W W' : World} {g last fo : Nat} {win : Win} {lb : Array Value} (h : EncB W g last win fo lb) (e : W'.heap[g]? = W.heap[g]?) : EncB W' g last win fo lb := by
  obtain ⟨a, n, h1, h2⟩ := h
  exact ⟨a, n, h1, e.trans h2⟩
theorem EncB.lt {W : World} {g last fo : Nat} {win : Win} {lb : Array Value} (h : EncB W g last win fo lb) : g < W.heap.size := by
  obtain ⟨a, n, h1, h2⟩ := h
  exact lt_of_block h2
theorem trail_win (w : World) (a b : Nat) (h : a + b ≤ 63) : Calls Tryz.prog 90 #[winV a ((64 - a - b : Nat) : Int)] w fun e w' => e = .returned (.int .i64 (b : Int)) ∧ Gr w w' := by
  have h1 := trail_any w a (64 - a - b) (by omega)
  rwa [show 64 - a - (64 - a - b) = b from by omega] at h1

/-- what put says -/
def PutV (fo : Nat) (lb : Array Value) (g bl : Nat) (I : List Bool → World → Prop) (w : World) (bs : List Bool) (v last : Nat) (win : Win) (e : Ending) (w' : World) : Prop :=
  e = .returned (.tuple #[]) ∧ I (bs ++ (xstep last win v).1) w' ∧ EncB w' g v (xstep last win v).2 fo lb ∧ Kv bl w w'

theorem put_zero (fo : Nat) (lb : Array Value) (g bl : Nat) (I : List Bool → World → Prop) (S : Sink fo lb g bl I) (w : World) (bs : List Bool) (v last : Nat) (win : Win) (hI : I bs w) (hE : EncB w g last win fo lb) (hb : bl < w.heap.size) (hbg : bl ≠ g) (hg : 2 ≤ g) (hs : 2 ≤ w.heap.size)
    (hv : v < 18446744073709551616) (hl : last < 18446744073709551616) (hlen : bs.length ≤ 1000000) (hx : v ^^^ last = 0) :
    Calls Tryz.prog 87 #[.pointer (some ⟨g, 0, none⟩), .int .u64 (v : Int)] w (PutV fo lb g bl I w bs v last win) := by
  have hlt := hE.lt
  obtain ⟨a, n, hw, hbk⟩ := hE
  have hxor := u64_xor_nat v last hv hl
  rw [hx] at hxor
  have hc0 : w.cell? ⟨g, 0, none⟩ = some (.int .u64 (last : Int)) := by simp [World.cell?, hbk]
  have hf0 : w.frozen? ⟨g, 0, none⟩ = false := by simp [World.frozen?, hbk]
  have hk1 : Kp g g w (w.setCell ⟨g, 0, none⟩ (.int .u64 (v : Int))) := (Kp.refl g g w).setCell' (.inl rfl) _
  have hb1 : (w.setCell ⟨g, 0, none⟩ (.int .u64 (v : Int))).heap[g]? = some (.cells #[.int .u64 (v : Int), .int .i64 a, .int .i64 n, .func (.func fo) #[] lb] 154 (0, 0)) := by simp [World.setCell, Array.getElem?_modify, hbk]
  have hc3 : (w.setCell ⟨g, 0, none⟩ (.int .u64 (v : Int))).cell? ⟨g, 3, none⟩ = some (.func (.func fo) #[] lb) := by simp [World.cell?, hb1]
  have H := Lib.hid (S.call _ bs 0 1 (S.keep _ _ _ hI hk1) (by omega) (by omega) hlen)
  have eg := S.enters
  have HB := Lib.hid hb1
  have HK := Lib.hid (Kv.kp hk1 hb hbg hbg hg hg hs)
  clear hI hbk hb1 hk1
  generalize hw1 : w.setCell ⟨g, 0, none⟩ (.int .u64 (v : Int)) = w1 at *
  go_enter Tryz.func87, Tryz.ntmps87
  go_wp2_with (first | (go_at_fn fo; refine H.out.mono ?_; rintro e w2 ⟨rfl, hI2, hg2, hk2⟩))
  refine bodyPost_ret (results_none rfl _ _ _) rfl ?_
  have hst : xstep last win v = ([false], win) := by unfold xstep; rw [if_pos hx]
  refine ⟨rfl, by rw [hst]; exact hI2, ?_, HK.out.trans hk2⟩
  rw [hst]
  exact ⟨a, n, hw, hg2.trans HB.out⟩

/- the words of a window that is in place -/
set_option maxRecDepth 100000 in
set_option maxHeartbeats 1000000 in
theorem put_fits (fo : Nat) (lb : Array Value) (g bl : Nat) (I : List Bool → World → Prop) (S : Sink fo lb g bl I) (w : World) (bs : List Bool) (v last a b : Nat) (hI : I bs w) (hE : EncB w g last (some (a, b)) fo lb) (hb : bl < w.heap.size) (hbg : bl ≠ g) (hg : 2 ≤ g) (hG : Gl w)
    (hv : v < 18446744073709551616) (hl : last < 18446744073709551616) (hlen : bs.length ≤ 900000) (hab : a + b ≤ 63) (hx : v ^^^ last ≠ 0) (hf : fits (some (a, b)) (v ^^^ last)) :
    Calls Tryz.prog 87 #[.pointer (some ⟨g, 0, none⟩), .int .u64 (v : Int)] w (PutV fo lb g bl I w bs v last (some (a, b))) := by
  have hs := hG.lt
  have hlt := hE.lt
  obtain ⟨a0, n0, hwv, hbk⟩ := hE
  injection hwv with e; injection e with e; injection e with e1 e2; injection e2 with e2 _; injection e1 with _ e1; injection e2 with _ e2
  subst e1 e2
  have hxor := u64_xor_nat v last hv hl
  have hst : Hid (xstep last (some (a, b)) v = ([true, false] ++ bitsOf ((v ^^^ last) / 2 ^ b) (64 - a - b), some (a, b))) := Lib.hid (by unfold xstep xword; rw [if_neg hx]; simp only [if_pos (show a ≤ lz (v ^^^ last) ∧ b ≤ tz (v ^^^ last) from hf)])
  have hxl := xor_lt64 hv hl
  have hx0 : (((v ^^^ last : Nat) : Int) == 0) = false := by rw [beq_eq_false_iff_ne]; omega
  generalize v ^^^ last = x at *
  have hc0 : w.cell? ⟨g, 0, none⟩ = some (.int .u64 (last : Int)) := by simp [World.cell?, hbk]
  have hf0 : w.frozen? ⟨g, 0, none⟩ = false := by simp [World.frozen?, hbk]
  have hk1 : Kp g g w (w.setCell ⟨g, 0, none⟩ (.int .u64 (v : Int))) := (Kp.refl g g w).setCell' (.inl rfl) _
  have hb1 : (w.setCell ⟨g, 0, none⟩ (.int .u64 (v : Int))).heap[g]? = some (.cells #[.int .u64 (v : Int), .int .i64 (a : Int), .int .i64 ((64 - a - b : Nat) : Int), .func (.func fo) #[] lb] 154 (0, 0)) := by simp [World.setCell, Array.getElem?_modify, hbk]
  have hI1 := S.keep _ _ _ hI hk1
  have hv1 := Kv.kp hk1 hb hbg hbg hg hg hs
  have hfit : Calls Tryz.prog 92 #[.pointer (some ⟨g, 0, none⟩), .int .u64 (x : Int)] (w.setCell ⟨g, 0, none⟩ (.int .u64 (v : Int))) fun e w' => e = .returned (.bool true) ∧ Gr (w.setCell ⟨g, 0, none⟩ (.int .u64 (v : Int))) w' := by
    have h := fits_any _ g x (some (a, b)) (hG.kv hv1) hab hx hxl (lt_of_block hb1) ⟨_, _, rfl, by simp [World.cell?, hb1], by simp [World.cell?, hb1]⟩
    rwa [decide_eq_true hf] at h
  have hb1l := lt_of_block hb1
  have HF := Lib.hid hfit
  have HB := Lib.hid hb1
  have HG := Lib.hid (hG.kv hv1)
  have HK := Lib.hid hv1
  have HI := Lib.hid hI1
  have hs1 : bl < (w.setCell ⟨g, 0, none⟩ (.int .u64 (v : Int))).heap.size := Nat.lt_of_lt_of_le hb hk1.size
  have hs2 : 2 ≤ (w.setCell ⟨g, 0, none⟩ (.int .u64 (v : Int))).heap.size := Nat.le_trans hs hk1.size
  have eg := S.enters
  clear hI hbk hb1 hk1 hfit hI1 hv1 hG hf hx
  generalize hw1 : w.setCell ⟨g, 0, none⟩ (.int .u64 (v : Int)) = w1 at *
  -- what each call of the function value says
  have HC := Lib.hid fun (W : World) (cu : List Bool) (y m : Nat) (h1 : I cu W) (h2 : y < 18446744073709551616) (h3 : m ≤ 64) (h4 : cu.length ≤ 1000000) => S.call W cu y m h1 h2 h3 h4
  have HKeep := Lib.hid fun (W W' : World) (cu : List Bool) (h1 : I cu W) (h2 : Kp g g W W') => S.keep W W' cu h1 h2
  clear S
  go_enter Tryz.func87, Tryz.ntmps87
  go_wp2_with fail
  refine HF.out.mono ?_
  rintro e w2 ⟨rfl, hgr⟩
  have hc3 := cell_old (v := .func (.func fo) #[] lb) (a := ⟨g, 3, none⟩) hgr.nw hb1l (by simp [World.cell?, HB.out])
  go_wp2_with (first
    | (go_at_fn fo; refine (HC.out _ bs 2 2 (HKeep.out _ _ _ HI.out (hgr.nw.kp _ _)) (by omega) (by omega) (by omega)).mono ?_; rintro e w3 ⟨rfl, hI3, hg3, hk3⟩))
  have hn2 := hgr.nw
  have hb3 := hg3.trans ((hn2.block g hb1l).trans HB.out)
  have hg3l := lt_of_block hb3
  have hd1 : ∀ p : Gp, (grow (w3.drewN p.n) p.os).cell? ⟨g, 1, none⟩ = some (.int .i64 (a : Int)) := cell_gr hg3l (by simp [World.cell?, hb3])
  have hd2 : ∀ p : Gp, (grow (w3.drewN p.n) p.os).cell? ⟨g, 2, none⟩ = some (.int .i64 ((64 - a - b : Nat) : Int)) := cell_gr hg3l (by simp [World.cell?, hb3])
  have hd3 : ∀ p : Gp, (grow (w3.drewN p.n) p.os).cell? ⟨g, 3, none⟩ = some (.func (.func fo) #[] lb) := cell_gr hg3l (by simp [World.cell?, hb3])
  have HQ := Lib.hid (show ∀ W, I (bs ++ bitsOf 2 2) W → Calls Tryz.prog fo (#[.int .u64 ((x : Int) / 2 ^ b), .int .i64 ((64 - a - b : Nat) : Int)] ++ lb) W fun e W' => e = .returned (.tuple #[]) ∧ I (bs ++ bitsOf 2 2 ++ bitsOf (x / 2 ^ b) (64 - a - b)) W' ∧ W'.heap[g]? = W.heap[g]? ∧ Kv bl W W' from by
    intro W hW
    have hxm : x / 2 ^ b ≤ x := Nat.div_le_self _ _
    have h := HC.out W _ (x / 2 ^ b) (64 - a - b) hW (by omega) (by omega) (by rw [List.length_append, bitsOf_length]; omega)
    rwa [show ((x / 2 ^ b : Nat) : Int) = (x : Int) / 2 ^ b from by simp] at h)
  have HB3 := Lib.hid hb3
  have HI3 := Lib.hid hI3
  have HG3 := Lib.hid hk3
  have HN2 := Lib.hid hn2
  have HT := Lib.hid fun W : World => trail_win W a b hab
  clear hb3 hI3 hk3 hg3 hn2 hc3 hgr HF
  refine wp_region_gr_tail 18 (by kernel_rfl) (by kernel_rfl) ?_
  simp only [List.take_succ_cons, List.take_zero, List.drop_succ_cons, List.drop_zero]
  repeat (quiet_step (first | (go_at_call 90; refine Calls.gr (HT.out _))))
  refine wpQuiet_nil ?_
  rintro _ ⟨p, rfl⟩
  generalize hw4 : grow (w3.drewN p.n) p.os = w4
  have hn4 : Nw w3 w4 := by rw [← hw4]; exact Gr.nw ⟨p, rfl⟩
  clear hd1 hd2 hd3 hw4
  go_wp2_with (first
    | (go_at_fn fo; refine (HQ.out _ (HKeep.out _ _ _ HI3.out (hn4.kp _ _))).mono ?_; rintro e w5 ⟨rfl, hI5, hg5, hk5⟩))
  go_end0
  have hs3 : 2 ≤ w3.heap.size := by
    have := HG3.out.size
    have := HN2.out.size
    omega
  have hkk : Kv bl w w4 := by
    have h1 := Kv.kp (HN2.out.kp g g) hs1 hbg hbg hg hg hs2
    have h2 := (HK.out.trans h1).trans HG3.out
    exact h2.trans (Kv.kp (hn4.kp g g) (Nat.lt_of_lt_of_le hb h2.size) hbg hbg hg hg hs3)
  refine ⟨rfl, ?_, ?_, hkk.trans hk5⟩
  · rw [hst.out]
    rw [List.append_assoc] at hI5
    exact hI5
  · rw [hst.out]
    exact ⟨_, _, rfl, hg5.trans ((hn4.block g hg3l).trans HB3.out)⟩

/-- the words of a new window -/
theorem xstep_new {last v : Nat} {win : Win} (hx : v ^^^ last ≠ 0) (hf : ¬ fits win (v ^^^ last)) :
    xstep last win v = ([true, true] ++ bitsOf (lz (v ^^^ last)) 6 ++ bitsOf (63 - lz (v ^^^ last) - tz (v ^^^ last)) 6 ++ bitsOf ((v ^^^ last) / 2 ^ tz (v ^^^ last)) (64 - lz (v ^^^ last) - tz (v ^^^ last)), some (lz (v ^^^ last), tz (v ^^^ last))) := by
  unfold xstep xword
  rw [if_neg hx]
  cases win with
  | none => rfl
  | some ab => simp only [if_neg (show ¬ (ab.1 ≤ lz (v ^^^ last) ∧ ab.2 ≤ tz (v ^^^ last)) from hf)]

set_option maxRecDepth 100000 in
set_option maxHeartbeats 4000000 in
theorem put_new (fo : Nat) (lb : Array Value) (g bl : Nat) (I : List Bool → World → Prop) (S : Sink fo lb g bl I) (w : World) (bs : List Bool) (v last : Nat) (win : Win) (hI : I bs w) (hE : EncB w g last win fo lb) (hb : bl < w.heap.size) (hbg : bl ≠ g) (hg : 2 ≤ g) (hG : Gl w)
    (hv : v < 18446744073709551616) (hl : last < 18446744073709551616) (hlen : bs.length ≤ 900000) (hw : WinOk win) (hx : v ^^^ last ≠ 0) (hf : ¬ fits win (v ^^^ last)) :
    Calls Tryz.prog 87 #[.pointer (some ⟨g, 0, none⟩), .int .u64 (v : Int)] w (PutV fo lb g bl I w bs v last win) := by
  have hs := hG.lt
  have hlt := hE.lt
  obtain ⟨a0, n0, hwv, hbk⟩ := hE
  have hxor := u64_xor_nat v last hv hl
  have hst := Lib.hid (xstep_new hx hf)
  have hxl := xor_lt64 hv hl
  have hx0 : (((v ^^^ last : Nat) : Int) == 0) = false := by rw [beq_eq_false_iff_ne]; omega
  generalize v ^^^ last = x at *
  have hc0 : w.cell? ⟨g, 0, none⟩ = some (.int .u64 (last : Int)) := by simp [World.cell?, hbk]
  have hf0 : w.frozen? ⟨g, 0, none⟩ = false := by simp [World.frozen?, hbk]
  have hk1 : Kp g g w (w.setCell ⟨g, 0, none⟩ (.int .u64 (v : Int))) := (Kp.refl g g w).setCell' (.inl rfl) _
  have hb1 : (w.setCell ⟨g, 0, none⟩ (.int .u64 (v : Int))).heap[g]? = some (.cells #[.int .u64 (v : Int), .int .i64 a0, .int .i64 n0, .func (.func fo) #[] lb] 154 (0, 0)) := by simp [World.setCell, Array.getElem?_modify, hbk]
  have hI1 := S.keep _ _ _ hI hk1
  have hv1 := Kv.kp hk1 hb hbg hbg hg hg hs
  have hfit : Calls Tryz.prog 92 #[.pointer (some ⟨g, 0, none⟩), .int .u64 (x : Int)] (w.setCell ⟨g, 0, none⟩ (.int .u64 (v : Int))) fun e w' => e = .returned (.bool false) ∧ Gr (w.setCell ⟨g, 0, none⟩ (.int .u64 (v : Int))) w' := by
    have h := fits_any _ g x win (hG.kv hv1) hw hx hxl (lt_of_block hb1) ⟨_, _, hwv, by simp [World.cell?, hb1], by simp [World.cell?, hb1]⟩
    rwa [decide_eq_false hf] at h
  have hab := lz_tz hx hxl
  have hb1l := lt_of_block hb1
  have HW := Lib.hid fun (W : World) (hN : Nw (w.setCell ⟨g, 0, none⟩ (.int .u64 (v : Int))) W) => windowOf_any W x ((hG.kv hv1).nw hN) hx hxl
  have HF := Lib.hid hfit
  have HB := Lib.hid hb1
  have HK := Lib.hid hv1
  have HI := Lib.hid hI1
  have hs1 : bl < (w.setCell ⟨g, 0, none⟩ (.int .u64 (v : Int))).heap.size := Nat.lt_of_lt_of_le hb hk1.size
  have hs2 : 2 ≤ (w.setCell ⟨g, 0, none⟩ (.int .u64 (v : Int))).heap.size := Nat.le_trans hs hk1.size
  have eg := S.enters
  clear hI hbk hb1 hk1 hfit hI1 hv1 hG hf hx hwv hw
  generalize hw1 : w.setCell ⟨g, 0, none⟩ (.int .u64 (v : Int)) = w1 at *
  generalize lz x = a at *
  generalize tz x = b at *
  obtain ⟨n, hn⟩ : ∃ n, n = 64 - a - b := ⟨_, rfl⟩
  rw [← hn] at HW hst
  have hn1 : n + a + b = 64 := by omega
  clear hn
  have HC := Lib.hid fun (W : World) (cu : List Bool) (y m : Nat) (h1 : I cu W) (h2 : y < 18446744073709551616) (h3 : m ≤ 64) (h4 : cu.length ≤ 1000000) => S.call W cu y m h1 h2 h3 h4
  have HKeep := Lib.hid fun (W W' : World) (cu : List Bool) (h1 : I cu W) (h2 : Kp g g W W') => S.keep W W' cu h1 h2
  clear S
  go_enter Tryz.func87, Tryz.ntmps87
  go_wp2_with fail
  refine HF.out.mono ?_
  rintro e w2 ⟨rfl, hgr⟩
  go_wp2_with fail
  refine (HW.out _ hgr.nw).mono ?_
  rintro e w3 ⟨rfl, hgr3⟩
  have hn3 := hgr.nw.trans hgr3.nw
  have hb3 := (hn3.block g hb1l).trans HB.out
  have hc3 : w3.cell? ⟨g, 3, none⟩ = some (.func (.func fo) #[] lb) := by simp [World.cell?, hb3]
  have hf3 : w3.frozen? ⟨g, 1, none⟩ = false := by simp [World.frozen?, hb3]
  have hf3' : w3.frozen? ⟨g, 2, none⟩ = false := by simp [World.frozen?, hb3]
  have hc31 : w3.cell? ⟨g, 1, none⟩ = some (.int .i64 a0) := by simp [World.cell?, hb3]
  have hc32 : w3.cell? ⟨g, 2, none⟩ = some (.int .i64 n0) := by simp [World.cell?, hb3]
  have hk3 : Kp g g w1 ((w3.setCell ⟨g, 1, none⟩ (.int .i64 (a : Int))).setCell ⟨g, 2, none⟩ (.int .i64 (n : Int))) := ((hn3.kp g g).setCell' (.inl rfl) _).setCell' (.inl rfl) _
  have HI4 := Lib.hid (HKeep.out _ _ _ HI.out hk3)
  have HK4 := Lib.hid (Kv.kp hk3 hs1 hbg hbg hg hg hs2)
  have HB4 : Hid (((w3.setCell ⟨g, 1, none⟩ (.int .i64 (a : Int))).setCell ⟨g, 2, none⟩ (.int .i64 (n : Int))).heap[g]? = some (.cells #[.int .u64 (v : Int), .int .i64 (a : Int), .int .i64 (n : Int), .func (.func fo) #[] lb] 154 (0, 0))) := Lib.hid (by simp [World.setCell, Array.getElem?_modify, hb3])
  clear hb3 hk3
  go_wp2_with (first
    | (go_at_fn fo; refine (HC.out _ bs 3 2 HI4.out (by omega) (by omega) (by omega)).mono ?_; rintro e w5 ⟨rfl, hI5, hg5, hk5⟩))
  have hb5 := hg5.trans HB4.out
  have hg5l := lt_of_block hb5
  have hd0 : ∀ p : Gp, (grow (w5.drewN p.n) p.os).cell? ⟨g, 1, none⟩ = some (.int .i64 (a : Int)) := cell_gr hg5l (by simp [World.cell?, hb5])
  have hd3 : ∀ p : Gp, (grow (w5.drewN p.n) p.os).cell? ⟨g, 3, none⟩ = some (.func (.func fo) #[] lb) := cell_gr hg5l (by simp [World.cell?, hb5])
  have HB5 := Lib.hid hb5
  have HI5 := Lib.hid hI5
  have HK5 := Lib.hid hk5
  clear hb5 hI5 hk5 hg5 hc3 hf3 hf3' hc31 hc32 hgr hgr3 HF HW
  refine wp_region_gr_tail 11 (by kernel_rfl) (by kernel_rfl) ?_
  simp only [List.take_succ_cons, List.take_zero, List.drop_succ_cons, List.drop_zero]
  repeat (quiet_step (fail))
  refine wpQuiet_nil ?_
  rintro _ ⟨p, rfl⟩
  generalize hw6 : grow (w5.drewN p.n) p.os = w6
  have hn6 : Nw w5 w6 := by rw [← hw6]; exact Gr.nw ⟨p, rfl⟩
  clear hd0 hd3 hw6
  go_wp2_with (first
    | (go_at_fn fo; refine (HC.out _ _ a 6 (HKeep.out _ _ _ HI5.out (hn6.kp _ _)) (by omega) (by omega) (by rw [List.length_append, bitsOf_length]; omega)).mono ?_; rintro e w7 ⟨rfl, hI7, hg7, hk7⟩))
  have hb7 := hg7.trans ((hn6.block g hg5l).trans HB5.out)
  have hg7l := lt_of_block hb7
  have hd0 : ∀ p : Gp, (grow (w7.drewN p.n) p.os).cell? ⟨g, 2, none⟩ = some (.int .i64 (n : Int)) := cell_gr hg7l (by simp [World.cell?, hb7])
  have hd3 : ∀ p : Gp, (grow (w7.drewN p.n) p.os).cell? ⟨g, 3, none⟩ = some (.func (.func fo) #[] lb) := cell_gr hg7l (by simp [World.cell?, hb7])
  have HB7 := Lib.hid hb7
  have HI7 := Lib.hid hI7
  have HK7 := Lib.hid hk7
  clear hb7 hI7 hk7 hg7
  refine wp_region_gr_tail 12 (by kernel_rfl) (by kernel_rfl) ?_
  simp only [List.take_succ_cons, List.take_zero, List.drop_succ_cons, List.drop_zero]
  repeat (quiet_step (fail))
  refine wpQuiet_nil ?_
  rintro _ ⟨p, rfl⟩
  generalize hw8 : grow (w7.drewN p.n) p.os = w8
  have hn8 : Nw w7 w8 := by rw [← hw8]; exact Gr.nw ⟨p, rfl⟩
  clear hd0 hd3 hw8
  have HQ8 := Lib.hid (show ∀ W cu, I cu W → cu.length ≤ 1000000 → Calls Tryz.prog fo (#[.int .u64 ((n : Int) - 1), .int .i64 6] ++ lb) W fun e W' => e = .returned (.tuple #[]) ∧ I (cu ++ bitsOf (n - 1) 6) W' ∧ W'.heap[g]? = W.heap[g]? ∧ Kv bl W W' from by
    intro W cu hW hcu
    have h := HC.out W _ (n - 1) 6 hW (by omega) (by omega) hcu
    rwa [show ((n - 1 : Nat) : Int) = (n : Int) - 1 from by omega] at h)
  go_wp2_with (first
    | (go_at_fn fo; refine (HQ8.out _ _ (HKeep.out _ _ _ HI7.out (hn8.kp _ _)) (by rw [List.length_append, List.length_append, bitsOf_length, bitsOf_length]; omega)).mono ?_; rintro e w9 ⟨rfl, hI9, hg9, hk9⟩))
  have hb9 := hg9.trans ((hn8.block g hg7l).trans HB7.out)
  have hg9l := lt_of_block hb9
  have hd1 : ∀ p : Gp, (grow (w9.drewN p.n) p.os).cell? ⟨g, 1, none⟩ = some (.int .i64 (a : Int)) := cell_gr hg9l (by simp [World.cell?, hb9])
  have hd2 : ∀ p : Gp, (grow (w9.drewN p.n) p.os).cell? ⟨g, 2, none⟩ = some (.int .i64 (n : Int)) := cell_gr hg9l (by simp [World.cell?, hb9])
  have hd3 : ∀ p : Gp, (grow (w9.drewN p.n) p.os).cell? ⟨g, 3, none⟩ = some (.func (.func fo) #[] lb) := cell_gr hg9l (by simp [World.cell?, hb9])
  have HB9 := Lib.hid hb9
  have HI9 := Lib.hid hI9
  have HK9 := Lib.hid hk9
  have HT := Lib.hid (show ∀ W : World, Calls Tryz.prog 90 #[winV a (n : Int)] W fun e w' => e = .returned (.int .i64 (b : Int)) ∧ Gr W w' from by
    intro W
    have h := trail_any W a n (by omega)
    rwa [show 64 - a - n = b from by omega] at h)
  have HQ := Lib.hid (show ∀ W cu, I cu W → cu.length ≤ 1000000 → Calls Tryz.prog fo (#[.int .u64 ((x : Int) / 2 ^ b), .int .i64 (n : Int)] ++ lb) W fun e W' => e = .returned (.tuple #[]) ∧ I (cu ++ bitsOf (x / 2 ^ b) n) W' ∧ W'.heap[g]? = W.heap[g]? ∧ Kv bl W W' from by
    intro W cu hW hcu
    have hxm : x / 2 ^ b ≤ x := Nat.div_le_self _ _
    have h := HC.out W _ (x / 2 ^ b) n hW (by omega) (by omega) hcu
    rwa [show ((x / 2 ^ b : Nat) : Int) = (x : Int) / 2 ^ b from by simp] at h)
  clear hb9 hI9 hk9 hg9
  refine wp_region_gr_tail 18 (by kernel_rfl) (by kernel_rfl) ?_
  simp only [List.take_succ_cons, List.take_zero, List.drop_succ_cons, List.drop_zero]
  repeat (quiet_step (first | (go_at_call 90; refine Calls.gr (HT.out _))))
  refine wpQuiet_nil ?_
  rintro _ ⟨p, rfl⟩
  generalize hw10 : grow (w9.drewN p.n) p.os = w10
  have hn10 : Nw w9 w10 := by rw [← hw10]; exact Gr.nw ⟨p, rfl⟩
  clear hd1 hd2 hd3 hw10
  go_wp2_with (first
    | (go_at_fn fo; refine (HQ.out _ _ (HKeep.out _ _ _ HI9.out (hn10.kp _ _)) (by rw [List.length_append, List.length_append, List.length_append, bitsOf_length, bitsOf_length, bitsOf_length]; omega)).mono ?_; rintro e w11 ⟨rfl, hI11, hg11, hk11⟩))
  go_end0
  have k4 := HK.out.trans HK4.out
  have st : ∀ {A B : World}, Kv bl w A → Nw A B → Kv bl w B := by
    intro A B h1 h2
    exact h1.trans (Kv.kp (h2.kp g g) (Nat.lt_of_lt_of_le hb h1.size) hbg hbg hg hg (Nat.le_trans hs h1.size))
  have k11 := (st ((st ((st (k4.trans HK5.out) hn6).trans HK7.out) hn8).trans HK9.out) hn10).trans hk11
  refine ⟨rfl, ?_, ?_, k11⟩
  · rw [hst.out]
    rw [show 63 - a - b = n - 1 from by omega]
    simp only [List.append_assoc] at hI11 ⊢
    exact hI11
  · rw [hst.out]
    refine ⟨_, _, rfl, ?_⟩
    rw [show 64 - a - b = n from by omega]
    exact hg11.trans ((hn10.block g hg9l).trans HB9.out)
end Go.Proofs.YtjepaneniodbpaaGreatDoor

/- xorval's encode, Size and Put. -/
namespace Go.Proofs.YtjepaneniodbpaaGreatDoor
open Go Go.RowKit Go.Sort

theorem xword_len (win : Win) (x : Nat) : (xword win x).1.length ≤ 78 := by
  unfold xword
  split
  · split <;> simp [bitsOf_length] <;> omega
  · simp [bitsOf_length]; omega
theorem xstep_len (last : Nat) (win : Win) (v : Nat) : (xstep last win v).1.length ≤ 78 := by
  unfold xstep
  split
  · simp
  · exact xword_len _ _
theorem xstep_win {last v : Nat} {win : Win} (hw : WinOk win) (hl : last < 18446744073709551616) (hv : v < 18446744073709551616) : WinOk (xstep last win v).2 := by
  unfold xstep
  split
  · exact hw
  · rename_i h0
    have := lz_tz h0 (xor_lt64 hv hl)
    unfold xword
    split
    · split
      · exact hw
      · exact this
    · exact this
theorem put_any (fo : Nat) (lb : Array Value) (g bl : Nat) (I : List Bool → World → Prop) (S : Sink fo lb g bl I) (w : World) (bs : List Bool) (v last : Nat) (win : Win) (hI : I bs w) (hE : EncB w g last win fo lb) (hb : bl < w.heap.size) (hbg : bl ≠ g) (hg : 2 ≤ g) (hG : Gl w)
    (hv : v < 18446744073709551616) (hl : last < 18446744073709551616) (hlen : bs.length ≤ 900000) (hw : WinOk win) :
    Calls Tryz.prog 87 #[.pointer (some ⟨g, 0, none⟩), .int .u64 (v : Int)] w (PutV fo lb g bl I w bs v last win) := by
  by_cases hx : v ^^^ last = 0
  · exact put_zero fo lb g bl I S w bs v last win hI hE hb hbg hg hG.lt hv hl (by omega) hx
  · by_cases hf : fits win (v ^^^ last)
    · cases win with
      | none => exact hf.elim
      | some ab => exact put_fits fo lb g bl I S w bs v last ab.1 ab.2 hI hE hb hbg hg hG hv hl hlen hw hx hf
    · exact put_new fo lb g bl I S w bs v last win hI hE hb hbg hg hG hv hl hlen hw hx hf

theorem encode_any (w : World) (fo : Nat) (lb : Array Value) (bl : Nat) (I : List Bool → World → Prop) (A : Option Addr) (n c : Nat) (l : List Nat) (hn : n = l.length) (hm : n ≤ 10000) (hr : Rd w bl A (cN .u64 l)) (hbl : bl < w.heap.size)
    (hx : ∀ x ∈ l, x < 18446744073709551616) (hG : Gl w) (S : Sink fo lb w.heap.size bl I) (hI : ∀ W, Nw w W → w.heap.size < W.heap.size → I [] W) :
    Calls Tryz.prog 67 #[.slice A n c, .func (.func fo) #[] lb] w fun e w' => e = .returned (.tuple #[]) ∧ I (xput l) w' := by
  subst hn
  have hs := hG.lt
  have HX := Lib.hid hx
  have HS := Lib.hid S
  have eg := S.enters
  have hw1 : Nw w (w.alloc (.cells #[.int .u64 0, .int .i64 0, .int .i64 0, .func (.func fo) #[] lb] 154)) := (Nw.refl w).alloc' _
  have hE1 : EncB (w.alloc (.cells #[.int .u64 0, .int .i64 0, .int .i64 0, .func (.func fo) #[] lb] 154)) w.heap.size 0 none fo lb := ⟨0, 0, rfl, heap_alloc_new w _⟩
  have HI1 := Lib.hid (hI _ hw1 (by simp))
  have HK1 := Lib.hid (Kv.kp (hw1.kp w.heap.size w.heap.size) hbl (by omega) (by omega) hs hs hs)
  have HE1 := Lib.hid hE1
  clear S hI hx hw1 hE1
  go_enter Tryz.func67, Tryz.ntmps67
  go_wp2
  go_loopw [12] (fun i wr => ∃ k : Nat, k ≤ l.length ∧ i = .int .i64 k ∧ Kv bl w wr ∧ ∃ (cu : List Bool) (last : Nat) (win : Win), I cu wr ∧ EncB wr w.heap.size last win fo lb ∧ cu.length ≤ 78 * k ∧ last < 18446744073709551616 ∧ WinOk win ∧
    ((k = 0 ∧ cu = [] ∧ win = none) ∨ (1 ≤ k ∧ cu ++ xputF last win (l.drop k) = xput l))) (fun i _ => l.length - (intOf i).toNat)
  case atStart => exact ⟨0, by omega, rfl, HK1.out, [], 0, none, HI1.out, HE1.out, by simp, by omega, trivial, .inl ⟨rfl, rfl, rfl⟩⟩
  case round =>
    obtain ⟨k, hk, rfl, hkv, cu, last, win, hI, hE, hlen, hll, hwin, hcu⟩ := hrel
    by_cases hlt : k < l.length
    · obtain ⟨o, rfl, _, hc⟩ := (hr.kv hkv rfl).get (k := k) (by simpa using hlt)
      rw [List.getElem_map] at hc
      have hv : l[k] < 18446744073709551616 := HX.out _ (List.getElem_mem _)
      have hdrop : l.drop k = l[k] :: l.drop (k + 1) := List.drop_eq_getElem_cons hlt
      have HD := Lib.hid hdrop
      have hbr : bl < wr.heap.size := Nat.lt_of_lt_of_le hbl hkv.size
      generalize hvv : l[k] = v at *
      clear hdrop
      rcases hcu with ⟨rfl, rfl, rfl⟩ | ⟨hk1, hcu⟩
      · have HC := Lib.hid (HS.out.call wr [] v 64 hI hv (by omega) (by simp))
        have HE := Lib.hid hE
        have HKV := Lib.hid hkv
        clear hI hE hkv
        simp only [Nat.add_zero] at hc
        go_wp2_with fail
        refine HC.out.mono ?_
        rintro e w2 ⟨rfl, hI2, hg2, hk2⟩
        obtain ⟨a0, n0, hw0, hb2⟩ := HE.out.same hg2
        have hc2 : w2.cell? ⟨w.heap.size, 0, none⟩ = some (.int .u64 (last : Int)) := by simp [World.cell?, hb2]
        have hf2 : w2.frozen? ⟨w.heap.size, 0, none⟩ = false := by simp [World.frozen?, hb2]
        go_wp2
        go_roundw
        case rel =>
          have hb3 : (w2.setCell ⟨w.heap.size, 0, none⟩ (.int .u64 (v : Int))).heap[w.heap.size]? = some (.cells #[.int .u64 (v : Int), .int .i64 a0, .int .i64 n0, .func (.func fo) #[] lb] 154 (0, 0)) := by simp [World.setCell, Array.getElem?_modify, hb2]
          have hkp : Kp w.heap.size w.heap.size w2 (w2.setCell ⟨w.heap.size, 0, none⟩ (.int .u64 (v : Int))) := (Kp.refl _ _ _).setCell' (p := ⟨w.heap.size, 0, none⟩) (.inl rfl) _
          refine ⟨1, by omega, by simp, (HKV.out.trans hk2).trans (Kv.kp hkp (Nat.lt_of_lt_of_le hbr hk2.size) (by omega) (by omega) hs hs (Nat.le_trans hs (HKV.out.trans hk2).size)), _, v, none, HS.out.keep _ _ _ hI2 hkp, ⟨a0, n0, hw0, hb3⟩, by simp [bitsOf_length], hv, trivial, .inr ⟨by omega, ?_⟩⟩
          have hd := HD.out
          simp only [List.drop_zero, Nat.zero_add] at hd
          conv => rhs; rw [hd]
          rfl
        case measure => simp [intOf]; omega
      · have HC := Lib.hid (put_any fo lb w.heap.size bl I HS.out wr cu v last win hI hE hbr (by omega) hs (hG.kv hkv) hv hll (by omega) hwin)
        have HCU := Lib.hid hcu
        have HKV := Lib.hid hkv
        have hk0 : (0 : Int) < (k : Int) := by omega
        clear hI hE hkv hcu
        go_wp2_with (first | (go_at_call 87; refine HC.out.mono ?_; rintro e w2 ⟨rfl, hI2, hE2, hk2⟩))
        go_roundw
        case rel =>
          refine ⟨k + 1, by omega, by go_num, HKV.out.trans hk2, _, _, _, hI2, hE2, ?_, hv, xstep_win hwin hll hv, .inr ⟨by omega, ?_⟩⟩
          · rw [List.length_append]
            have := xstep_len last win v
            omega
          · rw [List.append_assoc, ← HCU.out, HD.out]
            rfl
        case measure => simp [intOf]; omega
    · go_wp2
      go_end0
      obtain rfl : k = l.length := by omega
      refine ⟨rfl, ?_⟩
      rcases hcu with ⟨h0, rfl, rfl⟩ | ⟨_, hcu⟩
      · rw [List.eq_nil_of_length_eq_zero h0]
        exact hI
      · rw [List.drop_length] at hcu
        rw [← hcu]
        simpa [xputF] using hI

/-- what Size's function value has counted -/
def SizeI (w : World) (B g : Nat) (cu : List Bool) (W : World) : Prop :=
  W.cell? ⟨B, 0, none⟩ = some (.int .i64 (cu.length : Int)) ∧ W.frozen? ⟨B, 0, none⟩ = false ∧ B < W.heap.size ∧ Nw w W ∧ g < W.heap.size
theorem sizeSink (w : World) (B g bl : Nat) (hB : w.heap.size ≤ B) (hg : w.heap.size ≤ g) (hBg : B ≠ g) (hbl : bl < w.heap.size) (hs : 2 ≤ w.heap.size) :
    Sink 68 #[.pointer (some ⟨B, 0, none⟩)] g bl (SizeI w B g) where
  call := by
    intro W bs x n hI hx hn hlen
    obtain ⟨h1, h2, h3, h4, h5⟩ := hI
    have HK := Lib.hid (show Kp B B W (W.setCell ⟨B, 0, none⟩ (.int .i64 ((bs.length : Int) + (n : Int)))) from (Kp.refl _ _ _).setCell' (p := ⟨B, 0, none⟩) (.inl rfl) _)
    show Calls Tryz.prog _ #[.int .u64 (x : Int), .int .i64 (n : Int), .pointer (some ⟨B, 0, none⟩)] W _
    go_enter Tryz.func68, Tryz.ntmps68
    go_wp2
    go_end0
    have hk := HK.out
    have hsz := h4.size
    refine ⟨rfl, ⟨?_, ?_, by have := hk.size; omega, h4.setCell' (by exact hB) _, by have := hk.size; omega⟩, hk.block g h5 (Ne.symm hBg) (Ne.symm hBg), Kv.kp hk (by omega) (by omega) (by omega) (by omega) (by omega) (by omega)⟩
    · rw [World.cell?_setCell_same' _ _ _ (by rw [h1]; rfl), List.length_append, bitsOf_length]
      simp
    · rw [World.frozen?_setCell]; exact h2
  keep := by
    intro W W' bs hI hk
    obtain ⟨h1, h2, h3, h4, h5⟩ := hI
    have hb := hk.block B h3 hBg hBg
    exact ⟨(World.cell?_of_block hb).trans h1, (by rw [← h2]; unfold World.frozen?; rw [hb]), Nat.lt_of_lt_of_le h3 hk.size, Kp.nw h4 hk hg hg, Nat.lt_of_lt_of_le h5 hk.size⟩
  enters := enters_of Tryz.func68 (by kernel_rfl) rfl

theorem xSize_any (w : World) (bl : Nat) (A : Option Addr) (n c : Nat) (l : List Nat) (hn : n = l.length) (hm : n ≤ 10000) (hr : Rd w bl A (cN .u64 l)) (hbl : bl < w.heap.size) (hx : ∀ x ∈ l, x < 18446744073709551616) (hG : Gl w) :
    Calls Tryz.prog 38 #[.slice A n c] w fun e w' => e = .returned (.int .i64 ((xput l).length : Int)) ∧ Nw w w' := by
  have hs := hG.lt
  have hw1 : Nw w (w.alloc (.cells #[.int .i64 0] 3)) := (Nw.refl w).alloc' _
  have HE := Lib.hid (encode_any _ 68 #[.pointer (some ⟨w.heap.size, 0, none⟩)] bl (SizeI w w.heap.size (w.heap.size + 1)) A n c l hn hm (hr.nw hw1) (by simp; omega) hx (hG.nw hw1)
    (by have h := sizeSink w w.heap.size (w.heap.size + 1) bl (Nat.le_refl _) (by omega) (by omega) hbl hs; rwa [show (w.alloc (.cells #[.int .i64 0] 3)).heap.size = w.heap.size + 1 from by simp])
    (by
      intro W hW hlt
      have hb : W.heap[w.heap.size]? = some (.cells #[.int .i64 0] 3) := (hW.block _ (by simp)).trans (heap_alloc_new w _)
      refine ⟨by simp [World.cell?, hb], by simp [World.frozen?, hb], by have := lt_of_block hb; omega, hw1.trans hW, by simpa using hlt⟩))
  clear hr hx hG hn hm
  go_enter Tryz.func38, Tryz.ntmps38
  go_wp2_with (first | (go_at_call 67; refine HE.out.mono ?_; rintro e w2 ⟨rfl, h1, h2, h3, h4, h5⟩))
  go_ret
  exact ⟨rfl, h4⟩

/-- what Put's function value has written: the writer gw, boxed in block B -/
def PutI (w : World) (gw b0 B g : Nat) (bs : List Bool) (cu : List Bool) (W : World) : Prop :=
  W.heap[B]? = some (.cells #[.pointer (some ⟨gw, 0, none⟩)] 49 (0, 0)) ∧ (∃ b', Wtr W gw b' (bs ++ cu) ∧ (b' = b0 ∨ (w.heap.size ≤ b' ∧ b' ≠ g ∧ b' ≠ B))) ∧ Kp gw b0 w W ∧ g < W.heap.size ∧ B < W.heap.size
theorem putSink (w : World) (gw b0 B g bl : Nat) (bs : List Bool) (hbs : bs.length ≤ 1000000000) (hB : w.heap.size ≤ B) (hg : w.heap.size ≤ g) (hBg : B ≠ g) (hbl : bl < w.heap.size) (hgw : gw < w.heap.size) (hb0 : b0 < w.heap.size) (h1 : bl ≠ gw) (h2 : bl ≠ b0) (e1 : 2 ≤ gw) (e2 : 2 ≤ b0) :
    Sink 69 #[.pointer (some ⟨B, 0, none⟩)] g bl (PutI w gw b0 B g bs) where
  call := by
    intro W cu x n hI hx hn hlen
    obtain ⟨hc, ⟨b', hW, hb'⟩, hk, hgW, hBW⟩ := hI
    have HW := Lib.hid (WBits_any W gw b' (bs ++ cu) x n hW hn hx (by rw [List.length_append]; omega))
    have hcell : W.cell? ⟨B, 0, none⟩ = some (.pointer (some ⟨gw, 0, none⟩)) := by simp [World.cell?, hc]
    have hwl := hW.lt
    show Calls Tryz.prog _ #[.int .u64 (x : Int), .int .i64 (n : Int), .pointer (some ⟨B, 0, none⟩)] W _
    go_enter Tryz.func69, Tryz.ntmps69
    go_wp2_with (first | (go_at_call 18; refine HW.out.mono ?_; rintro e w2 ⟨rfl, b2, hW2, hb2, hk2⟩))
    go_end0
    have hsz := hk.size
    have n1 : B ≠ gw := by omega
    have n2 : g ≠ gw := by omega
    have n3 : B ≠ b' := by rcases hb' with h | h <;> omega
    have n4 : g ≠ b' := by rcases hb' with h | h <;> omega
    have n5 : bl ≠ b' := by rcases hb' with h | h <;> omega
    have n6 : 2 ≤ b' := by rcases hb' with h | h <;> omega
    refine ⟨rfl, ⟨(hk2.block B hBW n1 n3).trans hc, ⟨b2, by rw [← List.append_assoc]; exact hW2, ?_⟩, hk.trans hk2 (.inl rfl) ?_, Nat.lt_of_lt_of_le hgW hk2.size, Nat.lt_of_lt_of_le hBW hk2.size⟩, hk2.block g hgW n2 n4, Kv.kp hk2 (by omega) h1 n5 e1 n6 (by omega)⟩
    · rcases hb2 with rfl | hb2
      · exact hb'
      · right; omega
    · rcases hb' with h | h
      · exact .inr (.inl h)
      · exact .inr (.inr h.1)
  keep := by
    intro W W' cu hI hk
    obtain ⟨hc, ⟨b', hW, hb'⟩, hk0, hgW, hBW⟩ := hI
    refine ⟨(hk.block B hBW hBg hBg).trans hc, ⟨b', hW.kp hk (by omega) (by omega) ?_ ?_, hb'⟩, hk0.trans hk (.inr (.inr hg)) (.inr (.inr hg)), Nat.lt_of_lt_of_le hgW hk.size, Nat.lt_of_lt_of_le hBW hk.size⟩
    · rcases hb' with h | h <;> omega
    · rcases hb' with h | h <;> omega
  enters := enters_of Tryz.func69 (by kernel_rfl) rfl

theorem xPut_any (w : World) (gw b0 bl : Nat) (A : Option Addr) (n c : Nat) (bs : List Bool) (l : List Nat) (hW : Wtr w gw b0 bs) (hbs : bs.length ≤ 1000000000) (hn : n = l.length) (hm : n ≤ 10000) (hr : Rd w bl A (cN .u64 l)) (hbl : bl < w.heap.size) (hx : ∀ x ∈ l, x < 18446744073709551616) (hG : Gl w)
    (h1 : bl ≠ gw) (h2 : bl ≠ b0) (e1 : 2 ≤ gw) (e2 : 2 ≤ b0) :
    Calls Tryz.prog 39 #[.pointer (some ⟨gw, 0, none⟩), .slice A n c] w fun e w' => e = .returned (.int .i64 0) ∧ ∃ b', Wtr w' gw b' (bs ++ xput l) ∧ (b' = b0 ∨ w.heap.size ≤ b') ∧ Kp gw b0 w w' := by
  have hs := hG.lt
  have hgw := hW.glt
  have hb0 := hW.lt
  have hw1 : Nw w (w.alloc (.cells #[.pointer (some ⟨gw, 0, none⟩)] 49)) := (Nw.refl w).alloc' _
  have hnil : ∀ W, (binOp .eql 49 (.pointer (some ⟨gw, 0, none⟩)) (.pointer none)).run Tryz.prog W = .ok (.bool false) W := fun _ => by kernel_rfl
  have HE := Lib.hid (encode_any _ 69 #[.pointer (some ⟨w.heap.size, 0, none⟩)] bl (PutI w gw b0 w.heap.size (w.heap.size + 1) bs) A n c l hn hm (hr.nw hw1) (by simp; omega) hx (hG.nw hw1)
    (by have h := putSink w gw b0 w.heap.size (w.heap.size + 1) bl bs hbs (Nat.le_refl _) (by omega) (by omega) hbl hgw hb0 h1 h2 e1 e2; rwa [show (w.alloc (.cells #[.pointer (some ⟨gw, 0, none⟩)] 49)).heap.size = w.heap.size + 1 from by simp])
    (by
      intro W hWn hlt
      have hb : W.heap[w.heap.size]? = some (.cells #[.pointer (some ⟨gw, 0, none⟩)] 49) := (hWn.block _ (by simp)).trans (heap_alloc_new w _)
      refine ⟨hb, ⟨b0, ?_, .inl rfl⟩, (hw1.trans hWn).kp _ _, by simpa using hlt, lt_of_block hb⟩
      rw [List.append_nil]
      exact hW.nw (hw1.trans hWn)))
  clear hr hx hG hn hm hW
  go_enter Tryz.func39, Tryz.ntmps39
  go_wp2_with (first | (go_at_call 67; refine HE.out.mono ?_; rintro e w2 ⟨rfl, h1, ⟨b', h2, h3⟩, h4, h5, h6⟩))
  go_ret
  refine ⟨rfl, b', h2, ?_, h4⟩
  rcases h3 with h3 | h3
  · exact .inl h3
  · exact .inr h3.1
end Go.Proofs.YtjepaneniodbpaaGreatDoor
