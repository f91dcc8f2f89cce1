import Derived.Test.YtjepaneniodbpaaGreatDoorChunkEnc
import Derived.Test.YtjepaneniodbpaaGreatDoorTimGet
import Derived.BigQuiet

/- chunk.Decode. -/
namespace Go.Proofs.YtjepaneniodbpaaGreatDoor
open Go Go.RowKit Go.Sort

/-- the function that gets values -/
def getF (t : Nat) : FuncId := if t = 1 then 40 else if t = 2 then 43 else 46
/-- what Get of any encoding says -/
def VGot (w : World) (gr b : Nat) (bytes : List Nat) (X : Except Nat (List Nat × List Bool)) (e : Ending) (w' : World) : Prop :=
  (match X with
   | .ok (l, r) => (∃ b' A c, e = .returned (.tuple #[.slice A l.length c, .int .i64 0]) ∧ Ow w' b' 25 1 A l.length c (cN .u64 l) ∧ w.heap.size ≤ b') ∧ ∃ pos, Rdr w' gr b bytes pos ∧ rest bytes pos = r
   | .error k => (∃ A n c, e = .returned (.tuple #[.slice A n c, .int .i64 (k : Int)])) ∧ k ≠ 0) ∧ Kp gr gr w w'
theorem XGot.v {w : World} {gr b : Nat} {bytes : List Nat} {X : Except Nat (List Nat × List Bool)} {e : Ending} {w' : World} (h : XGot w gr b bytes X e w') : VGot w gr b bytes X e w' := by
  cases X with
  | error k => exact ⟨⟨⟨_, _, _, h.1.1⟩, h.1.2⟩, h.2⟩
  | ok y => exact h
theorem vGet_any (t : Nat) (ht : 1 ≤ t ∧ t ≤ 3) (w : World) (gr b : Nat) (bytes : List Nat) (pos n : Nat) (h : Rdr w gr b bytes pos) (hb : b < w.heap.size) (hG : Gl w) (hgr2 : 2 ≤ gr) (h1 : 1 ≤ n) (hn : n ≤ 10000) :
    Calls Tryz.prog (getF t) #[.pointer (some ⟨gr, 0, none⟩), .int .i64 (n : Int)] w (VGot w gr b bytes (vget t n (rest bytes pos))) := by
  have : t = 1 ∨ t = 2 ∨ t = 3 := by omega
  rcases this with rfl | rfl | rfl
  · exact (xGet_any w gr b bytes pos n h hb hG hgr2 h1 hn).mono fun _ _ h => h.v
  · exact (rGet_any w gr b bytes pos n h hb hn).mono fun _ _ h => h.v
  · refine (Get_nat w gr b bytes pos n h (by omega)).mono ?_
    rintro e w' ⟨A, c, rfl, ⟨p, _, hp, hR⟩, ⟨b', hO, hb'⟩, hK⟩
    show VGot w gr b bytes (dgot (getVals n (rest bytes pos))) _ w'
    unfold dgot
    generalize getVals n (rest bytes pos) = V at *
    obtain ⟨l, k, r⟩ := V
    dsimp only at hp hO ⊢
    split
    · rename_i hk
      subst hk
      exact ⟨⟨⟨b', A, c, rfl, hO, hb'⟩, p, hR, hp⟩, hK⟩
    · rename_i hk
      exact ⟨⟨⟨_, _, _, rfl⟩, hk⟩, hK⟩

/-- what Decode says -/
def DcGot (w : World) (X : Except Nat (List Int × List Nat)) (e : Ending) (w' : World) : Prop :=
  (match X with
   | .ok (ts, vs) => ∃ b' A c, e = .returned (.tuple #[.slice A ts.length c, .int .i64 0]) ∧ Ow w' b' 27 2 A ts.length c (cS (ts.zip vs)) ∧ w.heap.size ≤ b'
   | .error k => e = .returned (.tuple #[.slice none 0 0, .int .i64 (k : Int)]) ∧ k ≠ 0) ∧ Nw w w'

theorem Decode_nil (w : World) (A : Option Addr) (c : Nat) : Calls Tryz.prog 11 #[.slice A 0 c] w (DcGot w (cget [])) := by
  go_enter Tryz.func11, Tryz.ntmps11
  go_wp2
  go_ret2
  exact ⟨⟨rfl, by omega⟩, Nw.refl _⟩
theorem Decode_kind (w : World) (b : Nat) (A : Option Addr) (n c tag : Nat) (r : List Nat) (hn : n = r.length + 1) (hr : Rd w b A (cN .u8 (tag :: r))) (ht : tag < 1 ∨ 3 < tag) : Calls Tryz.prog 11 #[.slice A n c] w (DcGot w (cget (tag :: r))) := by
  have e : cget (tag :: r) = .error 9 := by unfold cget; dsimp only; rw [if_pos ht]
  rw [e]
  clear e
  obtain ⟨o, rfl, hb, hc⟩ := hr.get (k := 0) (by simp)
  simp only [Nat.add_zero, cN, List.map_cons, List.getElem_cons_zero] at hc
  have hn0 : ¬ n < 1 := by omega
  have HN := Lib.hid hn
  clear hr hn
  by_cases h0 : tag < 1
  · go_enter Tryz.func11, Tryz.ntmps11
    go_wp2
    go_ret2
    exact ⟨⟨rfl, by omega⟩, Nw.refl _⟩
  · have h3 : 3 < tag := by omega
    go_enter Tryz.func11, Tryz.ntmps11
    go_wp2
    go_ret2
    exact ⟨⟨rfl, by omega⟩, Nw.refl _⟩
theorem Decode_one (w : World) (b : Nat) (A : Option Addr) (c tag : Nat) (hr : Rd w b A (cN .u8 [tag])) (ht : 1 ≤ tag ∧ tag ≤ 3) : Calls Tryz.prog 11 #[.slice A 1 c] w (DcGot w (cget [tag])) := by
  have e : cget [tag] = .error 3 := by unfold cget; dsimp only; rw [if_neg (by omega)]
  rw [e]
  clear e
  obtain ⟨o, rfl, hb, hc⟩ := hr.get (k := 0) (by simp)
  simp only [Nat.add_zero, cN, List.map_cons, List.getElem_cons_zero] at hc
  clear hr
  obtain ⟨h1, h2⟩ := ht
  go_enter Tryz.func11, Tryz.ntmps11
  go_wp2
  go_ret2
  exact ⟨⟨rfl, by omega⟩, Nw.refl _⟩
set_option maxRecDepth 100000 in
theorem Decode_limit (w : World) (b : Nat) (A : Option Addr) (n c tag n1 : Nat) (r : List Nat) (hn : n = r.length + 2) (hr : Rd w b A (cN .u8 (tag :: n1 :: r))) (ht : 1 ≤ tag ∧ tag ≤ 3) (h : 120 ≤ n1) : Calls Tryz.prog 11 #[.slice A n c] w (DcGot w (cget (tag :: n1 :: r))) := by
  have e : cget (tag :: n1 :: r) = .error 7 := by unfold cget; dsimp only; rw [if_neg (by omega), if_pos h]
  rw [e]
  clear e
  obtain ⟨o, rfl, hb, hc⟩ := hr.get (k := 0) (by simp)
  obtain ⟨o', e, _, hc1⟩ := hr.get (k := 1) (by simp)
  injection e with e; injection e with _ e; subst e
  simp only [Nat.add_zero, cN, List.map_cons, List.getElem_cons_zero, List.getElem_cons_succ] at hc hc1
  have hn1 : ¬ n < 1 := by omega
  have hn2 : ¬ n < 2 := by omega
  have HN := Lib.hid hn
  clear hr hn
  obtain ⟨h1, h2⟩ := ht
  go_enter Tryz.func11, Tryz.ntmps11
  go_wp2
  go_ret2
  exact ⟨⟨rfl, by omega⟩, Nw.refl _⟩

theorem rest_zero (r : List Nat) : rest r 0 = up r := by unfold rest; rw [List.drop_zero]
theorem E_smp : ElemT Tryz.prog 22 27 (.agg #[.int .i64 0, .int .u64 0]) 2 16 := ElemT.mk' Tryz.underlying22 (by kernel_rfl) rfl (by omega)
theorem make_smp (W : World) (n : Nat) (h : n ≤ 1000) : (Instr.makeSlice 22 (.int .i64 (n : Int)) (.int .i64 (n : Int))).run Tryz.prog W = .ok (.slice (some ⟨W.heap.size, 0, none⟩) n n) (W.alloc (.cells (madeCells #[.int .i64 0, .int .u64 0] (n * 2)) 27)) := by
  obtain ⟨i0, hi, hz0, hz1, hz2⟩ := E_smp.info
  have := run_make (P := Tryz.prog) (w := W) 22 27 i0 (.agg #[.int .i64 0, .int .u64 0]) Tryz.underlying22 hi hz0 .i64 .i64 n n (by omega) (by omega) (by rw [hz2]; omega) (by omega)
  rw [hz1] at this
  simpa [Value.cells] using this
theorem cS_replicate (n : Nat) : ∀ j, (cS (List.replicate n (0, 0)))[j]? = if j < n * 2 then some (if j % 2 = 0 then .int .i64 0 else .int .u64 0) else none := by
  intro j
  split
  · rename_i h
    obtain ⟨h1, h2⟩ := cS_at (List.replicate n (0, 0)) (j / 2) (by rw [List.length_replicate]; omega)
    rw [List.getElem_replicate] at h1 h2
    split
    · rename_i h3; rw [show j / 2 * 2 = j by omega] at h1; exact h1
    · rename_i h3; rw [show j / 2 * 2 + 1 = j by omega] at h2; exact h2
  · rename_i h
    exact List.getElem?_eq_none (by rw [cS_length, List.length_replicate]; omega)
theorem made_smp (n : Nat) : (madeCells #[Value.int .i64 0, .int .u64 0] (n * 2)).toList = cS (List.replicate n (0, 0)) := by
  apply List.ext_getElem?
  intro j
  rw [cS_replicate]
  split
  · rename_i h
    rw [List.getElem?_eq_getElem (by simpa [madeCells] using h)]
    have : j % 2 = 0 ∨ j % 2 = 1 := by omega
    rcases this with e | e <;> simp [madeCells, e]
  · rename_i h
    exact List.getElem?_eq_none (by simp [madeCells]; omega)
theorem cS_set : ∀ (L : List (Int × Nat)) (k : Nat) (z : Int × Nat), ((cS L).set (k * 2) (.int .i64 z.1)).set (k * 2 + 1) (.int .u64 (z.2 : Int)) = cS (L.set k z) := by
  intro L
  induction L with
  | nil => intro k z; rfl
  | cons y L ih =>
    intro k z
    cases k with
    | zero => rfl
    | succ k =>
      have h := ih k z
      have e : ∀ M : List (Int × Nat), ∀ y, cS (y :: M) = .int .i64 y.1 :: .int .u64 (y.2 : Int) :: cS M := fun _ _ => rfl
      rw [List.set_cons_succ, e, e, ← h, show (k + 1) * 2 = (k * 2) + 1 + 1 by omega]
      rfl
theorem Rdr.bltc {w : World} {g b : Nat} {bytes : List Nat} {pos : Nat} (h : Rdr w g b bytes pos) (hne : bytes ≠ []) : b < w.heap.size := by
  obtain ⟨A, c, _, hr⟩ := h.blk
  obtain ⟨_, _, h, _⟩ := hr.get (k := 0) (by simpa using List.length_pos_iff.2 hne)
  exact h
theorem int_ne {a b : Nat} (h : a ≠ b) : ((a : Int) != (b : Int)) = true := by rw [bne_iff_ne]; omega
theorem Ow.cellI {w : World} {b : Nat} {e : TypeId} {n c k : Nat} {p : Addr} {ts : List Int} {q : IntKind} (h : Ow w b e 1 (some p) n c (cI q ts)) (hn : ts.length = n) (hk : k < ts.length) : w.cell? ⟨b, k, none⟩ = some (.int q ts[k]) := by
  obtain ⟨_, _, h1, _⟩ := h.at_ (j := k) (by omega)
  rw [h1, List.getElem?_eq_getElem (by simpa [cI] using hk)]
  simp [cI]
theorem Ow.cellN {w : World} {b : Nat} {e : TypeId} {n c k : Nat} {p : Addr} {ts : List Nat} {q : IntKind} (h : Ow w b e 1 (some p) n c (cN q ts)) (hn : ts.length = n) (hk : k < ts.length) : w.cell? ⟨b, k, none⟩ = some (.int q (ts[k] : Int)) := by
  obtain ⟨_, _, h1, _⟩ := h.at_ (j := k) (by omega)
  rw [h1, List.getElem?_eq_getElem (by simpa [cN] using hk)]
  simp [cN]
theorem Ow.cell2 {w : World} {b : Nat} {e : TypeId} {n c k : Nat} {p : Addr} {xs : List Value} (h : Ow w b e 2 (some p) n c xs) (hk : k < n) :
    ∃ u0 u1, w.cell? ⟨b, k * 2, none⟩ = some u0 ∧ w.frozen? ⟨b, k * 2, none⟩ = false ∧ w.cell? ⟨b, k * 2 + 1, none⟩ = some u1 ∧ w.frozen? ⟨b, k * 2 + 1, none⟩ = false := by
  obtain ⟨_, _, h1, h2⟩ := h.at_ (j := k * 2) (by omega)
  obtain ⟨_, _, h3, h4⟩ := h.at_ (j := k * 2 + 1) (by omega)
  rw [List.getElem?_eq_getElem (by have := h.len; omega)] at h1 h3
  exact ⟨_, _, h1, h2, h3, h4⟩
theorem tget_nil {N : Nat} (h : 1 ≤ N) : tget N [] = .error 3 := by
  obtain ⟨m, rfl⟩ : ∃ m, N = m + 1 := ⟨N - 1, by omega⟩
  rfl
set_option maxRecDepth 100000 in
set_option maxHeartbeats 4000000 in
theorem Decode_main (w : World) (b : Nat) (A : Option Addr) (n c tag n1 : Nat) (r : List Nat) (hn : n = r.length + 2) (hnc : n ≤ c) (hc2 : ¬ c = 2) (hm : n ≤ 1000000) (hr : Rd w b A (cN .u8 (tag :: n1 :: r))) (hby : ∀ x ∈ r, x < 256) (ht : 1 ≤ tag ∧ tag ≤ 3) (h : n1 < 120) (hG : Gl w) :
    Calls Tryz.prog 11 #[.slice A n c] w (DcGot w (cget (tag :: n1 :: r))) := by
  have hcg : cget (tag :: n1 :: r) = match tget (n1 + 1) (rest r 0) with
      | .error e => .error e
      | .ok (ts, bs) =>
        match vget tag (n1 + 1) bs with
        | .error e => .error e
        | .ok (vs, bs') => if endE bs' ≠ 0 then .error (endE bs') else if tagOf vs ≠ tag then .error 8 else .ok (ts, vs) := by
    rw [rest_zero]
    unfold cget
    dsimp only
    rw [if_neg (by omega), if_neg (by omega)]
    rfl
  obtain ⟨D, hD⟩ : ∃ D, D = cget (tag :: n1 :: r) := ⟨_, rfl⟩
  rw [← hD]
  rw [hcg] at hD
  clear hcg
  obtain ⟨o, rfl, hb, hc⟩ := hr.get (k := 0) (by simp)
  obtain ⟨o', e, _, hc1⟩ := hr.get (k := 1) (by simp)
  injection e with e; injection e with _ e; subst e
  simp only [Nat.add_zero, cN, List.map_cons, List.getElem_cons_zero, List.getElem_cons_succ] at hc hc1
  have hcut := hr.cut (k := 2) (cap := c) (size := 1) (by simp; omega)
  rw [if_neg hc2] at hcut
  simp only [Option.map_some, add_lit', Nat.mul_one, List.drop_succ_cons, List.drop_zero, cN, List.map_cons] at hcut
  have HC := Lib.hid hcut
  have hn1 : ¬ n < 1 := by omega
  have hn2 : ¬ n < 2 := by omega
  have HN := Lib.hid hn
  have HB := Lib.hid hby
  have HG := Lib.hid hG
  have hGl := hG.lt
  obtain ⟨N, hN⟩ : ∃ N, n1 + 1 = N := ⟨_, rfl⟩
  rw [hN] at hD
  obtain ⟨tg, htg⟩ : ∃ tg, tag = tg := ⟨_, rfl⟩
  rw [htg] at hD
  have HD := Lib.hid hD
  have HTG := Lib.hid htg
  have ek : ((n1 : Int) + 1) = (N : Int) := by omega
  have hN1 : 1 ≤ N := by omega
  have hN2 : N ≤ 120 := by omega
  have EK := Lib.hid ek
  have i0 : ∀ W, (Instr.index 57 (.agg encFs) (.int .i64 0)).run Tryz.prog W = .ok (.agg #[.func (.func 38) #[] #[], .func (.func 39) #[] #[], .func (.func 40) #[] #[]]) W := fun _ => by kernel_rfl
  have i1 : ∀ W, (Instr.index 57 (.agg encFs) (.int .i64 1)).run Tryz.prog W = .ok (.agg #[.func (.func 41) #[] #[], .func (.func 42) #[] #[], .func (.func 43) #[] #[]]) W := fun _ => by kernel_rfl
  have i2 : ∀ W, (Instr.index 57 (.agg encFs) (.int .i64 2)).run Tryz.prog W = .ok (.agg #[.func (.func 44) #[] #[], .func (.func 45) #[] #[], .func (.func 46) #[] #[]]) W := fun _ => by kernel_rfl
  have fl0 : ∀ W, (Instr.field 56 (.agg #[.func (.func 38) #[] #[], .func (.func 39) #[] #[], .func (.func 40) #[] #[]]) 2).run Tryz.prog W = .ok (.func (.func 40) #[] #[]) W := fun _ => by kernel_rfl
  have fl1 : ∀ W, (Instr.field 56 (.agg #[.func (.func 41) #[] #[], .func (.func 42) #[] #[], .func (.func 43) #[] #[]]) 2).run Tryz.prog W = .ok (.func (.func 43) #[] #[]) W := fun _ => by kernel_rfl
  have fl2 : ∀ W, (Instr.field 56 (.agg #[.func (.func 44) #[] #[], .func (.func 45) #[] #[], .func (.func 46) #[] #[]]) 2).run Tryz.prog W = .ok (.func (.func 46) #[] #[]) W := fun _ => by kernel_rfl
  have mk := fun W => make_smp W N (by omega)
  clear hr hn hby hG hcut ek hN hD htg
  rcases (show tag = 1 ∨ tag = 2 ∨ tag = 3 by omega) with rfl | rfl | rfl
  all_goals
    go_enter Tryz.func11, Tryz.ntmps11
    go_wp2_with fail
    go_quiet (fail)
    go_wp2_with fail
    rw [EK.out]
    have hNq : Nw w (w.drewN nq) := Nw.drewN w nq
    refine (NewReader_any _ b _ (n - 2) (c - 2) r (by have := HN.out; omega) (by omega) (HC.out.nw hNq) (by simp) HB.out).mono ?_
    rintro e w2 ⟨g, b2, rfl, hR2, hg2, hb2, hNw2⟩
    have hW2 := hNq.trans hNw2
    have hs2 := hW2.size
    have hsq : (w.drewN nq).heap.size = w.heap.size := rfl
    clear hNq hNw2 hc hc1
    generalize w.drewN nq = wq at *
    have hg2 : w.heap.size ≤ g := by omega
    have hb2 : w.heap.size ≤ b2 := by omega
    have hH7 := tGet_any w2 g b2 r 0 N hR2 (by by_cases e : r = []; exact .inr e; exact .inl (hR2.bltc e)) (HG.out.nw hW2) (by omega) (by omega) (by omega)
    have hrb := hR2.bltc
    have hgl := hR2.lt
    obtain ⟨X, hX⟩ : ∃ X, tget N (rest r 0) = X := ⟨_, rfl⟩
    rw [hX] at hH7
    have HX := Lib.hid hX
    have H7 := Lib.hid hH7
    have HRB := Lib.hid hrb
    clear hX hR2 hH7 hrb
    cases X with
    | error k =>
      go_wp2_with fail
      refine H7.out.mono ?_
      rintro e w3 ⟨⟨rfl, hk⟩, hK3⟩
      have hk1 : ((k : Int) != 0) = true := by rw [bne_iff_ne]; omega
      go_wp2_with fail
      go_ret2
      have hD := HD.out
      rw [HX.out] at hD
      dsimp only at hD
      rw [hD]
      exact ⟨⟨rfl, hk⟩, Kp.nw hW2 hK3 hg2 hg2⟩
    | ok y =>
      obtain ⟨ts, bs⟩ := y
      have hinv := tget_inv HX.out
      have hrne : r ≠ [] := by
        intro e
        have hX := HX.out
        rw [e] at hX
        rw [show rest [] 0 = [] from rfl, tget_nil hN1] at hX
        cases hX
      have hb2l := HRB.out hrne
      have HTL := Lib.hid hinv.1
      have HTI := Lib.hid hinv.2.1
      clear hinv hrne HRB
      go_wp2_with fail
      refine H7.out.mono ?_
      rintro e w3 ⟨⟨⟨bt, At, ct, rfl, hOt, hbt⟩, p3, hR3, hp3⟩, hK3⟩
      rw [HTL.out] at hOt
      rw [HTL.out]
      have hs3 := hK3.size
      have hW3 := Kp.nw hW2 hK3 hg2 hg2
      have hH8 := fun (W : World) (hN8 : Nw w3 W) => vGet_any tg (by have := HTG.out; omega) W g b2 r p3 N (hR3.nw hN8) (by have := hN8.size; omega) (HG.out.nw (hW3.trans hN8)) (by omega) hN1 (by omega)
      rw [hp3, show getF tg = _ from congrArg getF HTG.out.symm] at hH8
      obtain ⟨Y, hY⟩ : ∃ Y, vget tg N bs = Y := ⟨_, rfl⟩
      rw [hY] at hH8
      have HY := Lib.hid hY
      have H8 := Lib.hid hH8
      have HOt := Lib.hid hOt
      clear hH8 hY hR3 hOt hp3 H7
      cases Y with
      | error k =>
        go_wp2_with (go_at_call 20; refine (encodings_any _).mono ?_; rintro e w4 ⟨rfl, hN4⟩)
        refine (H8.out _ hN4).mono ?_
        rintro e w5 ⟨⟨⟨A5, n5, c5, rfl⟩, hk⟩, hK5⟩
        have hk1 : ((k : Int) != 0) = true := by rw [bne_iff_ne]; omega
        have hk2 : ((k : Int) == 0) = false := by rw [beq_eq_false_iff_ne]; omega
        go_wp2_with fail
        go_ret2
        have hD := HD.out
        rw [HX.out] at hD
        dsimp only at hD
        rw [HY.out] at hD
        dsimp only at hD
        rw [hD]
        exact ⟨⟨rfl, hk⟩, Kp.nw (hW3.trans hN4) hK5 hg2 hg2⟩
      | ok y =>
        obtain ⟨vs, bs'⟩ := y
        have hinv := vget_inv (by omega) HY.out
        have HVL := Lib.hid hinv.1
        have HVI := Lib.hid hinv.2.1
        clear hinv
        go_wp2_with (go_at_call 20; refine (encodings_any _).mono ?_; rintro e w4 ⟨rfl, hN4⟩)
        refine (H8.out _ hN4).mono ?_
        rintro e w5 ⟨⟨⟨bv, Av, cv, rfl, hOv, hbv⟩, p5, hR5, hp5⟩, hK5⟩
        rw [HVL.out] at hOv
        rw [HVL.out]
        have hs4 := hN4.size
        have hs5 := hK5.size
        have hW5 := Kp.nw (hW3.trans hN4) hK5 hg2 hg2
        have hHE := REnd_any w5 g b2 r p5 hR5
        rw [hp5] at hHE
        have HE := Lib.hid hHE
        have HOv := Lib.hid hOv
        have HOt5 := Lib.hid ((HOt.out.nw hN4).kp hK5 (by omega) (by omega))
        have HCh := Lib.hid (fun (W : World) (hN : Nw w5 W) => Choose_any W bv Av N cv vs HVL.out.symm (by omega) (HOv.out.nw hN).rd (by have := HOv.out.lt (by omega); have := hN.size; omega) HVI.out (HG.out.nw (hW5.trans hN)))
        clear hHE hp5 hR5 hOv HOt H8
        obtain ⟨E, hE⟩ : ∃ E, endE bs' = E := ⟨_, rfl⟩
        rw [hE] at HE
        obtain ⟨T, hT⟩ : ∃ T, tagOf vs = T := ⟨_, rfl⟩
        rw [hT] at HCh
        have HEE := Lib.hid hE
        have HTT := Lib.hid hT
        clear hE hT
        by_cases hE0 : E = 0
        · subst hE0
          by_cases hT1 : T = tg
          · obtain rfl : T = _ := hT1.trans HTG.out.symm
            have HT1 := Lib.hid hT1
            clear hT1
            obtain ⟨rfl, hbtl, _, _⟩ := HOt5.out.at_ (j := 0) (by omega)
            obtain ⟨rfl, hbvl, _, _⟩ := HOv.out.at_ (j := 0) (by omega)
            go_wp2_with (go_at_call 29; refine HE.out.mono ?_; rintro e w6 ⟨rfl, hD6⟩)
            refine (HCh.out _ hD6.nw).mono ?_
            rintro e w7 ⟨rfl, hN7⟩
            have hN57 := hD6.nw.trans hN7
            have hW7 := hW5.trans hN57
            have hs7 := hN57.size
            have hOl := Ow.lit w7 27 2 N (madeCells #[.int .i64 0, .int .u64 0] (N * 2)) (by simp [madeCells]) (by omega)
            rw [made_smp] at hOl
            have hN8 : Nw w7 (w7.alloc (.cells (madeCells #[.int .i64 0, .int .u64 0] (N * 2)) 27)) := (Nw.refl w7).alloc' _
            have hO8t := (HOt5.out.nw hN57).nw hN8
            have hO8v := (HOv.out.nw hN57).nw hN8
            have HOl := Lib.hid hOl
            have HO8t := Lib.hid hO8t
            have HO8v := Lib.hid hO8v
            have HN8 := Lib.hid hN8
            have hl8 : w7.heap.size < (w7.alloc (.cells (madeCells #[.int .i64 0, .int .u64 0] (N * 2)) 27)).heap.size := by simp
            have HL8 := Lib.hid hl8
            clear HE HCh HOt5 HOv hOl hO8t hO8v hN8 hl8 HC HB
            go_wp2_with fail
            generalize w7.alloc (.cells (madeCells #[.int .i64 0, .int .u64 0] (N * 2)) 27) = w8 at *
            obtain ⟨bl, hbl⟩ : ∃ bl, w7.heap.size = bl := ⟨_, rfl⟩
            rw [hbl] at HOl HL8
            rw [hbl]
            have HLl := Lib.hid HL8.out
            have n1t : ¬ bt = bl := by omega
            have n1v : ¬ bv = bl := by omega
            have hblw : w.heap.size ≤ bl := by have := hW7.size; omega
            have hbtl' : bt < bl := by omega
            have hbvl' : bv < bl := by omega
            have HW7 := Lib.hid hW7
            clear hbl
            go_loopw [87] (fun i wr => ∃ k : Nat, k ≤ N ∧ i = .int .i64 k ∧ Ow wr bl 27 2 (some ⟨bl, 0, none⟩) N N (cS ((ts.zip vs).take k ++ List.replicate (N - k) (0, 0))) ∧ Kp bl bl w8 wr) (fun i _ => N - (intOf i).toNat)
            case atStart => exact ⟨0, by omega, rfl, HOl.out, Kp.refl _ _ _⟩
            case round =>
              obtain ⟨k, hk, rfl, hL, hK⟩ := hrel
              have htk : k < N → k < ts.length := by have := HTL.out; omega
              have hvk : k < N → k < vs.length := by have := HVL.out; omega
              have hzk : (ts.zip vs).length = N := by rw [List.length_zip, HTL.out, HVL.out, Nat.min_self]
              have HZK := Lib.hid hzk
              clear hzk
              by_cases hlk : k < N
              · have htk := htk hlk
                have hvk := hvk hlk
                have c1 := (HO8t.out.kp hK n1t n1t).cellI HTL.out htk
                have c2 := (HO8v.out.kp hK n1v n1v).cellN HVL.out hvk
                obtain ⟨u0, u1, c3, f3, c4, f4⟩ := hL.cell2 hlk
                have hlr : bl < wr.heap.size := by have := hK.size; have := HLl.out; omega
                have HL := Lib.hid hL
                have HK := Lib.hid hK
                clear hL hK
                go_wp2_with fail
                go_region
                all_goals
                  go_wp2_with fail
                  go_roundw
                  case rel =>
                    refine ⟨k + 1, by omega, by go_num, ?_, ?_⟩
                    · have h := (HL.out.set_ (k * 2) (.int .i64 ts[k])).set_ (k * 2 + 1) (.int .u64 (vs[k] : Int))
                      have hf := fill_next (ts.zip vs) k N (0, 0) hlk (by rw [HZK.out]; exact hlk)
                      have hs := cS_set ((ts.zip vs).take k ++ List.replicate (N - k) (0, 0)) k ((ts.zip vs)[k]'(by rw [HZK.out]; exact hlk))
                      rw [hf, List.getElem_zip] at hs
                      rw [hs] at h
                      exact h.nw (Nw.drewO _)
                    · exact ((HK.out.setCell' (.inl rfl) _).setCell' (.inl rfl) _).nw' (Nw.drewO _)
                  case measure => simp [intOf]; omega
              · obtain rfl : k = N := by omega
                have HL := Lib.hid hL
                have HK := Lib.hid hK
                clear hL hK
                go_wp2_with fail
                go_ret2
                have hD := HD.out
                rw [HX.out] at hD
                dsimp only at hD
                rw [HY.out] at hD
                dsimp only at hD
                rw [HEE.out, if_neg (by simp), HTT.out, if_neg (by simp [HT1.out])] at hD
                rw [hD]
                have hL := HL.out
                rw [Nat.sub_self, List.replicate_zero, List.append_nil, List.take_of_length_le (by rw [HZK.out]; omega)] at hL
                refine ⟨⟨bl, some ⟨bl, 0, none⟩, k, ?_, by rw [HTL.out]; exact hL, hblw⟩, Kp.nw (HW7.out.trans HN8.out) HK.out hblw hblw⟩
                rw [HTL.out]
                rfl
          · have hk1 := int_ne (fun e => hT1 (e.trans HTG.out))
            push_cast at hk1
            go_wp2_with (go_at_call 29; refine HE.out.mono ?_; rintro e w6 ⟨rfl, hD6⟩)
            refine (HCh.out _ hD6.nw).mono ?_
            rintro e w7 ⟨rfl, hN7⟩
            go_wp2_with fail
            go_ret2
            have hD := HD.out
            rw [HX.out] at hD
            dsimp only at hD
            rw [HY.out] at hD
            dsimp only at hD
            rw [HEE.out, if_neg (by simp), HTT.out, if_pos hT1] at hD
            rw [hD]
            exact ⟨⟨rfl, by omega⟩, (hW5.trans hD6.nw).trans hN7⟩
        · have hk1 : ((E : Int) != 0) = true := by rw [bne_iff_ne]; omega
          have hk2 : ((E : Int) == 0) = false := by rw [beq_eq_false_iff_ne]; omega
          go_wp2_with (go_at_call 29; refine HE.out.mono ?_; rintro e w6 ⟨rfl, hD6⟩)
          go_ret2
          have hD := HD.out
          rw [HX.out] at hD
          dsimp only at hD
          rw [HY.out] at hD
          dsimp only at hD
          rw [HEE.out, if_pos hE0] at hD
          rw [hD]
          exact ⟨⟨rfl, hE0⟩, hW5.trans hD6.nw⟩
end Go.Proofs.YtjepaneniodbpaaGreatDoor

/- chunk.Decode at every slice of bytes. -/
namespace Go.Proofs.YtjepaneniodbpaaGreatDoor
open Go Go.RowKit Go.Sort

set_option maxRecDepth 100000 in
theorem Decode_two (w : World) (b : Nat) (A : Option Addr) (tag n1 : Nat) (hr : Rd w b A (cN .u8 [tag, n1])) (ht : 1 ≤ tag ∧ tag ≤ 3) (h : n1 < 120) (hG : Gl w) :
    Calls Tryz.prog 11 #[.slice A 2 2] w (DcGot w (cget [tag, n1])) := by
  have e : cget [tag, n1] = .error 3 := by
    unfold cget
    dsimp only
    rw [if_neg (by omega), if_neg (by omega), show up [] = [] from rfl, tget_nil (by omega)]
  rw [e]
  clear e
  obtain ⟨o, rfl, hb, hc⟩ := hr.get (k := 0) (by simp)
  obtain ⟨o', e, _, hc1⟩ := hr.get (k := 1) (by simp)
  injection e with e; injection e with _ e; subst e
  simp only [Nat.add_zero, cN, List.map_cons, List.getElem_cons_zero, List.getElem_cons_succ] at hc hc1
  have ek : ((n1 : Int) + 1) = ((n1 + 1 : Nat) : Int) := by omega
  have EK := Lib.hid ek
  have HG := Lib.hid hG
  have hGl := hG.lt
  obtain ⟨h1, h2⟩ := ht
  clear hr ek hG
  go_enter Tryz.func11, Tryz.ntmps11
  go_wp2_with fail
  go_quiet (fail)
  go_wp2_with fail
  have hNq : Nw w (w.drewN nq) := Nw.drewN w nq
  refine (NewReader_any _ b _ 0 0 [] rfl (by omega) (Rd.nil _ _ _) (by simp) (by simp)).mono ?_
  rintro e w2 ⟨g, b2, rfl, hR2, hg2, hb2, hNw2⟩
  have hW2 := hNq.trans hNw2
  have hsq : (w.drewN nq).heap.size = w.heap.size := rfl
  have hH7 := tGet_any w2 g b2 [] 0 (n1 + 1) hR2 (.inr rfl) (HG.out.nw hW2) (by omega) (by omega) (by omega)
  rw [show rest [] 0 = [] from rfl, tget_nil (by omega)] at hH7
  have H7 := Lib.hid hH7
  clear hH7 hR2
  go_wp2_with fail
  rw [EK.out]
  refine H7.out.mono ?_
  rintro e w3 ⟨⟨rfl, hk⟩, hK3⟩
  go_wp2_with fail
  go_ret2
  exact ⟨⟨rfl, hk⟩, Kp.nw hW2 hK3 (by omega) (by omega)⟩

theorem Decode_any (w : World) (b : Nat) (A : Option Addr) (n c : Nat) (bytes : List Nat) (hn : n = bytes.length) (hnc : n ≤ c) (hm : n ≤ 1000000) (hr : Rd w b A (cN .u8 bytes)) (hby : ∀ x ∈ bytes, x < 256) (hG : Gl w) :
    Calls Tryz.prog 11 #[.slice A n c] w (DcGot w (cget bytes)) := by
  match bytes with
  | [] => subst hn; exact Decode_nil w A c
  | tag :: r =>
    by_cases ht : tag < 1 ∨ 3 < tag
    · exact Decode_kind w b A n c tag r (by simpa using hn) hr ht
    · match r with
      | [] => subst hn; exact Decode_one w b A c tag hr (by omega)
      | n1 :: r =>
        by_cases h : 120 ≤ n1
        · exact Decode_limit w b A n c tag n1 r (by simpa using hn) hr (by omega) h
        · by_cases hc2 : c = 2
          · subst hc2
            obtain rfl : r = [] := List.eq_nil_of_length_eq_zero (by simp at hn; omega)
            subst hn
            exact Decode_two w b A tag n1 hr (by omega) (by omega) hG
          · exact Decode_main w b A n c tag n1 r (by simpa using hn) hnc hc2 hm hr (fun x hx => hby x (by simp [hx])) (by omega) (by omega) hG
end Go.Proofs.YtjepaneniodbpaaGreatDoor
