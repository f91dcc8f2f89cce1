import Derived.Test.YtjepaneniodbpaaGreatDoorSmp
import Derived.Test.YtjepaneniodbpaaGreatDoorTimPut
import Derived.Deep.AppendLies

/- chunk.Split: slices.Chunk as an iterator, slices.AppendSeq, slices.Collect. -/
namespace Go.Proofs.YtjepaneniodbpaaGreatDoor
open Go Go.RowKit Go.Sort Go.Shelf
attribute [local go_sem] Oper.semAt_some

/-- the parts of n samples, from the i-th on: where they begin and how many they are -/
def partsF : Nat → Nat → Nat → List (Nat × Nat)
  | 0, _, _ => []
  | f + 1, n, i => if i < n then (i, min 120 (n - i)) :: partsF f n (i + 120) else []
def parts (n i : Nat) : List (Nat × Nat) := partsF (n - i) n i
theorem partsF_more : ∀ (f g n i : Nat), n - i ≤ f → f ≤ g → partsF f n i = partsF g n i := by
  intro f
  induction f with
  | zero =>
    intro g n i h _
    cases g with
    | zero => rfl
    | succ g => rw [partsF, partsF, if_neg (by omega)]
  | succ f ih =>
    intro g n i h hg
    obtain ⟨m, rfl⟩ : ∃ m, g = m + 1 := ⟨g - 1, by omega⟩
    rw [partsF, partsF]
    split
    · rw [ih m n (i + 120) (by omega) (by omega)]
    · rfl
theorem parts_lt {n i : Nat} (h : i < n) : parts n i = (i, min 120 (n - i)) :: parts n (i + 120) := by
  unfold parts
  rw [show n - i = (n - i - 1) + 1 by omega, partsF, if_pos h, show (n - i - 1) + 1 = n - i by omega]
  rw [partsF_more (n - (i + 120)) (n - i - 1) n (i + 120) (by omega) (by omega)]
theorem parts_ge {n i : Nat} (h : n ≤ i) : parts n i = [] := by
  unfold parts
  rw [show n - i = 0 by omega]
  rfl
theorem parts_length (n : Nat) : ∀ (f i : Nat), n - i ≤ f → (parts n i).length = (n - i + 119) / 120 := by
  intro f
  induction f with
  | zero => intro i h; rw [parts_ge (by omega)]; simp; omega
  | succ f ih =>
    intro i h
    by_cases hi : i < n
    · rw [parts_lt hi, List.length_cons, ih (i + 120) (by omega)]; omega
    · rw [parts_ge (by omega)]; simp; omega

abbrev partV (bs : Nat) (x : Nat × Nat) : Value := .slice (some ⟨bs, x.1 * 2, none⟩) x.2 x.2

set_option maxRecDepth 100000 in
theorem chunk_stops (q : Nat) (hq : 1 ≤ q) (w : World) (B B2 bs : Nat) (A : Option Addr) (n c : Nat) (hm : n ≤ 1000000) (hnc : n ≤ c) (hA : 0 < n → A = some ⟨bs, 0, none⟩) (hB : w.heap[B]? = some (.cells #[.slice A n c] 22 (0, 0))) (hB2 : w.heap[B2]? = some (.cells #[.int .i64 120] 3 (0, 0))) :
    SeqStopsK Fence.wide q Tryz.prog 64 #[.pointer (some ⟨B, 0, none⟩), .pointer (some ⟨B2, 0, none⟩)] (fun x : Nat × Nat => #[partV bs x]) (KpC B B2) (fun xs => xs = parts n 0) (fun _ => True) (parts n 0).length w := by
  intro lp J Jx W hW hJ hJx hY h0
  have hBW := (hW.block B (lt_of_block hB)).trans hB
  have hBW2 := (hW.block B2 (lt_of_block hB2)).trans hB2
  have HY := Lib.hid hY
  have HJ := Lib.hid hJ
  have HB0 := Lib.hid hBW
  have HB2 := Lib.hid hBW2
  have HA := Lib.hid hA
  clear hY hJ hB hB2 hBW hBW2 hA
  refine callsIn_of_wp Tryz.func64 rfl trivial ?_ rfl
  simp only [Tryz.ntmps64, List.size_toArray, List.length_cons, List.length_nil, Nat.reduceAdd, Nat.reduceSub, Array.replicate_succ, Array.replicate_zero, List.push_toArray, List.append_toArray, List.nil_append, List.cons_append]
  gi_wp2
  gi_loopw [4] (fun v wr => ∃ (pre : List (Nat × Nat)) (k : Nat), k ≤ n + 120 ∧ v = .int .i64 (k : Int) ∧ J pre wr ∧ KpC B B2 W wr ∧ parts n 0 = pre ++ parts n k) (fun v _ => n + 120 - (intOf v).toNat)
  case atStart => exact ⟨[], 0, by omega, rfl, h0, ⟨rfl, rfl, Nat.le_refl _⟩, by simp⟩
  case round =>
    obtain ⟨pre, k, hk, rfl, hJp, hK, hrel⟩ := hrel
    have hBr : wr.cell? ⟨B, 0, none⟩ = some (.slice A n c) := by
      have := hK.1.trans HB0.out
      simp [World.cell?, this]
    have hBr2 : wr.cell? ⟨B2, 0, none⟩ = some (.int .i64 120) := by
      have := hK.2.1.trans HB2.out
      simp [World.cell?, this]
    have HREL := Lib.hid hrel
    have HK := Lib.hid hK
    clear hrel hK h0
    by_cases hlt : k < n
    · obtain rfl := HA.out (by omega)
      have hltI : (k : Int) < (n : Int) := by omega
      have hk0 : (0 : Int) ≤ (k : Int) := by omega
      have hkn : (k : Int) ≤ (n : Int) := by omega
      have hncI : (n : Int) ≤ (c : Int) := by omega
      have hck : ¬ c = k := by omega
      have hkn' : k ≤ n := by omega
      gi_wp2
      refine wpIn_wide.2 ?_
      refine wp_region_quiet_lit (by kernel_rfl) (by kernel_rfl) ?_
      with_reducible refine wpQuiet_step ?_; intro K hK; go_simp; refine hK _ ?_; clear hK K
      with_reducible refine wpQuiet_step ?_; intro K hK; go_simp; refine hK _ ?_; clear hK K
      with_reducible refine wpQuiet_step ?_; intro K hK; go_simp; refine hK _ ?_; clear hK K
      with_reducible refine wpQuiet_step ?_; intro K hK; go_simp; refine hK _ ?_; clear hK K
      with_reducible refine wpQuiet_step ?_; intro K hK; go_simp; refine hK _ ?_; clear hK K
      with_reducible refine wpQuiet_step ?_; intro K hK; go_simp; refine hK _ ?_; clear hK K
      with_reducible refine wpQuiet_step ?_; intro K hK; go_simp; refine hK _ ?_; clear hK K
      with_reducible refine wpQuiet_nil ?_
      rintro _ ⟨nq, rfl⟩
      have he : ((k : Int) + min 120 ((n - k : Nat) : Int)).toNat - k = min 120 (n - k) := by omega
      have hJ2 : J pre (wr.drewN nq) := HJ.out pre wr _ none hJp ⟨rfl, rfl, rfl, Nat.le_refl _, fun _ _ _ => rfl⟩ (fun r e => by cases e)
      have hnext : parts n 0 = (pre ++ [(k, min 120 (n - k))]) ++ parts n (k + 120) := by rw [HREL.out, parts_lt hlt]; simp
      have hplen : pre.length < (parts n 0).length := by rw [hnext]; simp
      obtain ⟨fn, tmps, assign, body, hy, hR⟩ := HY.out pre (k, min 120 (n - k)) _ hJ2 hplen
      dsimp only [partV] at hy
      rw [← he] at hy
      have HR := Lib.hid hR
      have HNX := Lib.hid hnext
      clear hR hJp hJ2 hnext hplen he
      gi_wp2
      refine HR.out.mono ?_
      rintro e W3 (⟨rfl, hJ3, hk3⟩ | ⟨rfl, hJx3⟩)
      · have hKW := HK.out.trans hk3
        have hBr3 : W3.cell? ⟨B2, 0, none⟩ = some (.int .i64 120) := by
          have := hKW.2.1.trans HB2.out
          simp [World.cell?, this]
        have HKW := Lib.hid hKW
        clear hKW
        gi_wp2
        go_roundw
        case rel => exact ⟨_, k + 120, by omega, by simp, hJ3, HKW.out, HNX.out⟩
        case measure => simp [intOf]; omega
      · gi_wp2
        refine bodyPost_ret (results_none rfl _ _ _) rfl ?_
        exact ⟨⟨_, rfl⟩, .inr ⟨_, trivial, hJx3⟩⟩
    · gi_wp2
      go_end0
      refine ⟨⟨_, rfl⟩, .inl ⟨pre, ?_, hJp⟩⟩
      rw [HREL.out, parts_ge (by omega), List.append_nil]
end Go.Proofs.YtjepaneniodbpaaGreatDoor

/- slices.AppendSeq, slices.Collect; chunk.Split. -/
namespace Go.Proofs.YtjepaneniodbpaaGreatDoor
open Go Go.RowKit Go.Sort Go.Shelf
attribute [local go_sem] Oper.semAt_some

theorem E_rows : ElemT Tryz.prog 46 22 (.slice none 0 0) 1 24 := ElemT.mk' Tryz.underlying46 (by kernel_rfl) rfl (by omega)

theorem wpListIn_lies {F : Fence} {n : Nat} {P : Program} (w : World) {ops : Array Oper} {rest : List Oper} {o : Oper} {a : Act} {Q : Exit → Act → World → Prop}
    (hg : o.guard = none) (s x : Operand) (t : TypeId) (hop : o.op = Op.call { callee := Callee.builtin Builtin.append, args := #[s, x], argTypes := #[t, t] })
    (base : Nat) (e : TypeId) (i : TypeInfo) (z : Value) (size bytes : Nat) (h1 : P.underlying t = some (.slice e)) (h2 : P.info? e = some i) (h3 : i.zero = some z) (h4 : i.size = size) (h5 : i.bytes = bytes) (h6 : z.cells.size = size) (h7 : 0 < size)
    (v : Value) (k : Nat) (xs : List Value) (hs : a.eval s = v) (hown : w.ownsRow base e size v k xs) (ad : Addr) (m c : Nat) (news : List Value) (hx : a.eval x = .slice (some ad) m c) (hn : news.length = m * size)
    (hc : ∀ j u, news[j]? = some u → w.cell? (ad.add j) = some u) (h1c : ∀ u ∈ news, u.oneCell' = true) (hm : 0 < m) (b1 : k + m ≤ maxLen) (b2 : (k + m) * bytes ≤ 140737488355328) (b3 : base ≤ w.heap.size)
    (hK : ∀ g cap w', w'.ownsRow base e size (.slice (some ⟨g, 0, none⟩) (k + m) cap) (k + m) (xs ++ news) → w.grownBy w' v.ownBlock → (v.ownBlock = some g ∨ g = w.heap.size) → g < w'.heap.size → wpListIn F n P ops Q rest (a.put o.dst (.slice (some ⟨g, 0, none⟩) (k + m) cap)) w') :
    wpListIn F n P ops Q (o :: rest) a w := by
  refine wpListIn_plain hg fun K hK' => ?_
  obtain ⟨g, cap, w', hrun, r1, r2, r3, r4⟩ := run_append_lies (P := P) w t o.type base e i z size bytes h1 h2 h3 h4 h5 h6 h7 v k xs hown ad m c news hn hc h1c hm b1 b2 b3 _ rfl
  unfold Oper.wpIn
  refine ⟨?_, ?_⟩
  · simp [Oper.about, hop, resolve, Target.leads, Sem.run_pure]
  · rw [Oper.semAt_plain F _ _ (by rw [hop]; intro c hc'; cases hc')]
    simp [execOp, hop, resolve, invoke, builtin, hs, hx, hrun, Result.andThen]
    exact hK' _ _ (hK g cap w' r1 r2 r3 r4)

/-- the rows that were appended, between two rounds -/
def SplI (w : World) (bs : Nat) (pre : List (Nat × Nat)) (W : World) : Prop :=
  ∃ bp Ap cp, W.heap[w.heap.size]? = some (.cells #[.slice Ap pre.length cp] 46 (0, 0)) ∧ Ow W bp 22 1 Ap pre.length cp (pre.map (partV bs)) ∧ w.heap.size < bp ∧ Nw w W
theorem Ow.own {w w' : World} {b : Nat} {e : TypeId} {size n c : Nat} {A : Option Addr} {xs : List Value} {row : Option Nat} (hO : Ow w b e size A n c xs) (hg : w.grownBy w' row) (hr : ∀ r, row = some r → ∃ o : Obj, w.heap[r]? = some o ∧ o.isCells = false) : Ow w' b e size A n c xs := by
  rcases hO with ⟨rfl, h1, h2, h4⟩ | ⟨rfl, hlt2, hO⟩
  · exact .inl ⟨rfl, h1, h2, h4⟩
  · refine .inr ⟨rfl, Nat.lt_of_lt_of_le hlt2 hg.size, hO.1, ?_⟩
    rcases hO.2 with ⟨hv, _⟩ | ⟨g0, cap, cur, hv, hbg, hh, r⟩
    · cases hv
    · have hg0 : b = g0 := by injection hv with x; injection x with x; injection x
      subst hg0
      refine .inr ⟨b, cap, cur, hv, hbg, (hg.block b hlt2 ?_).trans hh, r⟩
      intro e
      obtain ⟨o, h1, h2⟩ := hr _ e.symm
      rw [hh] at h1
      cases h1
      cases h2
theorem SplI.own {w : World} {bs D : Nat} (hD : w.heap.size < D) : OwnFrom D (SplI w bs) := by
  intro pre W W' row h hg hr
  obtain ⟨bp, Ap, cp, h1, h2, h3, h4⟩ := h
  refine ⟨bp, Ap, cp, (hg.block _ (lt_of_block h1) (fun e => by have := (hr _ e.symm).1; omega)).trans h1, h2.own hg (fun r e => (hr r e).2), h3, h4.grown' hg (fun k e => by have := (hr _ e).1; omega)⟩
/-- the block of an own row is a row of cells -/
theorem Ow.blk {w : World} {b : Nat} {e : TypeId} {size n c : Nat} {p : Addr} {xs : List Value} (h : Ow w b e size (some p) n c xs) : ∃ cs fr, w.heap[b]? = some (.cells cs e fr) := by
  rcases h with ⟨h, _⟩ | ⟨h, _, hO⟩
  · cases h
  · rcases hO.2 with ⟨hv, _⟩ | ⟨g0, cap, cur, hv, hbg, hh, r⟩
    · cases hv
    · injection h with h
      subst h
      have hg0 : b = g0 := by injection hv with x; injection x with x; injection x
      subst hg0
      exact ⟨_, _, hh⟩

/-- the box of the rows, behind an append -/
theorem spl_box {W w2 : World} {g bp : Nat} {v : Value} {t e : TypeId} {u : Value} {o : Obj} (hb : W.heap[g]? = some (.cells #[u] t (0, 0))) (hbp : g < bp) (hown : ∀ r, v.ownBlock = some r → r = bp ∧ ∃ cs fr, W.heap[bp]? = some (.cells cs e fr)) (hg : (W.alloc o).grownBy w2 v.ownBlock) :
    w2.cell? ⟨g, 0, none⟩ = some u ∧ w2.frozen? ⟨g, 0, none⟩ = false := by
  have h := (hg.block g (by simp; have := lt_of_block hb; omega) (fun e => by have := (hown _ e.symm).1; omega)).trans ((heap_alloc_old W o (lt_of_block hb)).trans hb)
  exact ⟨by simp [World.cell?, h], by simp [World.frozen?, h]⟩

set_option maxRecDepth 100000 in
theorem AppendSeq_any (w : World) (B B2 bs : Nat) (A : Option Addr) (n c : Nat) (hm : n ≤ 1000000) (hnc : n ≤ c) (hA : 0 < n → A = some ⟨bs, 0, none⟩) (hB : w.heap[B]? = some (.cells #[.slice A n c] 22 (0, 0))) (hB2 : w.heap[B2]? = some (.cells #[.int .i64 120] 3 (0, 0))) :
    Calls Tryz.prog 63 #[.slice none 0 0, .func (.func 64) #[] #[.pointer (some ⟨B, 0, none⟩), .pointer (some ⟨B2, 0, none⟩)]] w fun e w' =>
      ∃ bp Ap cp, e = .returned (.slice Ap (parts n 0).length cp) ∧ Ow w' bp 22 1 Ap (parts n 0).length cp ((parts n 0).map (partV bs)) ∧ w.heap.size ≤ bp ∧ Nw w w' := by
  have hBl := lt_of_block hB
  have hBl2 := lt_of_block hB2
  have hw1 : Nw w (w.alloc (.cells #[.slice none 0 0] 46)) := (Nw.refl w).alloc' _
  have hsz : (w.alloc (.cells #[.slice none 0 0] 46)).heap.size = w.heap.size + 1 := by simp
  obtain ⟨i0, hi, hz0, hz1, hz2⟩ := E_rows.info
  refine (callsIn_wide (n := 4)).1 ?_
  refine callsIn_of_wp_marks Tryz.func63 rfl trivial ?_ rfl
  simp only [Tryz.ntmps63, List.size_toArray, List.length_cons, List.length_nil, Nat.reduceAdd, Nat.reduceSub, Array.replicate_succ, Array.replicate_zero, List.push_toArray, List.append_toArray, List.nil_append, List.cons_append]
  gi_wp2
  refine wpIn_rangeFunc_ownG (F := Fence.wide) (n := 4) rfl (by omega) (gf := 64) (lb := #[.pointer (some ⟨B, 0, none⟩), .pointer (some ⟨B2, 0, none⟩)]) rfl trivial (enters_of Tryz.func64 (by kernel_rfl) rfl)
    (chunk_stops 3 (by omega) _ B B2 bs A n c hm hnc hA ((hw1.block _ hBl).trans hB) ((hw1.block _ hBl2).trans hB2))
    KpC.trans (fun W lq o o' h1 _ _ _ => KpC.putObj _ _ W lq o' (by have := hsz; omega) (by have := hsz; omega)) (Below.refl _ _) (fun _ => rfl)
    (SplI w bs) (fun _ _ _ => False) (SplI.own (by have := hsz; omega)) (fun _ _ _ _ _ hs _ _ => hs) ?start ?a1 ?assign ?body ?done ?stop
  case assign =>
    intro l x W K hK
    gi_wp2
    exact hK
  case stop =>
    intro D c pre W _ _ h _
    exact h.elim
  case start =>
    exact ⟨w.heap.size + 1, none, 0, heap_alloc_new w _, Ow.nil _ _ _ _, by omega, hw1⟩
  case body =>
    intro lq pre x W hI hlt
    obtain ⟨bp, Ap, cp, hb, hO, hbp, hN⟩ := hI
    have hpl := parts_length n n 0 (by omega)
    have hc : W.cell? ⟨w.heap.size, 0, none⟩ = some (.slice Ap pre.length cp) := by simp [World.cell?, hb]
    have hrow := (hO.nw ((Nw.refl W).alloc' (.cells #[partV bs x] 22))).row
    have hlW := lt_of_block hb
    have hown : ∀ r, (Value.slice Ap pre.length cp).ownBlock = some r → r = bp ∧ ∃ cs fr, W.heap[bp]? = some (.cells cs 22 fr) := by
      intro r hr
      cases Ap with
      | none => simp [Value.ownBlock] at hr
      | some p =>
        have hbk := hO.blk
        rcases hO with ⟨h, _⟩ | ⟨h, _⟩
        · cases h
        · injection h with h
          subst h
          simp [Value.ownBlock] at hr
          exact ⟨hr.symm, hbk⟩
    have HOWN := Lib.hid hown
    have HO := Lib.hid hO
    have HB := Lib.hid hb
    have hpl2 : pre.length ≤ 1000000 := by omega
    clear hown hO hpl hlt
    gi_wp2_with (gi_at_builtin; refine wpListIn_lies _ rfl (.tmp 8) (.tmp 10) 46 rfl 0 22 i0 (.slice none 0 0) 1 24 E_rows.und hi hz0 hz1 hz2 rfl (by omega) _ _ _ rfl hrow ⟨W.heap.size, 0, none⟩ 1 1 [partV bs x] rfl rfl (cell_one_new W _ _) (by intro v hv; simp at hv; subst hv; rfl) (by omega) (by simp only [maxLen]; omega) (by omega) (Nat.zero_le _) ?_; intro g cap w2 r1 r2 r3 r4; have hc2 := spl_box (v := .slice Ap pre.length cp) hb hbp HOWN.out r2)
    have hN1 : Nw W (W.alloc (.cells #[partV bs x] 22)) := (Nw.refl W).alloc' _
    have hk1 : Kp bp bp W w2 := (hN1.kp bp bp).grown r2 (fun k e => .inl (HOWN.out k e).1)
    have hgb : w.heap.size < g := by
      rcases r3 with e | e
      · rw [(HOWN.out g e).1]; exact hbp
      · rw [e]; simp; omega
    have hst : Kp w.heap.size w.heap.size w2 (w2.setCell ⟨w.heap.size, 0, none⟩ (.slice (some ⟨g, 0, none⟩) (pre.length + 1) cap)) := (Kp.refl _ _ _).setCell' (p := ⟨w.heap.size, 0, none⟩) (.inl rfl) _
    have hs1 := hk1.size
    have hs2 := hst.size
    have hsW := hN.size
    have hbp' : w.heap.size ≤ bp := by omega
    have hNf : Nw w (w2.setCell ⟨w.heap.size, 0, none⟩ (.slice (some ⟨g, 0, none⟩) (pre.length + 1) cap)) := Kp.nw (Kp.nw hN hk1 hbp' hbp') hst (Nat.le_refl _) (Nat.le_refl _)
    have hbx2 := ((hk1.block w.heap.size hlW (by omega) (by omega)).trans hb)
    refine ⟨⟨by omega, fun k o hk1' ho hoc => ?_⟩, ⟨?_, ?_, by omega⟩, g, some ⟨g, 0, none⟩, cap, ?_, ?_, hgb, hNf⟩
    · have hkl := lt_of_block ho
      have hkb : k ≠ bp ∨ (∀ r, (Value.slice Ap pre.length cp).ownBlock = some r → False) := by
        by_cases e : k = bp
        · right
          intro r hr
          obtain ⟨cs, fr, hcs⟩ := (HOWN.out r hr).2
          rw [e, hcs] at ho
          cases ho
          cases hoc
        · exact .inl e
      rcases hkb with hkb | hkb
      · exact (hst.block k (by omega) (by omega) (by omega)).trans ((hk1.block k hkl hkb hkb).trans ho)
      · have hNN : Nw W w2 := hN1.grown' r2 (fun r e => (hkb r e).elim)
        exact (hst.block k (by omega) (by omega) (by omega)).trans ((hNN.block k hkl).trans ho)
    · exact (hst.block B (by omega) (by omega) (by omega)).trans (hk1.block B (by omega) (by omega) (by omega))
    · exact (hst.block B2 (by omega) (by omega) (by omega)).trans (hk1.block B2 (by omega) (by omega) (by omega))
    · rw [List.length_append, List.length_singleton]
      simp [World.setCell, Array.getElem?_modify, hbx2]
    · have h : Ow w2 g 22 1 (some ⟨g, 0, none⟩) (pre.length + 1) cap (pre.map (partV bs) ++ [partV bs x]) := .inr ⟨rfl, r4, r1⟩
      rw [List.length_append, List.length_singleton, List.map_append, List.map_singleton]
      exact h.kp hst (by omega) (by omega)
  case done =>
    intro D ys W hD hS hI hK
    obtain ⟨bp, Ap, cp, hb, hO, hbp, hN⟩ := hI
    have hc : W.cell? ⟨w.heap.size, 0, none⟩ = some (.slice Ap ys.length cp) := by simp [World.cell?, hb]
    rw [hS] at hc hO
    clear hS
    gi_wp2
    refine ⟨by simp, .inl ⟨_, _, rfl, run_takeDeferred hK, ?_⟩⟩
    refine ⟨_, results_tmp rfl _ _ _, bp, Ap, cp, rfl, hO.own (grownBy_putObj' W D _) (fun k e => by cases e; exact ⟨_, hK, rfl⟩), by omega, hN.grown' (grownBy_putObj' W D _) (fun k e => by cases e; have := hsz; omega)⟩

theorem Collect_any (w : World) (B B2 bs : Nat) (A : Option Addr) (n c : Nat) (hm : n ≤ 1000000) (hnc : n ≤ c) (hA : 0 < n → A = some ⟨bs, 0, none⟩) (hB : w.heap[B]? = some (.cells #[.slice A n c] 22 (0, 0))) (hB2 : w.heap[B2]? = some (.cells #[.int .i64 120] 3 (0, 0))) :
    Calls Tryz.prog 34 #[.func (.func 64) #[] #[.pointer (some ⟨B, 0, none⟩), .pointer (some ⟨B2, 0, none⟩)]] w fun e w' =>
      ∃ bp Ap cp, e = .returned (.slice Ap (parts n 0).length cp) ∧ Ow w' bp 22 1 Ap (parts n 0).length cp ((parts n 0).map (partV bs)) ∧ w.heap.size ≤ bp ∧ Nw w w' := by
  have HA := Lib.hid (AppendSeq_any w B B2 bs A n c hm hnc hA hB hB2)
  clear hA hB hB2
  go_enter Tryz.func34, Tryz.ntmps34
  go_wp2_with fail
  refine HA.out.mono ?_
  rintro e w1 ⟨bp, Ap, cp, rfl, h1, h2, h3⟩
  go_wp2
  go_ret
  exact ⟨bp, Ap, cp, rfl, h1, h2, h3⟩
theorem Chunk_any (w : World) (A : Option Addr) (n c : Nat) : Calls Tryz.prog 35 #[.slice A n c, .int .i64 120] w fun e w' =>
    e = .returned (.func (.func 64) #[] #[.pointer (some ⟨w.heap.size, 0, none⟩), .pointer (some ⟨w.heap.size + 1, 0, none⟩)]) ∧ w' = (w.alloc (.cells #[.slice A n c] 22)).alloc (.cells #[.int .i64 120] 3) := by
  go_enter Tryz.func35, Tryz.ntmps35
  go_wp2
  go_ret
  exact ⟨rfl, rfl⟩

/-- Split: its rows lie in the block bs, which reads as the samples -/
theorem Split_any (w : World) (b : Nat) (A : Option Addr) (n c : Nat) (zs : List (Int × Nat)) (hn : n = zs.length) (hm : n ≤ 1000000) (hr : Rd w b A (cS zs)) (hA : A = none → c = 0) :
    Calls Tryz.prog 16 #[.slice A n c] w fun e w' => ∃ bs bp A2 c2 Ap cp, e = .returned (.slice Ap (parts n 0).length cp) ∧ Ow w' bp 22 1 Ap (parts n 0).length cp ((parts n 0).map (partV bs)) ∧ w.heap.size ≤ bp ∧
      Ow w' bs 27 2 A2 n c2 (cS zs) ∧ w.heap.size ≤ bs ∧ Nw w w' := by
  have HC := Lib.hid (CloneS_any w b A n c zs hn (by omega) hr hA)
  clear hr hn hA
  go_enter Tryz.func16, Tryz.ntmps16
  go_wp2_with fail
  refine HC.out.mono ?_
  rintro e w1 ⟨bs, A1, c1, rfl, hO1, hb1, hN1, hc1⟩
  have HO1 := Lib.hid hO1
  clear hO1
  go_wp2_with fail
  refine (Chunk_any w1 A1 n c1).mono ?_
  rintro e w2 ⟨rfl, rfl⟩
  have hN2 : Nw w1 ((w1.alloc (.cells #[.slice A1 n c1] 22)).alloc (.cells #[.int .i64 120] 3)) := ((Nw.refl w1).alloc' _).alloc' _
  have HCo := Lib.hid (Collect_any ((w1.alloc (.cells #[.slice A1 n c1] 22)).alloc (.cells #[.int .i64 120] 3)) w1.heap.size (w1.heap.size + 1) bs A1 n c1 hm hc1 (fun h => (HO1.out.at_ (j := 0) (by omega)).1) (heap_alloc2_old w1 _ _) (heap_alloc2_new w1 _ _))
  have hs2 := hN2.size
  have hs1 := hN1.size
  generalize (w1.alloc (.cells #[.slice A1 n c1] 22)).alloc (.cells #[.int .i64 120] 3) = w2 at *
  go_wp2_with fail
  refine HCo.out.mono ?_
  rintro e w3 ⟨bp, Ap, cp, rfl, h1, h2, h3⟩
  go_wp2
  go_ret
  exact ⟨bs, bp, A1, c1, Ap, cp, rfl, h1, by omega, (HO1.out.nw hN2).nw h3, hb1, (hN1.trans hN2).trans h3⟩
end Go.Proofs.YtjepaneniodbpaaGreatDoor
