/- Laws on copy of a whole row and on make, at elements of several cells. -/
import Derived.Test.YtoogadidbbpplaaGreatEqM
import Derived.Laws.CopyOwn
import Derived.Laws.CopyRow
namespace Go.Proofs.YtoogadidbbpplaaGreat
open Go Go.RowKit Go.Sort

theorem Ow.of_heap {w : World} {g : Nat} {e : TypeId} {size n : Nat} {cs : Array Value} (h : w.heap[g]? = some (.cells cs e (0, 0))) (hs : cs.size = n * size) (hn : n ≤ 9223372036854775807) : Ow w g e size (some ⟨g, 0, none⟩) n n cs.toList :=
  .inr ⟨rfl, lt_of_block h, by simpa using hs, .inr ⟨g, n, cs, rfl, Nat.zero_le _, h, by omega, by simpa [maxLen] using hn, hs, by rw [← hs, ← Array.length_toList, List.take_length]⟩⟩
theorem Ow.heap {w : World} {g : Nat} {e : TypeId} {size n c : Nat} {a : Addr} {xs : List Value} (h : Ow w g e size (some a) n c xs) : ∃ cs : Array Value, w.heap[g]? = some (.cells cs e (0, 0)) ∧ cs.size = c * size ∧ cs.toList.take (n * size) = xs ∧ a = ⟨g, 0, none⟩ := by
  rcases h with ⟨h, _⟩ | ⟨h1, _, h2⟩
  · cases h
  · obtain ⟨_, h3⟩ := h2
    rcases h3 with ⟨hv, _⟩ | ⟨g0, cap, cur, hv, _, hh, q1, q2, q3, q4⟩
    · cases hv
    · injection hv with e1 e2 e3
      injection e1 with e1
      injection h1 with h1
      subst h1
      injection e1 with e1 _
      subst e1 e3
      exact ⟨cur, hh, by simpa using q3, by first | exact q4.symm | exact q4 | (have := q4; simp at this; exact this.symm), rfl⟩

theorem run_copyK {P : Program} (w : World) (dT sT ty elem : TypeId) (k g n dCap : Nat) (b : Nat) (A : Option Addr) (sCap : Nat) (cur : Array Value) (t : TypeId) (cs : List Value)
    (hu : P.underlying dT = some (.slice elem)) (hs : (P.info? elem).map (·.size) = some k)
    (hg : w.heap[g]? = some (.cells cur t (0, 0))) (hn : cs.length = n * k) (hc : cur.size = n * k) (hr : Rd w b A cs) (h1 : ∀ v ∈ cs, v.oneCell' = true) :
    (Builtin.copy_ #[dT, sT] ty #[.slice (some ⟨g, 0, none⟩) n dCap, .slice A n sCap]).run P w = .ok (goInt n) (w.setRow g cs.toArray) := by
  have hst := run_storeCells_at P g 0 t cs 0 cur w hg (by simp; omega) h1
  have he : (cur.toList.take (0 + 0) ++ cs ++ cur.toList.drop (0 + 0 + cs.length)).toArray = cs.toArray := by
    rw [List.drop_eq_nil_of_le (by simp; omega)]; simp
  rw [he] at hst
  cases hq : P.info? elem with
  | none => simp [hq] at hs
  | some i =>
    have hi : i.size = k := by simpa [hq] using hs
    cases A with
    | none =>
      have hcs : cs = [] := by
        rcases hr with h | ⟨o, h, _⟩
        · exact h
        · cases h
      subst hcs
      simp [Builtin.copy_, run_underlying hu, Builtin.lenOf, Builtin.firstCells, sizeOf, typeInfo, hq, hst]
    | some a =>
      have hl := run_loadCells_list (P := P) w a cs (by
        intro j v hv
        rcases hr with h | ⟨o, h, _, hcc⟩
        · rw [h] at hv; simp at hv
        · injection h with h; subst h; rw [add_lit']; exact hcc j v hv)
      rw [hn] at hl
      simp [Builtin.copy_, run_underlying hu, Builtin.lenOf, Builtin.firstCells, sizeOf, typeInfo, hq, hi, hl, hst]

theorem wpList_copyK {P : Program} {w : World} {ops : Array Oper} {rest : List Oper} {o : Oper} {a : Act} {Q : Exit → Act → World → Prop} {t e : TypeId} {z : Value} {size bytes : Nat} (E : ElemT P t e z size bytes) (hgd : o.guard = none) (d s : Operand)
    (ho : o.op = .call { callee := .builtin .copy, args := #[d, s], argTypes := #[t, t] })
    {g n dCap b sCap : Nat} {A : Option Addr} {cur : List Value} {cs : List Value} (hd : a.eval d = .slice (some ⟨g, 0, none⟩) n dCap) (hs : a.eval s = .slice A n sCap)
    (hg : Ow w g e size (some ⟨g, 0, none⟩) n n cur) (hr : Rd w b A cs) (hn : cs.length = n * size) (h1 : ∀ v ∈ cs, v.oneCell' = true)
    (h : ∀ w', Ow w' g e size (some ⟨g, 0, none⟩) n n cs → Kp g g w w' → w'.heap.size = w.heap.size → wpList P ops Q rest (a.put o.dst (goInt n)) w') : wpList P ops Q (o :: rest) a w := by
  refine wpList_plain hgd fun K hK => ?_
  obtain ⟨ca, hh, q3, q4, _⟩ := hg.heap
  obtain ⟨i, hi, hz, hsz, hby⟩ := E.info
  have hcap := hg.cap
  have hrun := run_copyK (P := P) w t t o.type e size g n dCap b A sCap ca e cs E.und (by rw [hi]; simp [hsz]) hh hn q3 hr h1
  unfold Oper.wp
  simp [execOp, ho, resolve, invoke, builtin, hd, hs, hrun, Result.andThen]
  refine hK _ _ (h _ ?_ ?_ (by simp [World.setRow]))
  · have := Ow.of_heap (size := size) (n := n) (setRow_heap w g ca cs.toArray e (0, 0) hh) (by simpa using hn) hcap.2
    simpa using this
  · exact ⟨rfl, rfl, rfl, by simp [World.setRow], fun k hk h2 _ => setRow_other w g k _ (by omega)⟩

theorem c2_set {α : Type} {f h : α → Value} : ∀ (L : List α) (k : Nat) (z : α), ((c2 f h L).set (k * 2) (f z)).set (k * 2 + 1) (h z) = c2 f h (L.set k z) := by
  intro L
  induction L with
  | nil => intro k z; simp [c2]
  | cons y L ih =>
    intro k z
    have e : ∀ (M : List α) y, c2 f h (y :: M) = f y :: h y :: c2 f h M := fun _ _ => rfl
    cases k with
    | zero => simp [e]
    | succ k =>
      rw [e, show (k + 1) * 2 = k * 2 + 1 + 1 by omega, show k * 2 + 1 + 1 + 1 = k * 2 + 1 + 1 + 1 from rfl, List.set_cons_succ, List.set_cons_succ, List.set_cons_succ, List.set_cons_succ, ih, ← e]
      rfl
theorem E_ser : ElemT Tryz.prog 22 37 (.agg #[.slice none 0 0, .slice none 0 0]) 2 48 := ElemT.mk' Tryz.underlying22 (by kernel_rfl) rfl (by omega)
theorem E_smp : ElemT Tryz.prog 35 41 (.agg #[.int .i64 0, .int .u64 0]) 2 16 := ElemT.mk' Tryz.underlying35 (by kernel_rfl) rfl (by omega)
theorem make_any {P : Program} {t e : TypeId} {z : Value} {size bytes : Nat} (E : ElemT P t e z size bytes) (W : World) (n : Nat) (h : n ≤ 1000000) (hb : bytes ≤ 64) : (Instr.makeSlice t (.int .i64 (n : Int)) (.int .i64 (n : Int))).run P W = .ok (.slice (some ⟨W.heap.size, 0, none⟩) n n) (W.alloc (.cells (madeCells z.cells (n * size)) e)) := by
  obtain ⟨i0, hi, hz0, hz1, hz2⟩ := E.info
  have hb2 : n * bytes ≤ 1000000 * 64 := Nat.mul_le_mul h hb
  have hb3 : (bytes : Int) * (n : Int) ≤ 281474976710656 := by
    have h4 := Int.ofNat_le.2 hb2
    rw [Int.natCast_mul] at h4
    rw [Int.mul_comm]
    omega
  have := run_make (P := P) (w := W) t e i0 z E.und hi hz0 .i64 .i64 n n (by omega) (by omega) (by rw [hz2]; exact hb3) (by omega)
  rw [hz1] at this
  exact this
theorem made_ow (e : TypeId) (z : Value) (size : Nat) (W : World) (n : Nat) (h : n ≤ 1000000) : Ow (W.alloc (.cells (madeCells z.cells (n * size)) e)) W.heap.size e size (some ⟨W.heap.size, 0, none⟩) n n (madeCells z.cells (n * size)).toList :=
  Ow.of_heap (heap_alloc_new _ _) (by simp [madeCells]) (by omega)
end Go.Proofs.YtoogadidbbpplaaGreat
