/- The inequality of two labels, and of two samples. -/
import Derived.Test.YtoogadidbbpplaaGreatModChk
import Derived.Laws.StructEq
namespace Go.Proofs.YtoogadidbbpplaaGreat
open Go Go.RowKit Go.Sort

theorem gdLab (op : BinOp) (x y : Operand) (xs ys : Array Value) (w : World) : (eqGuard op 47 x y (.agg xs) (.agg ys)).run Tryz.prog w = .ok () w := run_eqGuard_agg w op _ x y xs ys (by kernel_rfl)
theorem gdSmp (op : BinOp) (x y : Operand) (xs ys : Array Value) (w : World) : (eqGuard op 41 x y (.agg xs) (.agg ys)).run Tryz.prog w = .ok () w := run_eqGuard_agg w op _ x y xs ys (by kernel_rfl)
theorem run_part {P : Program} {t : TypeId} {cs : Array Value} {k : Nat} {v : Value} (w : World) (h : ∀ w, (isAgg t).run P w = .ok false w) (hc : cs[k]? = some v) : (part t cs k).run P w = .ok v w := by
  unfold part
  simp [h, hc]
theorem aggS (w : World) : (isAgg 9).run Tryz.prog w = .ok false w := by kernel_rfl
theorem aggI (w : World) : (isAgg 2).run Tryz.prog w = .ok false w := by kernel_rfl
theorem aggU (w : World) : (isAgg 39).run Tryz.prog w = .ok false w := by kernel_rfl
theorem two_list {α β : Type} {f : α → β} {l : List α} {x y : β} (h : l.map f = [x, y]) : ∃ p q, l = [p, q] ∧ f p = x ∧ f q = y := by
  match l, h with
  | [p, q], h => simp only [List.map_cons, List.map_nil, List.cons.injEq, and_true] at h; exact ⟨p, q, rfl, h.1, h.2⟩
  | [], h => simp at h
  | [_], h => simp at h
  | _ :: _ :: _ :: _, h => simp at h
theorem neqLab (a b c d : ByteArray) (w : World) : (binOp .neq 47 (.agg #[.string a, .string b]) (.agg #[.string c, .string d])).run Tryz.prog w = .ok (.bool (!(a.toList == c.toList && b.toList == d.toList))) w := by
  have hf : (Tryz.prog.fieldsOf 47).toList.map (fun f => (f.name, f.type, f.offset)) = [("Name", 9, 0), ("Value", 9, 1)] := by kernel_rfl
  rw [run_neq_struct, run_equalIn_agg w 9999 _ _ _ (by kernel_rfl) (by kernel_rfl)]
  generalize (Tryz.prog.fieldsOf 47).toList = fs at *
  obtain ⟨f1, f2, rfl, e1, e2⟩ := two_list hf
  simp only [Prod.mk.injEq] at e1 e2
  obtain ⟨h1, h2, h3⟩ := e1
  obtain ⟨h4, h5, h6⟩ := e2
  simp only [Op.eqFields, h1, h2, h3, h4, h5, h6]
  simp [run_part _ aggS, run_equalIn_string w 9998 9 _ _ Tryz.underlying9]
  by_cases h : a.toList = c.toList <;> by_cases g : b.toList = d.toList <;> simp [h, g]
theorem neqSmp (a c : Int) (b d : Nat) (w : World) : (binOp .neq 41 (.agg #[.int .i64 a, .int .u64 (b : Int)]) (.agg #[.int .i64 c, .int .u64 (d : Int)])).run Tryz.prog w = .ok (.bool (!(a == c && (b : Int) == (d : Int)))) w := by
  have hf : (Tryz.prog.fieldsOf 41).toList.map (fun f => (f.name, f.type, f.offset)) = [("T", 2, 0), ("V", 39, 1)] := by kernel_rfl
  rw [run_neq_struct, run_equalIn_agg w 9999 _ _ _ (by kernel_rfl) (by kernel_rfl)]
  generalize (Tryz.prog.fieldsOf 41).toList = fs at *
  obtain ⟨f1, f2, rfl, e1, e2⟩ := two_list hf
  simp only [Prod.mk.injEq] at e1 e2
  obtain ⟨h1, h2, h3⟩ := e1
  obtain ⟨h4, h5, h6⟩ := e2
  simp only [Op.eqFields, h1, h2, h3, h4, h5, h6]
  simp [run_part _ aggI, run_part _ aggU, run_equalIn_int w 9998 2 _ _ _ _ Tryz.underlying2, run_equalIn_int w 9998 39 _ _ _ _ Tryz.underlying39]
  by_cases h : a = c <;> by_cases g : (b : Int) = (d : Int) <;> simp [h, g]
end Go.Proofs.YtoogadidbbpplaaGreat
