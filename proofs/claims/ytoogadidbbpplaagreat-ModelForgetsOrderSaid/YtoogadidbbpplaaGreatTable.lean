/- Tables of strings: slices.Collect, slices.Sorted over slices.Values; symbols.Table; model.Symbols. -/
import Derived.Test.YtoogadidbbpplaaGreatSeq
import Derived.Test.YtoogadidbbpplaaGreatShelf
import Derived.Test.YtoogadidbbpplaaGreatCopy
namespace Go.Proofs.YtoogadidbbpplaaGreat
open Go Go.RowKit Go.Sort Go.Shelf Go.Lib

theorem Ow.of_heapT {w : World} {g : Nat} {e : TypeId} {size n c : Nat} {cs : Array Value} (h : w.heap[g]? = some (.cells cs e (0, 0))) (hs : cs.size = c * size) (hnc : n ≤ c) (hn : c ≤ 9223372036854775807) : Ow w g e size (some ⟨g, 0, none⟩) n c (cs.toList.take (n * size)) := by
  have hle : n * size ≤ c * size := Nat.mul_le_mul_right _ hnc
  exact .inr ⟨rfl, lt_of_block h, by simp; omega, .inr ⟨g, c, cs, rfl, Nat.zero_le _, h, hnc, by simpa [maxLen] using hn, hs, rfl⟩⟩
/-- a slice cut at its end -/
theorem Ow.cut {w : World} {g : Nat} {e : TypeId} {size n c k : Nat} {A : Option Addr} {xs : List Value} (h : Ow w g e size A n c xs) (hk : k ≤ n) : Ow w g e size A k c (xs.take (k * size)) := by
  cases A with
  | none =>
    rcases h with ⟨_, rfl, rfl, rfl⟩ | ⟨h, _⟩
    · obtain rfl : k = 0 := by omega
      simpa using Ow.nil w g e size
    · cases h
  | some a =>
    obtain ⟨cs, hh, hs, ht, rfl⟩ := h.heap
    have hc := h.cap
    have := Ow.of_heapT (n := k) hh hs (by omega) hc.2
    rw [← ht, List.take_take, Nat.min_eq_left (Nat.mul_le_mul_right _ hk)]
    exact this
theorem put_ow {α : Type} [Inhabited α] {enc : α → Value} {w : World} {g : Nat} {e : TypeId} {a : Addr} {n c m : Nat} {d : Array α} {xs : List Value} (hO : Ow w g e 1 (some a) n c xs) (hd : d.size = n) (os : Array Obj) :
    Ow (grow (putRow enc (Sort.ahead w m) g 0 d) os) g e 1 (some ⟨g, 0, none⟩) n c (d.toList.map enc) ∧ Kp g g w (grow (putRow enc (Sort.ahead w m) g 0 d) os) := by
  obtain ⟨cs, hh, hs, _, _⟩ := hO.heap
  have hcap := hO.cap
  have hg := lt_of_block hh
  have hheap : (grow (putRow enc (Sort.ahead w m) g 0 d) os).heap[g]? = some (.cells (putCells enc 0 d cs) e (0, 0)) := by
    rw [heap_grow_old _ _ (by simpa [putRow, mapBlock, Sort.ahead] using hg)]
    simp [putRow, mapBlock, Sort.ahead, Array.getElem?_modify, hh, onCells]
  constructor
  · have := Ow.of_heapT (size := 1) (n := n) hheap (by simpa [putCells] using hs) hcap.1 hcap.2
    have ht : (putCells enc 0 d cs).toList.take (n * 1) = d.toList.map enc := by
      apply List.ext_getElem?
      intro j
      by_cases hj : j < n
      · rw [List.getElem?_take_of_lt (by omega), Array.getElem?_toList]
        have hcs : j < cs.size := by rw [hs]; omega
        simp only [putCells, Array.getElem?_mapIdx, Array.getElem?_eq_getElem hcs, Option.map_some]
        rw [if_pos ⟨Nat.zero_le _, by omega⟩]
        simp [hd, hj]
      · rw [List.getElem?_take_eq_none (by omega), List.getElem?_eq_none (by simp; omega)]
    rwa [ht] at this
  · refine ⟨rfl, rfl, rfl, by simp [putRow, mapBlock, Sort.ahead], fun k hk h1 _ => ?_⟩
    rw [heap_grow_old _ _ (by simpa [putRow, mapBlock, Sort.ahead] using hk)]
    have : g ≠ k := fun e => h1 e.symm
    simp [putRow, mapBlock, Sort.ahead, Array.getElem?_modify, this]
theorem holds_one {α : Type} [Inhabited α] {enc : α → Value} {w : World} {g : Nat} {e : TypeId} {a : Addr} {c : Nat} {d : Array α} (hO : Ow w g e 1 (some a) d.size c (d.toList.map enc)) : Holds enc w g 0 d := by
  intro j hj
  obtain ⟨_, _, h1, h2⟩ := hO.at_ (j := j) (by omega)
  rw [Nat.zero_add]
  refine ⟨?_, h2⟩
  rw [h1, List.getElem?_map, List.getElem?_eq_getElem (by simpa using hj), Option.map_some, getElem!_pos d j hj]
  simp

/-- strings as lists of bytes -/
abbrev bys (l : List ByteArray) : List (List UInt8) := l.map (·.toList)
theorem enc_bys (l : List ByteArray) : (bys l).map encStr = cT l := by
  unfold bys cT
  rw [List.map_map]
  apply List.map_congr_left
  intro x _
  show Value.string ⟨x.toList.toArray⟩ = .string x
  rw [ByteArray.toList_eq]
/-- a table: the strings that are there, in order, each once -/
def tbl (l : List ByteArray) : List (List UInt8) := compact ((bys l).mergeSort fun x y => decide (x ≤ y))
theorem compact_le {α : Type} [Inhabited α] [DecidableEq α] (zs : List α) : (compact zs).length ≤ zs.length := by
  unfold compact compactUpTo
  rw [List.length_map]
  exact Nat.le_trans (List.length_filter_le _ _) (by simp)

theorem Collect_any (w : World) (Bs : Nat) (A : Option Addr) (len cap : Nat) (xs : List ByteArray) (hm : xs.length ≤ 1000000) (hBs : Bs < w.heap.size) (hc0 : w.cell? ⟨Bs, 0, none⟩ = some (.slice A len cap)) (hL : StrsAt w.heap.size w A len xs) :
    Calls Tryz.prog 73 #[.func (.func 75) #[] #[.pointer (some ⟨Bs, 0, none⟩)]] w fun e W' => ∃ v, e = .returned v ∧ W'.ownsRow w.heap.size 9 1 v xs.length (xs.map Value.string) ∧ (v = .slice none 0 0 ↔ xs = []) ∧ RowKit.Below w.heap.size w W' := by
  have HA := Lib.hid (callsIn_wide.1 (AppendSeq_in Fence.wide 3 trivial trivial rfl (by omega) Bs A len cap xs (by simp only [maxLen]; omega) (by omega) w hBs hc0 hL))
  go_enter Tryz.func73, Tryz.ntmps73
  go_wp2_with (go_at_call 89; refine HA.out.mono ?_; rintro e w1 ⟨v, rfl, h1, h2, h3⟩)
  go_ret
  exact ⟨v, rfl, h1, h2, h3⟩

theorem Sorted_any (w : World) (Bs : Nat) (A : Option Addr) (len cap : Nat) (xs : List ByteArray) (hm : xs.length ≤ 1000000) (hBs : Bs < w.heap.size) (hc0 : w.cell? ⟨Bs, 0, none⟩ = some (.slice A len cap)) (hL : StrsAt w.heap.size w A len xs) :
    Calls Tryz.prog 58 #[.func (.func 75) #[] #[.pointer (some ⟨Bs, 0, none⟩)]] w fun e W' => ∃ g A' c', e = .returned (.slice A' xs.length c') ∧ ((A' = none ∧ c' = 0 ∧ xs = []) ∨ (A' = some ⟨g, 0, none⟩ ∧ w.heap.size ≤ g)) ∧ Ow W' g 9 1 A' xs.length c' (((bys xs).mergeSort fun x y => decide (x ≤ y)).map encStr) ∧ Nw w W' := by
  have HC := Lib.hid (Collect_any w Bs A len cap xs hm hBs hc0 hL)
  clear hBs hc0 hL
  by_cases h0 : xs = []
  · subst h0
    go_enter Tryz.func58, Tryz.ntmps58
    go_wp2_with (first
      | (go_at_call 74; refine (Tryz.slices_Sort_string_none none 0 _).mono ?_; rintro e w2 ⟨rfl, rfl⟩)
      | (go_at_call 73; refine HC.out.mono ?_; rintro e w1 ⟨v, rfl, h1, h2, h3⟩; obtain rfl := h2.2 rfl))
    go_ret
    exact ⟨0, none, 0, rfl, by simp, by simpa using Ow.nil _ _ _ _, h3⟩
  · go_enter Tryz.func58, Tryz.ntmps58
    go_wp2_with fail
    refine HC.out.mono ?_
    rintro e w1 ⟨v, rfl, h1, h2, h3⟩
    obtain ⟨hl1, h4⟩ := h1
    rcases h4 with ⟨hv, _⟩ | ⟨g, cp, cur, hv, hg, hh, q1, q2, q3, q4⟩
    · exact (h0 (h2.1 hv)).elim
    · subst hv
      have hO : Ow w1 g 9 1 (some ⟨g, 0, none⟩) xs.length cp (cT xs) := .inr ⟨rfl, lt_of_block hh, hl1, .inr ⟨g, cp, cur, rfl, Nat.zero_le _, hh, q1, q2, q3, q4⟩⟩
      have hlb : (bys xs).length = xs.length := List.length_map _
      have hO' : Ow w1 g 9 1 (some ⟨g, 0, none⟩) (bys xs).toArray.size cp ((bys xs).toArray.toList.map encStr) := by
        rw [List.size_toArray, List.toList_toArray, enc_bys, hlb]; exact hO
      have hS := Tryz.slices_Sort_string g 0 cp (bys xs) w1 (holds_one hO') (lt_of_block hh) (by rw [hlb]; omega)
      rw [hlb] at hS
      have hms : ((bys xs).mergeSort fun x y => decide (x ≤ y)).toArray.size = xs.length := by simp
      have HO := Lib.hid fun m os => put_ow (enc := encStr) (m := m) hO hms os
      obtain ⟨Z, hZ⟩ : ∃ Z, (bys xs).mergeSort (fun x y => decide (x ≤ y)) = Z := ⟨_, rfl⟩
      rw [hZ] at hS hms HO
      have HZ := Lib.hid hZ
      have HS := Lib.hid hS
      have H3 := Lib.hid h3
      clear hO hO' hS hh q1 q2 q3 q4 hl1 h2 h3 hZ
      go_wp2_with (go_at_call 74; refine HS.out.mono ?_; rintro e w2 ⟨rfl, m, os, rfl⟩)
      go_ret
      have h5 := HO.out m os
      rw [HZ.out]
      refine ⟨g, _, cp, rfl, .inr ⟨rfl, hg⟩, h5.1, Kp.nw H3.out h5.2 hg hg⟩

theorem StrsAt.of_rd {w : World} {b n : Nat} {A : Option Addr} {l : List ByteArray} (hn : n = l.length) (hr : Rd w b A (cT l)) : StrsAt w.heap.size w A n l := by
  refine ⟨hn, ?_⟩
  rcases hr with h | ⟨o, rfl, hb, hc⟩
  · left
    cases l with
    | nil => rfl
    | cons x l => simp [cT] at h
  · refine .inr ⟨b, o, rfl, hb, fun j hj => hc j _ ?_⟩
    rw [List.getElem?_map, List.getElem?_eq_getElem hj]
    simp
theorem tbl_nil : tbl [] = [] := by simp [tbl, bys, compact, compactUpTo]
theorem Table_any (w : World) (b : Nat) (A : Option Addr) (n c : Nat) (l : List ByteArray) (hn : n = l.length) (hm : n ≤ 1000000) (hr : Rd w b A (cT l)) :
    Calls Tryz.prog 38 #[.slice A n c] w fun e w' => ∃ g A' c', e = .returned (.slice A' (tbl l).length c') ∧ Ow w' g 9 1 A' (tbl l).length c' ((tbl l).map encStr) ∧ Nw w w' := by
  subst hn
  have hN1 : Nw w (w.alloc (.cells #[.slice A l.length c] 48)) := (Nw.refl w).alloc' _
  have HS := Lib.hid (Sorted_any _ w.heap.size A l.length c l hm (by simp) (by rw [cell_at (heap_alloc_new w _)]; rfl) (StrsAt.of_rd rfl (hr.nw hN1)))
  clear hr
  by_cases h0 : l = []
  · subst h0
    rw [tbl_nil]
    go_enter Tryz.func38, Tryz.ntmps38
    go_wp2_with (first
      | (go_at_call 57; refine (Tryz.slices_Compact_string_empty _ _ _).mono ?_; rintro e w3 ⟨rfl, rfl⟩)
      | (go_at_call 58; refine HS.out.mono ?_; rintro e w2 ⟨g, A', c', rfl, hA, hO, hN2⟩)
      | (go_at_call 59; refine (Values_any _ _ _ _).mono ?_; rintro e w1 ⟨rfl, rfl⟩))
    go_ret
    exact ⟨g, A', c', rfl, by simpa using hO, hN1.trans hN2⟩
  · go_enter Tryz.func38, Tryz.ntmps38
    go_wp2_with (first
      | (go_at_call 58; refine HS.out.mono ?_; rintro e w2 ⟨g, A', c', rfl, hA, hO, hN2⟩)
      | (go_at_call 59; refine (Values_any _ _ _ _).mono ?_; rintro e w1 ⟨rfl, rfl⟩))
    rcases hA with ⟨_, _, h⟩ | ⟨rfl, hg⟩
    · exact (h0 h).elim
    · have hlz : ((bys l).mergeSort fun x y => decide (x ≤ y)).length = l.length := by simp
      obtain ⟨T, hT⟩ : ∃ T, tbl l = T := ⟨_, rfl⟩
      have hT2 : compact ((bys l).mergeSort fun x y => decide (x ≤ y)) = T := hT
      have HT := Lib.hid hT
      obtain ⟨Z, hZ⟩ : ∃ Z, (bys l).mergeSort (fun x y => decide (x ≤ y)) = Z := ⟨_, rfl⟩
      rw [hZ] at hlz hO hT2
      have hO' : Ow w2 g 9 1 (some ⟨g, 0, none⟩) Z.toArray.size c' (Z.toArray.toList.map encStr) := by
        rw [List.size_toArray, List.toList_toArray, hlz]; exact hO
      have hcap := hO.cap
      have hC := Tryz.slices_Compact_string g 0 c' Z w2 (holds_one hO') (by rw [hlz]; omega) (by rw [hlz]; omega)
      rw [hlz, hT2] at hC
      have hle := compact_le Z
      rw [hT2, hlz] at hle
      have hsz : (T ++ List.replicate (l.length - T.length) ([] : List UInt8)).toArray.size = l.length := by simp; omega
      have HO := Lib.hid fun m => put_ow (enc := encStr) (m := m) hO hsz #[]
      have HC := Lib.hid hC
      have HN2 := Lib.hid (hN1.trans hN2)
      have hgw : w.heap.size ≤ g := by have := hN1.size; omega
      clear hO hO' hC hN2 hT2 hZ hlz hcap hsz hT
      refine HC.out.mono ?_
      rintro e w3 ⟨rfl, q, rfl⟩
      have h5 := HO.out q
      rw [grow_empty] at h5
      go_wp2
      go_ret
      rw [HT.out]
      refine ⟨g, _, c', rfl, ?_, Kp.nw HN2.out h5.2 hgw hgw⟩
      have h6 := h5.1.cut hle
      rw [List.map_append, Nat.mul_one, List.take_append_of_le_length (by simp), List.take_of_length_le (by simp)] at h6
      exact h6
end Go.Proofs.YtoogadidbbpplaaGreat
