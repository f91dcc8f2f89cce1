import Derived.Test.YtoogadidbbpplaaGreatNormLaw
import Derived.Test.YtoogadidbbpplaaGreatShelfF
import Derived.Shelf.Spec.SlicesGrow

/- Normalizing does not depend on the order of the series and of their samples, and does not change a block: the plain laws. -/
namespace Go.Proofs.YtoogadidbbpplaaGreat
open Go Go.RowKit Go.Sort Go.Shelf

/-- a series with its samples turned round -/
def rv (x : Val) : Val := (x.1, x.2.reverse)
theorem rv_rv (x : Val) : rv (rv x) = x := by unfold rv; simp
theorem SerU.rv_ {x y : Val} (h : SerU x 0 y) : SerU (rv x) 0 y := by
  obtain ⟨h1, h2, h3, h4, h5⟩ := h.zero
  exact .inr ⟨h.one0, .inr ⟨h1, h2, .inr ⟨fun e => h3 (by have e' : x.2.reverse = [] := e; simpa using e'), .inr ⟨rfl, h4.trans (List.reverse_perm _).symm, h5⟩⟩⟩⟩
theorem SerU.self {x y : Val} (h : SerU x 0 y) : SerU y 0 y := by
  obtain ⟨h1, h2, h3, h4, h5⟩ := h.zero
  have h6 : oneAll y.1 = 0 := oneAll_zero.2 fun z hz => oneAll_zero.1 h.one0 z (h1.mem_iff.1 hz)
  exact .inr ⟨h6, .inr ⟨List.Perm.refl _, h2, .inr ⟨fun e => h3 (List.eq_nil_of_length_eq_zero (by rw [← h4.length_eq, e]; rfl)), .inr ⟨rfl, List.Perm.refl _, h5⟩⟩⟩⟩
theorem AllU.mem {l m : List Val} (h : AllU l m) : (∀ x ∈ l, ∃ y, SerU x 0 y) ∧ ∀ y ∈ m, ∃ x ∈ l, SerU x 0 y := by
  constructor
  · intro x hx
    obtain ⟨i, hi, e⟩ := List.getElem_of_mem hx
    have him : i < m.length := by rw [h.1]; exact hi
    exact ⟨m[i], h.2 i _ _ (by rw [List.getElem?_eq_getElem hi, e]) (List.getElem?_eq_getElem him)⟩
  · intro y hy
    obtain ⟨i, hi, e⟩ := List.getElem_of_mem hy
    have hil : i < l.length := by rw [← h.1]; exact hi
    exact ⟨l[i], List.getElem_mem hil, h.2 i _ _ (List.getElem?_eq_getElem hil) (by rw [List.getElem?_eq_getElem hi, e])⟩
theorem fin_ex : ∃ F : Val → Val, ∀ x, (∃ y, SerU x 0 y) → SerU x 0 (F x) := by
  have h : ∀ x : Val, ∃ y : Val, (∃ z, SerU x 0 z) → SerU x 0 y := fun x => by
    by_cases h : ∃ z, SerU x 0 z
    · obtain ⟨z, hz⟩ := h
      exact ⟨z, fun _ => hz⟩
    · exact ⟨x, fun k => (h k).elim⟩
  exact Classical.axiomOfChoice h
theorem allU_map {F : Val → Val} (hF : ∀ x, (∃ y, SerU x 0 y) → SerU x 0 (F x)) {l : List Val} (h : ∀ x ∈ l, ∃ y, SerU x 0 y) : AllU l (l.map F) := by
  refine ⟨by simp, fun i x y hx hy => ?_⟩
  rw [List.getElem?_map, hx] at hy
  cases hy
  exact hF x (h x (List.mem_of_getElem? hx))
/-- a block comes out alike whatever the order -/
theorem ListU.perm {V M r : List Val} (h : ListU V 0 r) (hp : M.Perm (V.map rv)) : ListU M 0 r := by
  rcases h with ⟨k, x, y, m, h1, h2, h3, h4⟩ | ⟨m, h1, h2⟩
  · exact (h4 rfl).elim
  · rcases h2 with ⟨_, e⟩ | ⟨_, h3, h4⟩
    · cases e
    · obtain ⟨F, hF⟩ := fin_ex
      have hV : ∀ x ∈ V.map rv, ∃ y, SerU x 0 y := fun x hx => by
        obtain ⟨t, ht, rfl⟩ := List.mem_map.1 hx
        obtain ⟨y, hy⟩ := h1.mem.1 t ht
        exact ⟨y, hy.rv_⟩
      have hM : ∀ x ∈ M, ∃ y, SerU x 0 y := fun x hx => hV x (hp.mem_iff.1 hx)
      have e1 : m = (V.map rv).map F := by
        have h5 : AllU (V.map rv) m := ⟨by rw [h1.1, List.length_map], fun i x y hx hy => by
          rw [List.getElem?_map] at hx
          by_cases hi : i < V.length
          · rw [List.getElem?_eq_getElem hi] at hx
            cases hx
            exact (h1.2 i _ _ (List.getElem?_eq_getElem hi) hy).rv_
          · rw [List.getElem?_eq_none (by omega)] at hx
            cases hx⟩
        exact h5.one (allU_map hF hV)
      refine .inr ⟨M.map F, allU_map hF hM, .inr ⟨rfl, h3.trans ?_, h4⟩⟩
      rw [e1]
      exact (hp.map F).symm
/-- a block is in order -/
theorem ListU.idem {V r : List Val} (h : ListU V 0 r) : ListU r 0 r := by
  rcases h with ⟨k, x, y, m, h1, h2, h3, h4⟩ | ⟨m, h1, h2⟩
  · exact (h4 rfl).elim
  · rcases h2 with ⟨_, e⟩ | ⟨_, h3, h4⟩
    · cases e
    · refine .inr ⟨r, ⟨rfl, fun i x y hx hy => ?_⟩, .inr ⟨rfl, List.Perm.refl _, h4⟩⟩
      rw [hx] at hy
      cases hy
      obtain ⟨t, _, k⟩ := h1.mem.2 x (h3.mem_iff.1 (List.mem_of_getElem? hx))
      exact k.self
theorem perm_rv {V M : List Val} (h : M.Perm (V.map rv)) : V.Perm (M.map rv) := by
  have := (h.map rv).symm
  rw [List.map_map] at this
  rwa [show (rv ∘ rv) = id from funext fun x => rv_rv x, List.map_id] at this
theorem ListU.order {V M r r' : List Val} {E E' : Nat} (h : ListU V E r) (h' : ListU M E' r') (hp : M.Perm (V.map rv)) : (E = 0 ↔ E' = 0) ∧ (E = 0 → r = r') := by
  constructor
  · constructor
    · rintro rfl
      exact ((h.perm hp).one h').1.symm
    · rintro rfl
      exact ((h'.perm (perm_rv hp)).one h).1.symm
  · rintro rfl
    exact ((h.perm hp).one h').2 rfl
theorem ListU.nil_ : ListU [] 0 [] := .inr ⟨[], ⟨rfl, fun i x y hx => by simp at hx⟩, .inr ⟨rfl, List.Perm.refl _, List.Pairwise.nil⟩⟩
theorem rot_perm {V : List Val} {i : Nat} : ((V.drop i ++ V.take i).map rv).reverse.Perm (V.map rv) := by
  refine (List.reverse_perm _).trans (List.Perm.map rv ?_)
  have := List.perm_append_comm (l₁ := V.drop i) (l₂ := V.take i)
  rwa [List.take_append_drop] at this
theorem sum_rv {V M : List Val} (hp : M.Perm (V.map rv)) : (M.map fun y => y.2.length).sum = (V.map fun y => y.2.length).sum := by
  rw [(hp.map fun y : Val => y.2.length).sum_nat, List.map_map]
  congr 1
  apply List.map_congr_left
  intro x _
  simp [rv]
end Go.Proofs.YtoogadidbbpplaaGreat

/- slices.Clone and slices.Reverse at samples, slices.Reverse at series. -/
namespace Go.Proofs.YtoogadidbbpplaaGreat
open Go Go.RowKit Go.Sort Go.Shelf

theorem CloneS_any (w : World) (b : Nat) (A : Option Addr) (n c : Nat) (l : List Smpl) (hI : InSmp w b A n c l) (hn : n ≤ 1000000) :
    Calls Tryz.prog 12 #[.slice A n c] w fun e w' => ∃ g A' c', e = .returned (.slice A' n c') ∧ Ow w' g 41 2 A' n c' (cS l) ∧ Nw w w' ∧ ((A' = none ∧ l = []) ∨ (A' = some ⟨g, 0, none⟩ ∧ w.heap.size ≤ g)) := by
  have hl := hI.len
  subst hl
  have HI := Lib.hid hI
  have q32 : ∀ (w : World) (a : Option Addr) (n c n' c' : Nat), (binOp .eql 35 (.slice a n c) (.slice none n' c')).run Tryz.prog w = .ok (.bool a.isNone) w := fun w a n c n' c' => Lib.run_eql_slice_nil w _ _ a n c n' c' Tryz.underlying35
  clear hI
  cases A with
  | none =>
    have h0 : l = [] := by
      have := HI.out.rd
      rcases this with h | ⟨o, h, _⟩
      · cases l with
        | nil => rfl
        | cons x l => simp [cS, c2] at h
      · cases h
    subst h0
    have hc := HI.out.nil rfl
    subst hc
    go_enter Tryz.func12, Tryz.ntmps12
    go_wp2
    go_ret
    exact ⟨0, none, 0, rfl, Ow.nil _ _ _ _, Nw.refl _, by simp⟩
  | some a =>
    have hOw := Ow.empty w 41 2
    have HOw := Lib.hid hOw
    clear hOw
    go_enter Tryz.func12, Tryz.ntmps12
    go_wp2_with (at_builtin; refine wpList_app E_smp rfl (.tmp 5) (.tmp 6) rfl rfl HOw.out rfl (HI.out.rd.nw ((Nw.refl w).alloc' _)) (by rw [show (cS l).length = 2 * l.length from c2_length _]; omega) (fun e => by cases e) (oc_S _) (by simp only [maxLen]; omega) (by omega) ?_; intro b3 A3 c3 w3 q1 q2 q3 q4; have Q1 := Lib.hid q1; have Q2 := Lib.hid q2; have Q3 := Lib.hid q3; clear q1 q2 q3 q4)
    go_ret
    have h1 := Q1.out
    rw [Nat.zero_add, List.nil_append] at h1
    refine ⟨b3, A3, c3, rfl, h1, Kp.nw ((Nw.refl w).alloc' _) Q3.out (Nat.le_refl _) (Nat.le_refl _), ?_⟩
    rcases h1 with ⟨h2, _, _, h3⟩ | ⟨h2, _⟩
    · refine .inl ⟨h2, ?_⟩
      cases l with
      | nil => rfl
      | cons x l => simp [cS, c2] at h3
    · refine .inr ⟨h2, ?_⟩
      rcases Q2.out with h | h
      · omega
      · simp at h; omega
theorem put_ow2 {α : Type} [Inhabited α] {f h : α → Value} {w : World} {g n c m : Nat} {e : TypeId} {xs : List Value} {d' : Array α} (hO : Ow w g e 2 (some ⟨g, 0, none⟩) n c xs) (hd : d'.size = n) :
    Ow (putRowK (fun x => [f x, h x]) 2 (Sort.ahead w m) g 0 d') g e 2 (some ⟨g, 0, none⟩) n c (c2 f h d'.toList) ∧ Kp g g w (putRowK (fun x => [f x, h x]) 2 (Sort.ahead w m) g 0 d') := by
  have := sort_ow (f := f) (h := h) (m := m) hO hd #[]
  unfold sortWorldK at this
  rwa [grow_empty] at this
theorem RevS_any (w : World) (g n c : Nat) (l : List Smpl) (hn : n = l.length) (hO : Ow w g 41 2 (some ⟨g, 0, none⟩) n c (cS l)) :
    Calls Tryz.prog 13 #[.slice (some ⟨g, 0, none⟩) n c] w fun e w' => e = .returned (.tuple #[]) ∧ Ow w' g 41 2 (some ⟨g, 0, none⟩) n c (cS l.reverse) ∧ Kp g g w w' := by
  subst hn
  have hcap := hO.cap
  have hO' : Ow w g 41 2 (some ⟨g, 0, none⟩) l.toArray.size c (c2 (fun z : Smpl => .int .i64 z.1) (fun z => .int .u64 (z.2 : Int)) l.toArray.toList) := by simpa [cS] using hO
  have hcon := AnyQ.slices_Reverse Tryz.revSmp 2 tyS szS (fun z : Smpl => [Value.int .i64 z.1, Value.int .u64 (z.2 : Int)]) (fun _ => rfl) (fun x v hv => by simp at hv; rcases hv with rfl | rfl <;> rfl) g 0 c l.toArray w (holds_ow hO') (by simp; omega)
  change Calls Tryz.prog 13 _ _ _ at hcon
  rw [List.size_toArray] at hcon
  refine hcon.mono ?_
  rintro e w' ⟨rfl, m, rfl⟩
  have := put_ow2 (f := fun z : Smpl => Value.int .i64 z.1) (h := fun z => .int .u64 (z.2 : Int)) (m := m) hO (d' := l.toArray.reverse) (by simp)
  refine ⟨rfl, ?_, this.2⟩
  have h2 := this.1
  rw [Array.toList_reverse] at h2
  exact h2
theorem RevR_any (w : World) (g n c : Nat) (l : List Ser) (hn : n = l.length) (hO : Ow w g 37 2 (some ⟨g, 0, none⟩) n c (cR l)) :
    Calls Tryz.prog 14 #[.slice (some ⟨g, 0, none⟩) n c] w fun e w' => e = .returned (.tuple #[]) ∧ Ow w' g 37 2 (some ⟨g, 0, none⟩) n c (cR l.reverse) ∧ Kp g g w w' := by
  subst hn
  haveI : Inhabited Ser := ⟨⟨[], [], 0, none, 0, 0, none, 0⟩⟩
  have hcap := hO.cap
  have hO' : Ow w g 37 2 (some ⟨g, 0, none⟩) l.toArray.size c (c2 fR hR l.toArray.toList) := by simpa [cR] using hO
  have hcon := AnyQ.slices_Reverse Tryz.revSer 2 tyR szR (fun z : Ser => [fR z, hR z]) (fun _ => rfl) (fun x v hv => by simp at hv; rcases hv with rfl | rfl <;> rfl) g 0 c l.toArray w (holds_ow hO') (by simp; omega)
  change Calls Tryz.prog 14 _ _ _ at hcon
  rw [List.size_toArray] at hcon
  refine hcon.mono ?_
  rintro e w' ⟨rfl, m, rfl⟩
  have := put_ow2 (f := fR) (h := hR) (m := m) hO (d' := l.toArray.reverse) (by simp)
  refine ⟨rfl, ?_, this.2⟩
  have h2 := this.1
  rw [Array.toList_reverse] at h2
  exact h2
end Go.Proofs.YtoogadidbbpplaaGreat

/- slices.Grow and slices.Concat at two lists of series. -/
namespace Go.Proofs.YtoogadidbbpplaaGreat
open Go Go.RowKit Go.Shelf

def growR_ren : Go.Shelf.Ren := ⟨fun | 4 => 34 | n => n, fun | 22 => 22 | 25 => 37 | 3 => 3 | 4 => 4 | 9 => 9 | 20 => 20 | 0 => 0 | n => n, fun | n => n⟩
theorem growR : Go.Proofs.Lays8.n4 Tryz.prog growR_ren := {
  mixed := by kernel_rfl
  f4 := ⟨Tryz.f34.name, by decide, Tryz.func34.trans (congrArg some (by kernel_rfl))⟩
  t0 := Tryz.underlying0
  a0 := Tryz.isAgg0
  z0 := Tryz.sizeOf0
  v0 := Tryz.zeroValue0
  t3 := Tryz.underlying3
  a3 := Tryz.isAgg3
  z3 := Tryz.sizeOf3
  v3 := Tryz.zeroValue3
  t4 := Tryz.underlying4
  a4 := Tryz.isAgg4
  z4 := Tryz.sizeOf4
  v4 := Tryz.zeroValue4
  t9 := Tryz.underlying9
  a9 := Tryz.isAgg9
  z9 := Tryz.sizeOf9
  v9 := Tryz.zeroValue9
  t20 := Tryz.underlying20
  a20 := Tryz.isAgg20
  z20 := Tryz.sizeOf20
  v20 := Tryz.zeroValue20
  t22 := Tryz.underlying22
  a22 := Tryz.isAgg22
  z22 := Tryz.sizeOf22
  v22 := Tryz.zeroValue22 }

theorem GrowR_nil (w : World) (n : Nat) (hm : n ≤ 1000000) :
    Calls Tryz.prog 34 #[.slice none 0 0, .int .i64 (n : Int)] w fun e w' => ∃ b' A' c', e = .returned (.slice A' 0 c') ∧ Ow w' b' 37 2 A' 0 c' [] ∧ w.heap.size ≤ b' ∧ Nw w w' := by
  by_cases h0 : n = 0
  · subst h0
    refine (Any8.slices_Grow_room growR none 0 0 0 w (by omega) (by omega) (by omega) (by omega)).mono ?_
    rintro e w' ⟨rfl, rfl⟩
    exact ⟨w'.heap.size, none, 0, rfl, Ow.nil _ _ _ _, Nat.le_refl _, Nw.refl _⟩
  · obtain ⟨i0, hi, hz0, hz1, hz2⟩ := E_ser.info
    refine (Any8.slices_Grow_grow growR i0 (.agg #[.slice none 0 0, .slice none 0 0]) hi hz0 (by omega) none 0 0 n [] w (by omega) (by omega) (by rw [hz2]; omega) (by omega) (by simp) (fun _ => rfl) (by intro a h; cases h)).mono ?_
    rintro e w' ⟨rfl, rfl⟩
    refine ⟨w.heap.size, _, _, rfl, .inr ⟨rfl, by simp, rfl, .inr ⟨w.heap.size, _, _, rfl, Nat.zero_le _, heap_alloc_new _ _, by omega, ?_, ?_, by simp⟩⟩, Nat.le_refl _, (Nw.drewN' (Nw.refl w) 1).alloc' _⟩
    · exact grownCap_le_maxLen w (0 + n) 0 _ (by unfold maxLen; omega)
    · have hge := grownCap_ge w (0 + n) 0 (growR_ren.t 25)
      have e : (Value.agg #[.slice none 0 0, .slice none 0 0]).cells.size = 2 := rfl
      simp only [Array.size_append, size_zeroCells, e, List.size_toArray, List.length_nil]
      omega


set_option maxRecDepth 100000 in
set_option maxHeartbeats 4000000 in
theorem ConcatR_any (w : World) (bp b1 b2 cp n1 n2 c1 c2' : Nat) (A1 A2 : Option Addr) (l1 l2 : List Ser) (hp : Rd w bp (some ⟨bp, 0, none⟩) [.slice A1 n1 c1, .slice A2 n2 c2']) (h1 : n1 = l1.length) (h2 : n2 = l2.length) (hm : n1 + n2 ≤ 1000000) (hr1 : Rd w b1 A1 (cR l1)) (hr2 : Rd w b2 A2 (cR l2)) (hz1 : A1 = none → c1 = 0) (hz2 : A2 = none → c2' = 0) :
    Calls Tryz.prog 11 #[.slice (some ⟨bp, 0, none⟩) 2 cp] w fun e w' => ∃ b' A' c', e = .returned (.slice A' (n1 + n2) c') ∧ Ow w' b' 37 2 A' (n1 + n2) c' (cR (l1 ++ l2)) ∧ w.heap.size ≤ b' ∧ Nw w w' := by
  have hpb : bp < w.heap.size ∧ w.cell? ⟨bp, 0, none⟩ = some (.slice A1 n1 c1) ∧ w.cell? ⟨bp, 1, none⟩ = some (.slice A2 n2 c2') := by
    rcases hp with h | ⟨o, h, hb, hc⟩
    · cases h
    · cases h
      exact ⟨hb, hc 0 _ rfl, hc 1 _ rfl⟩
  obtain ⟨hb, p0, p1⟩ := hpb
  have HPC := Lib.hid fun W (hN : Nw w W) => And.intro (cell_old hN hb p0) (cell_old hN hb p1)
  have hG := GrowR_nil w (n1 + n2) hm
  rw [show ((n1 + n2 : Nat) : Int) = (n1 : Int) + (n2 : Int) by omega] at hG
  have HG := Lib.hid hG
  clear hG
  have HR1 := Lib.hid hr1
  have HR2 := Lib.hid hr2
  have HL1 := Lib.hid h1
  have HL2 := Lib.hid h2
  clear hr1 hr2 h1 h2 hp
  go_enter Tryz.func11, Tryz.ntmps11
  go_wp2
  refine wp_loop_rounds 3 ?_
  rw [rounds_succ]
  go_wp2
  rw [rounds_succ]
  go_wp2
  rw [rounds_succ]
  go_wp2_with fail
  refine HG.out.mono ?_
  rintro e w1 ⟨bg, Ag, cg, rfl, hO, hbg, hN⟩
  clear p0 p1 HG
  obtain ⟨p0, p1⟩ := HPC.out _ hN
  have HO := Lib.hid hO
  clear hO
  go_wp2_with fail
  refine wp_loop_rounds 3 ?_
  rw [rounds_succ]
  go_wp2_with (at_builtin; refine wpList_app E_ser rfl (.tmp 31) (.tmp 32) rfl rfl HO.out rfl (HR1.out.nw hN) (by rw [show (cR l1).length = 2 * l1.length from c2_length _, ← HL1.out]; omega) hz1 (c2_one (fun _ => rfl) (fun _ => rfl) l1) (by simp only [maxLen]; omega) (by omega) ?_; intro b3 A3 c3 w3 q1 q2 q3 q4; have Q1 := Lib.hid q1; have Q2 := Lib.hid q2; have Q3 := Lib.hid q3; clear q1 q2 q3 q4)
  have hN3 : Nw w w3 := Kp.nw hN Q3.out hbg hbg
  have hb3 : w.heap.size ≤ b3 := by
    rcases Q2.out with h | h
    · omega
    · have := hN.size; omega
  obtain ⟨p0, p1⟩ := HPC.out _ hN3
  have hQ := Q1.out
  simp only [Nat.zero_add, List.nil_append] at hQ
  have HQ := Lib.hid hQ
  clear hQ Q1 Q2 Q3 HO
  rw [rounds_succ]
  go_wp2_with (at_builtin; refine wpList_app E_ser rfl (.tmp 31) (.tmp 32) rfl rfl HQ.out rfl (HR2.out.nw hN3) (by rw [show (cR l2).length = 2 * l2.length from c2_length _, ← HL2.out]; omega) hz2 (c2_one (fun _ => rfl) (fun _ => rfl) l2) (by simp only [maxLen]; omega) (by omega) ?_; intro b4 A4 c4 w4 q1 q2 q3 q4; have Q1 := Lib.hid q1; have Q2 := Lib.hid q2; have Q3 := Lib.hid q3; clear q1 q2 q3 q4)
  rw [rounds_succ]
  go_wp2
  go_ret
  have h := Q1.out
  rw [show cR l1 ++ cR l2 = cR (l1 ++ l2) from by unfold cR c2; rw [List.flatMap_append]] at h
  refine ⟨b4, A4, c4, rfl, h, ?_, Kp.nw hN3 Q3.out hb3 hb3⟩
  rcases Q2.out with h | h
  · omega
  · have := hN3.size; omega
end Go.Proofs.YtoogadidbbpplaaGreat
