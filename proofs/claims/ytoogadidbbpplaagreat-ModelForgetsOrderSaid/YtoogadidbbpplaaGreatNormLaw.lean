/- Two ways to put a list of series in order, and that they answer alike: the plain laws. -/
import Derived.Test.YtoogadidbbpplaaGreatRNormM
import Derived.Test.YtoogadidbbpplaaGreatModChk
namespace Go.Proofs.YtoogadidbbpplaaGreat
open Go Go.RowKit Go.Sort Go.Shelf

theorem oneAll_zero : ∀ {l : List Lab}, oneAll l = 0 ↔ ∀ x ∈ l, oneE x = 0
  | [] => by simp [oneAll]
  | x :: l => by
    show (if oneE x ≠ 0 then oneE x else oneAll l) = 0 ↔ _
    by_cases h : oneE x = 0
    · rw [if_neg (fun n => n h), oneAll_zero]
      simp [h]
    · rw [if_pos h]
      simp [h]
theorem ltb_irrefl (a : ByteArray) : ¬ LtB a a := fun h => by rw [LtB, bl_irrefl] at h; cases h
theorem ltb_nodup {l : List Lab} (h : l.Pairwise fun x y => LtB x.1 y.1) : (l.map (·.1)).Nodup := by
  rw [List.Nodup, List.pairwise_map]
  exact h.imp fun {a b} hl (e : a.1 = b.1) => ltb_irrefl b.1 (by rw [e] at hl; exact hl)
theorem chkF_srt : ∀ (l : List Lab) (p : Lab), (∀ x ∈ l, oneE x = 0) → (p :: l).Pairwise (fun x y => ¬ LtB y.1 x.1) → (chkF (some p.1) l = 0 ∧ (p :: l).Pairwise fun x y => LtB x.1 y.1) ∨ (chkF (some p.1) l = 18 ∧ ¬ ((p :: l).map (·.1)).Nodup)
  | [], p, _, _ => .inl ⟨rfl, List.pairwise_singleton _ _⟩
  | x :: l, p, h1, h2 => by
    have h3 := List.pairwise_cons.1 h2
    have e : chkF (some p.1) (x :: l) = if oneE x ≠ 0 then oneE x else if cmpS p.1 x.1 = 0 then 18 else if cmpS p.1 x.1 = 1 then 16 else chkF (some x.1) l := rfl
    rw [e, if_neg (fun n => n (h1 x List.mem_cons_self))]
    rcases cmpS_in p.1 x.1 with h | h | h
    · rw [h, if_neg (by decide), if_neg (by decide)]
      have hlt : LtB p.1 x.1 := cmpS_neg.1 h
      rcases chkF_srt l x (fun y hy => h1 y (List.mem_cons_of_mem _ hy)) h3.2 with h4 | h4
      · refine .inl ⟨h4.1, List.pairwise_cons.2 ⟨fun y hy => ?_, h4.2⟩⟩
        rcases List.mem_cons.1 hy with rfl | hy
        · exact hlt
        · exact bl_trans _ _ _ hlt ((List.pairwise_cons.1 h4.2).1 y hy)
      · refine .inr ⟨h4.1, fun hn => h4.2 ?_⟩
        rw [List.map_cons, List.nodup_cons] at hn
        exact hn.2
    · rw [h, if_pos rfl]
      refine .inr ⟨rfl, fun hn => ?_⟩
      rw [List.map_cons, List.nodup_cons] at hn
      exact hn.1 (List.mem_map.2 ⟨x, List.mem_cons_self, (cmpS_zero.1 h).symm⟩)
    · exact (h3.1 x List.mem_cons_self (cmpS_pos.1 h)).elim
theorem chkL_srt {l : List Lab} (h1 : oneAll l = 0) (h2 : l.Pairwise fun x y => ¬ LtB y.1 x.1) : (chkL l = 0 ∧ l.Pairwise fun x y => LtB x.1 y.1) ∨ (chkL l = 18 ∧ ¬ (l.map (·.1)).Nodup) := by
  cases l with
  | nil => exact .inl ⟨rfl, List.Pairwise.nil⟩
  | cons x l =>
    have h := oneAll_zero.1 h1
    have e : chkL (x :: l) = if oneE x ≠ 0 then oneE x else chkF (some x.1) l := rfl
    rw [e, if_neg (fun n => n (h x List.mem_cons_self))]
    exact chkF_srt l x (fun y hy => h y (List.mem_cons_of_mem _ hy)) h2
theorem tmF_srt : ∀ (l : List Smpl) (p : Smpl), (p :: l).Pairwise (fun x y => ¬ y.1 < x.1) → (tmF p.1 l = 0 ∧ (p :: l).Pairwise fun x y => x.1 < y.1) ∨ (tmF p.1 l = 20 ∧ ¬ ((p :: l).map (·.1)).Nodup)
  | [], p, _ => .inl ⟨rfl, List.pairwise_singleton _ _⟩
  | x :: l, p, h2 => by
    have h3 := List.pairwise_cons.1 h2
    have h5 := h3.1 x List.mem_cons_self
    have e : tmF p.1 (x :: l) = if x.1 = p.1 then 20 else if x.1 < p.1 then 16 else tmF x.1 l := rfl
    rw [e]
    by_cases h : x.1 = p.1
    · rw [if_pos h]
      refine .inr ⟨rfl, fun hn => ?_⟩
      rw [List.map_cons, List.nodup_cons] at hn
      exact hn.1 (List.mem_map.2 ⟨x, List.mem_cons_self, h⟩)
    · rw [if_neg h, if_neg h5]
      rcases tmF_srt l x h3.2 with h4 | h4
      · refine .inl ⟨h4.1, List.pairwise_cons.2 ⟨fun y hy => ?_, h4.2⟩⟩
        rcases List.mem_cons.1 hy with rfl | hy
        · omega
        · have := (List.pairwise_cons.1 h4.2).1 y hy
          omega
      · refine .inr ⟨h4.1, fun hn => h4.2 ?_⟩
        rw [List.map_cons, List.nodup_cons] at hn
        exact hn.2
theorem tmE_srt {l : List Smpl} (h : l.Pairwise fun x y => ¬ y.1 < x.1) : (tmE l = 0 ∧ l.Pairwise fun x y => x.1 < y.1) ∨ (tmE l = 20 ∧ ¬ (l.map (·.1)).Nodup) := by
  cases l with
  | nil => exact .inl ⟨rfl, List.Pairwise.nil⟩
  | cons x l => exact tmF_srt l x h
theorem asV_srt : ∀ (l : List Val) (p : Val), (p :: l).Pairwise (fun x y => ¬ cmpLs y.1 x.1 = -1) → (asV p l = 0 ∧ (p :: l).Pairwise fun x y => cmpLs x.1 y.1 = -1) ∨ (asV p l = 19 ∧ ¬ ((p :: l).map (·.1)).Nodup)
  | [], p, _ => .inl ⟨rfl, List.pairwise_singleton _ _⟩
  | x :: l, p, h2 => by
    have h3 := List.pairwise_cons.1 h2
    have h5 := h3.1 x List.mem_cons_self
    have e : asV p (x :: l) = if cmpLs p.1 x.1 = 0 then 19 else if cmpLs p.1 x.1 = 1 then 16 else asV x l := rfl
    rw [e]
    by_cases h : cmpLs p.1 x.1 = 0
    · rw [if_pos h]
      refine .inr ⟨rfl, fun hn => ?_⟩
      rw [List.map_cons, List.nodup_cons] at hn
      exact hn.1 (List.mem_map.2 ⟨x, List.mem_cons_self, ((cmp3_Ls.zero _ _).1 h).symm⟩)
    · have h6 : ¬ cmpLs p.1 x.1 = 1 := fun hh => h5 (cmpLs_pos.1 hh)
      rw [if_neg h, if_neg h6]
      have h7 : cmpLs p.1 x.1 = -1 := by rcases cmp3_Ls.inn p.1 x.1 with h8 | h8 | h8; exact h8; exact (h h8).elim; exact (h6 h8).elim
      rcases asV_srt l x h3.2 with h4 | h4
      · refine .inl ⟨h4.1, List.pairwise_cons.2 ⟨fun y hy => ?_, h4.2⟩⟩
        rcases List.mem_cons.1 hy with rfl | hy
        · exact h7
        · exact cmp3_Ls.trans _ _ _ h7 ((List.pairwise_cons.1 h4.2).1 y hy)
      · refine .inr ⟨h4.1, fun hn => h4.2 ?_⟩
        rw [List.map_cons, List.nodup_cons] at hn
        exact hn.2
theorem asVE_srt {l : List Val} (h : l.Pairwise fun x y => ¬ cmpLs y.1 x.1 = -1) : (asVE l = 0 ∧ l.Pairwise fun x y => cmpLs x.1 y.1 = -1) ∨ (asVE l = 19 ∧ ¬ (l.map (·.1)).Nodup) := by
  cases l with
  | nil => exact .inl ⟨rfl, List.Pairwise.nil⟩
  | cons x l => exact asV_srt l x h

/-- what becomes of one series -/
def SerU (x : Val) (E : Nat) (y : Val) : Prop :=
  (oneAll x.1 ≠ 0 ∧ E = oneAll x.1) ∨ (oneAll x.1 = 0 ∧ ((¬ (x.1.map (·.1)).Nodup ∧ E = 18) ∨ (y.1.Perm x.1 ∧ y.1.Pairwise (fun a b => LtB a.1 b.1) ∧
    ((x.2 = [] ∧ E = 21) ∨ (x.2 ≠ [] ∧ ((¬ (x.2.map (·.1)).Nodup ∧ E = 20) ∨ (E = 0 ∧ y.2.Perm x.2 ∧ y.2.Pairwise (fun a b : Smpl => a.1 < b.1))))))))
theorem sm_nodup {l : List Smpl} (h : l.Pairwise fun x y => x.1 < y.1) : (l.map (·.1)).Nodup := by
  rw [List.Nodup, List.pairwise_map]
  exact h.imp fun {a b} hl e => by rw [e] at hl; exact Int.lt_irrefl _ hl
theorem SerU.smp {x : Val} {E : Nat} {y : Val} (h2 : y.2.Perm x.2) (h3 : y.2.Pairwise fun a b : Smpl => ¬ b.1 < a.1) (h4 : E = tmE y.2) : (¬ (x.2.map (·.1)).Nodup ∧ E = 20) ∨ (E = 0 ∧ y.2.Perm x.2 ∧ y.2.Pairwise (fun a b : Smpl => a.1 < b.1)) := by
  rcases tmE_srt h3 with h | h
  · exact .inr ⟨h4.trans h.1, h2, h.2⟩
  · exact .inl ⟨fun hn => h.2 ((h2.map _).nodup_iff.2 hn), h4.trans h.1⟩
theorem SerSp.u {x : Val} {E : Nat} {y : Val} (h : SerSp x E y) : SerU x E y := by
  rcases h with h | ⟨h1, h2, h3⟩ | ⟨h1, h2, h3, h4⟩
  · exact .inl h
  · exact .inr ⟨h1, .inl ⟨h2, h3⟩⟩
  · refine .inr ⟨h1, .inr ⟨h2, h3, ?_⟩⟩
    rcases h4 with h4 | ⟨h4, h5, h6, h7⟩
    · exact .inl h4
    · exact .inr ⟨h4, SerU.smp h5 h6 h7⟩
theorem SerTo.u {x : Val} {E : Nat} {y : Val} (h : SerTo x E y) : SerU x E y := by
  rcases h with h | ⟨h1, ⟨h2, h3⟩, h4⟩
  · exact .inl h
  · refine .inr ⟨h1, ?_⟩
    have h1' : oneAll y.1 = 0 := oneAll_zero.2 fun z hz => oneAll_zero.1 h1 z (h2.mem_iff.1 hz)
    have hc := chkL_srt h1' h3
    rcases h4 with ⟨h5, h6⟩ | ⟨h5, h6, h7, h8⟩
    · rcases hc with hc | hc
      · exact (h5 hc.1).elim
      · exact .inl ⟨fun hn => hc.2 ((h2.map _).nodup_iff.2 hn), h6.trans hc.1⟩
    · rcases hc with hc | hc
      · refine .inr ⟨h2, hc.2, ?_⟩
        unfold valE at h8
        rw [if_neg (fun n => n h5)] at h8
        by_cases h9 : y.2.length = 0
        · rw [if_pos h9] at h8
          exact .inl ⟨List.eq_nil_of_length_eq_zero (by rw [← h6.length_eq]; exact h9), h8⟩
        · rw [if_neg h9] at h8
          refine .inr ⟨fun h => h9 (by rw [h6.length_eq, h]; rfl), SerU.smp h6 h7 h8⟩
      · rw [hc.1] at h5; cases h5
theorem SerU.zero {x y : Val} (h : SerU x 0 y) : y.1.Perm x.1 ∧ y.1.Pairwise (fun a b => LtB a.1 b.1) ∧ x.2 ≠ [] ∧ y.2.Perm x.2 ∧ y.2.Pairwise (fun a b : Smpl => a.1 < b.1) := by
  rcases h with ⟨h1, h2⟩ | ⟨_, h | ⟨h1, h2, h3⟩⟩
  · exact (h1 h2.symm).elim
  · cases h.2
  · rcases h3 with h3 | ⟨h3, h4 | h4⟩
    · cases h3.2
    · cases h4.2
    · exact ⟨h1, h2, h3, h4.2.1, h4.2.2⟩
theorem SerU.err {x : Val} {E E' : Nat} {y y' : Val} (h : SerU x E y) (h' : SerU x E' y') : E = E' := by
  have nd : ∀ {y : Val}, y.1.Perm x.1 → y.1.Pairwise (fun a b => LtB a.1 b.1) → (x.1.map (·.1)).Nodup := fun h1 h2 => (h1.map _).nodup_iff.1 (ltb_nodup h2)
  have sd : ∀ {y : Val}, y.2.Perm x.2 → y.2.Pairwise (fun a b : Smpl => a.1 < b.1) → (x.2.map (·.1)).Nodup := fun h1 h2 => (h1.map _).nodup_iff.1 (sm_nodup h2)
  rcases h with ⟨h1, h2⟩ | ⟨h1, h2⟩
  · rcases h' with ⟨_, h4⟩ | ⟨h3, _⟩
    · rw [h2, h4]
    · exact (h1 h3).elim
  · rcases h' with ⟨h3, _⟩ | ⟨_, h4⟩
    · exact (h3 h1).elim
    · rcases h2 with ⟨h2, e⟩ | ⟨h2, h5, h6⟩
      · rcases h4 with ⟨_, e'⟩ | ⟨h4, h7, _⟩
        · rw [e, e']
        · exact (h2 (nd h4 h7)).elim
      · rcases h4 with ⟨h4, _⟩ | ⟨_, _, h8⟩
        · exact (h4 (nd h2 h5)).elim
        · rcases h6 with ⟨h6, e⟩ | ⟨h6, h9⟩
          · rcases h8 with ⟨_, e'⟩ | ⟨h8, _⟩
            · rw [e, e']
            · exact (h8 h6).elim
          · rcases h8 with ⟨h8, _⟩ | ⟨_, h10⟩
            · exact (h6 h8).elim
            · rcases h9 with ⟨h9, e⟩ | ⟨e, h11, h12⟩
              · rcases h10 with ⟨_, e'⟩ | ⟨_, h13, h14⟩
                · rw [e, e']
                · exact (h9 (sd h13 h14)).elim
              · rcases h10 with ⟨h13, _⟩ | ⟨e', _⟩
                · exact (h13 (sd h11 h12)).elim
                · rw [e, e']
theorem SerU.val {x y y' : Val} (h : SerU x 0 y) (h' : SerU x 0 y') : y = y' := by
  obtain ⟨a1, a2, _, a3, a4⟩ := h.zero
  obtain ⟨b1, b2, _, b3, b4⟩ := h'.zero
  refine Prod.ext ?_ ?_
  · exact List.Perm.eq_of_pairwise (fun a b _ _ k1 k2 => (ltb_irrefl _ (bl_trans _ _ _ k1 k2)).elim) a2 b2 (a1.trans b1.symm)
  · exact List.Perm.eq_of_pairwise (le := fun a b : Smpl => a.1 < b.1) (fun a b _ _ k1 k2 => (Int.lt_irrefl _ (Int.lt_trans k1 k2)).elim) a4 b4 (a3.trans b3.symm)

def AllU (l m : List Val) : Prop := m.length = l.length ∧ ∀ (i : Nat) (x y : Val), l[i]? = some x → m[i]? = some y → SerU x 0 y
theorem AllU.one {l m m' : List Val} (h : AllU l m) (h' : AllU l m') : m = m' := by
  apply List.ext_getElem?
  intro i
  by_cases hi : i < l.length
  · have e1 := List.getElem?_eq_getElem (l := m) (i := i) (by rw [h.1]; exact hi)
    have e2 := List.getElem?_eq_getElem (l := m') (i := i) (by rw [h'.1]; exact hi)
    have e3 := List.getElem?_eq_getElem (l := l) (i := i) hi
    rw [e1, e2, (h.2 i _ _ e3 e1).val (h'.2 i _ _ e3 e2)]
  · rw [List.getElem?_eq_none (by rw [h.1]; omega), List.getElem?_eq_none (by rw [h'.1]; omega)]
/-- what becomes of a list of series -/
def ListU (l : List Val) (E : Nat) (r : List Val) : Prop :=
  (∃ (k : Nat) (x y : Val) (m : List Val), l[k]? = some x ∧ AllU (l.take k) m ∧ SerU x E y ∧ E ≠ 0) ∨
  (∃ m, AllU l m ∧ ((¬ (m.map (·.1)).Nodup ∧ E = 19) ∨ (E = 0 ∧ r.Perm m ∧ r.Pairwise (fun a b => cmpLs a.1 b.1 = -1))))
theorem ListU.last {m r : List Val} {E : Nat} (h1 : r.Perm m) (h2 : r.Pairwise fun a b => ¬ cmpLs b.1 a.1 = -1) (h3 : E = asVE r) : (¬ (m.map (·.1)).Nodup ∧ E = 19) ∨ (E = 0 ∧ r.Perm m ∧ r.Pairwise (fun a b => cmpLs a.1 b.1 = -1)) := by
  rcases asVE_srt h2 with h | h
  · exact .inr ⟨h3.trans h.1, h1, h.2⟩
  · exact .inl ⟨fun hn => h.2 ((h1.map _).nodup_iff.2 hn), h3.trans h.1⟩
theorem ListTo.u {l : List Val} {E : Nat} {r : List Val} (h : ListTo l E r) : ListU l E r := by
  rcases h with ⟨k, x, y, m, h1, h2, h3, h4⟩ | ⟨m, h1, h2, h3, h4⟩
  · exact .inl ⟨k, x, y, m, h1, ⟨h2.1, fun i a b ha hb => (h2.2 i a b ha hb).u⟩, h3.u, h4⟩
  · exact .inr ⟨m, ⟨h1.1, fun i a b ha hb => (h1.2 i a b ha hb).u⟩, ListU.last h2 h3 h4⟩
theorem ListSp.u {l : List Val} {E : Nat} {r : List Val} (h : ListSp l E r) : ListU l E r := by
  rcases h with ⟨k, x, y, m, h1, h2, h3, h4⟩ | ⟨m, h1, h2, h3, h4⟩
  · exact .inl ⟨k, x, y, m, h1, ⟨h2.1, fun i a b ha hb => (h2.2 i a b ha hb).u⟩, h3.u, h4⟩
  · exact .inr ⟨m, ⟨h1.1, fun i a b ha hb => (h1.2 i a b ha hb).u⟩, ListU.last h2 h3 h4⟩
theorem lv_nodup {l : List Val} (h : l.Pairwise fun x y => cmpLs x.1 y.1 = -1) : (l.map (·.1)).Nodup := by
  rw [List.Nodup, List.pairwise_map]
  exact h.imp fun {a b} hl e => by rw [e, (cmp3_Ls.zero _ _).2 rfl] at hl; cases hl
theorem all_no_err {l m : List Val} {k : Nat} {x y : Val} {E : Nat} (hk : l[k]? = some x) (h : SerU x E y) (hE : E ≠ 0) {n : Nat} (hn : k < n) (ha : AllU (l.take n) m) : False := by
  have hl : k < l.length := (List.getElem?_eq_some_iff.1 hk).1
  have h1 : (l.take n)[k]? = some x := by rw [List.getElem?_take_of_lt hn]; exact hk
  have h2 := List.getElem?_eq_getElem (l := m) (i := k) (by rw [ha.1, List.length_take]; omega)
  exact hE (h.err (ha.2 k _ _ h1 h2))
theorem ListU.one {l : List Val} {E E' : Nat} {r r' : List Val} (h : ListU l E r) (h' : ListU l E' r') : E = E' ∧ (E = 0 → r = r') := by
  rcases h with ⟨k, x, y, m, h1, h2, h3, h4⟩ | ⟨m, h1, h2⟩
  · rcases h' with ⟨k', x', y', m', h1', h2', h3', h4'⟩ | ⟨m', h1', _⟩
    · rcases Nat.lt_trichotomy k k' with h | rfl | h
      · exact (all_no_err h1 h3 h4 h h2').elim
      · rw [h1] at h1'
        cases h1'
        exact ⟨h3.err h3', fun h => (h4 h).elim⟩
      · exact (all_no_err h1' h3' h4' h h2).elim
    · have hl : k < l.length := (List.getElem?_eq_some_iff.1 h1).1
      exact (all_no_err h1 h3 h4 hl (by rw [List.take_length]; exact h1')).elim
  · rcases h' with ⟨k', x', y', m', h1', h2', h3', h4'⟩ | ⟨m', h1', h2'⟩
    · have hl : k' < l.length := (List.getElem?_eq_some_iff.1 h1').1
      exact (all_no_err h1' h3' h4' hl (by rw [List.take_length]; exact h1)).elim
    · obtain rfl := h1.one h1'
      rcases h2 with ⟨h2, e⟩ | ⟨e, h3, h4⟩
      · rcases h2' with ⟨_, e'⟩ | ⟨_, h3', h4'⟩
        · exact ⟨e.trans e'.symm, fun h => by rw [e] at h; cases h⟩
        · exact (h2 ((h3'.map _).nodup_iff.1 (lv_nodup h4'))).elim
      · rcases h2' with ⟨h2', _⟩ | ⟨e', h3', h4'⟩
        · exact (h2' ((h3.map _).nodup_iff.1 (lv_nodup h4))).elim
        · refine ⟨e.trans e'.symm, fun _ => ?_⟩
          exact List.Perm.eq_of_pairwise (fun a b _ _ k1 k2 => by have := cmp3_Ls.swap a.1 b.1; omega) h4 h4' (h3.trans h3'.symm)

/-- what a list in order is -/
structure Blk1 (l r : List Val) : Prop where
  ser : ∀ y ∈ r, valE y = 0
  asc : asVE r = 0
  labs : ∀ y ∈ r, ∃ x ∈ l, y.1.Perm x.1
  smps : ∀ y ∈ r, ∃ x ∈ l, y.2.Perm x.2
  sum : (r.map fun y => y.2.length).sum = (l.map fun y => y.2.length).sum
theorem SerU.valE {x y : Val} (h : SerU x 0 y) (h1 : oneAll x.1 = 0) : valE y = 0 := by
  obtain ⟨a1, a2, a3, a4, a5⟩ := h.zero
  unfold Go.Proofs.YtoogadidbbpplaaGreat.valE
  have h2 : oneAll y.1 = 0 := oneAll_zero.2 fun z hz => oneAll_zero.1 h1 z (a1.mem_iff.1 hz)
  have h3 : chkL y.1 = 0 := by
    rcases chkL_srt h2 (a2.imp fun {a b} k1 k2 => ltb_irrefl _ (bl_trans _ _ _ k1 k2)) with h | h
    · exact h.1
    · exact (h.2 (ltb_nodup a2)).elim
  rw [if_neg (fun n => n h3), if_neg (fun n => a3 (List.eq_nil_of_length_eq_zero (by rw [← a4.length_eq]; exact n)))]
  rcases tmE_srt (a5.imp fun {a b} k => by omega) with h | h
  · exact h.1
  · exact (h.2 (sm_nodup a5)).elim
theorem SerU.one0 {x y : Val} (h : SerU x 0 y) : oneAll x.1 = 0 := by
  rcases h with ⟨h1, h2⟩ | ⟨h1, _⟩
  · exact (h1 h2.symm).elim
  · exact h1
theorem sum_eq_of {l m : List Val} (h : AllU l m) : (m.map fun y => y.2.length).sum = (l.map fun y => y.2.length).sum := by
  congr 1
  apply List.ext_getElem?
  intro i
  rw [List.getElem?_map, List.getElem?_map]
  by_cases hi : i < l.length
  · have e1 := List.getElem?_eq_getElem (l := m) (i := i) (by rw [h.1]; exact hi)
    have e3 := List.getElem?_eq_getElem (l := l) (i := i) hi
    rw [e1, e3]
    have := (h.2 i _ _ e3 e1).zero.2.2.2.1.length_eq
    simp only [Option.map_some, this]
  · rw [List.getElem?_eq_none (by rw [h.1]; omega), List.getElem?_eq_none (by omega)]
theorem ListU.blk {l r : List Val} (h : ListU l 0 r) : Blk1 l r := by
  rcases h with ⟨k, x, y, m, h1, h2, h3, h4⟩ | ⟨m, h1, h2⟩
  · exact (h4 rfl).elim
  · rcases h2 with ⟨_, e⟩ | ⟨_, h3, h4⟩
    · cases e
    · have hm : ∀ y ∈ r, ∃ x ∈ l, SerU x 0 y := fun y hy => by
        obtain ⟨i, hi, e⟩ := List.getElem_of_mem (h3.mem_iff.1 hy)
        have hil : i < l.length := by rw [← h1.1]; exact hi
        exact ⟨l[i], List.getElem_mem hil, h1.2 i _ _ (List.getElem?_eq_getElem hil) (by rw [List.getElem?_eq_getElem hi, e])⟩
      refine ⟨fun y hy => ?_, ?_, fun y hy => ?_, fun y hy => ?_, ?_⟩
      · obtain ⟨x, _, k⟩ := hm y hy
        exact k.valE k.one0
      · rcases asVE_srt (h4.imp fun {a b} k1 k2 => by have := cmp3_Ls.swap a.1 b.1; omega) with h | h
        · exact h.1
        · exact (h.2 (lv_nodup h4)).elim
      · obtain ⟨x, hx, k⟩ := hm y hy
        exact ⟨x, hx, k.zero.1⟩
      · obtain ⟨x, hx, k⟩ := hm y hy
        exact ⟨x, hx, k.zero.2.2.2.1⟩
      · rw [← sum_eq_of h1]
        exact (h3.map _).sum_nat
theorem chkB_zero : ∀ (l : List Ser) (p : Ser), (∀ s ∈ l, serE s = 0) → chkB (some p) l = asF p l
  | [], _, _ => rfl
  | x :: l, p, h => by
    rw [chkB_nxt (h x List.mem_cons_self), chkB_zero l x (fun s hs => h s (List.mem_cons_of_mem _ hs))]
    rfl
theorem blkE_zero {l : List Ser} (h : ∀ s ∈ l, serE s = 0) : blkE l = asE l := by
  cases l with
  | nil => rfl
  | cons x l =>
    show chkB none (x :: l) = asF x l
    rw [chkB_fst (h x List.mem_cons_self), chkB_zero l x (fun s hs => h s (List.mem_cons_of_mem _ hs))]
end Go.Proofs.YtoogadidbbpplaaGreat
