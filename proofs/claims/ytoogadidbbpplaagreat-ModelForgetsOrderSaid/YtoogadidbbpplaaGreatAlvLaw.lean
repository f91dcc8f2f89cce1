/- The examples of the chapter, by value. -/
import Derived.Test.YtoogadidbbpplaaGreatNormM
namespace Go.Proofs.YtoogadidbbpplaaGreat
open Go Go.RowKit Go.Sort Go.Shelf

def eA : ByteArray := ⟨#[97]⟩
def eB : ByteArray := ⟨#[98]⟩
def e1 : ByteArray := ⟨#[49]⟩
def e2 : ByteArray := ⟨#[50]⟩
abbrev la : Lab := (eA, e1)
abbrev lb : Lab := (eB, e2)
theorem eA_l : eA.toList = [97] := by rw [ByteArray.toList_eq]; rfl
theorem eB_l : eB.toList = [98] := by rw [ByteArray.toList_eq]; rfl
theorem lt_AB : Op.bytesLess eA.toList eB.toList = true := by rw [eA_l, eB_l]; decide
theorem one_la : oneE la = 0 := by
  unfold oneE noName
  rw [if_neg (by show ¬ eA.toList.isEmpty = true; rw [eA_l]; decide), if_neg (by decide)]
theorem one_lb : oneE lb = 0 := by
  unfold oneE noName
  rw [if_neg (by show ¬ eB.toList.isEmpty = true; rw [eB_l]; decide), if_neg (by decide)]
theorem perm_two {α : Type} {y : List α} {p q : α} (h : y.Perm [p, q]) : y = [p, q] ∨ y = [q, p] := by
  have hl := h.length_eq
  match y, hl with
  | [u, v], _ =>
    have hu : u ∈ [p, q] := h.mem_iff.1 List.mem_cons_self
    rcases List.mem_cons.1 hu with rfl | hu
    · have := (List.perm_cons u).1 h
      rw [List.perm_singleton] at this
      left; rw [this]
    · obtain rfl := List.mem_singleton.1 hu
      have := (List.perm_cons u).1 (h.trans (List.Perm.swap _ _ _))
      rw [List.perm_singleton] at this
      right; rw [this]
theorem chk_ab : chkL [la, lb] = 0 := by
  have h1 : cmpS eA eB = -1 := cmpS_neg.2 lt_AB
  show (if oneE la ≠ 0 then oneE la else if oneE lb ≠ 0 then oneE lb else if cmpS eA eB = 0 then 18 else if cmpS eA eB = 1 then 16 else 0) = 0
  rw [one_la, one_lb, h1]
  decide
theorem ord_ab {y : List Lab} (h : InOrder y [la, lb]) : y = [la, lb] := by
  rcases perm_two h.1 with rfl | rfl
  · rfl
  · exact ((List.pairwise_cons.1 h.2).1 la (by simp) lt_AB).elim
theorem ord_ba {y : List Lab} (h : InOrder y [lb, la]) : y = [la, lb] := by
  rcases perm_two h.1 with rfl | rfl
  · exact ((List.pairwise_cons.1 h.2).1 la (by simp) lt_AB).elim
  · rfl
theorem one_ab : oneAll [la, lb] = 0 := by
  show (if oneE la ≠ 0 then oneE la else if oneE lb ≠ 0 then oneE lb else 0) = 0
  rw [one_la, one_lb]; decide
theorem one_ba : oneAll [lb, la] = 0 := by
  show (if oneE lb ≠ 0 then oneE lb else if oneE la ≠ 0 then oneE la else 0) = 0
  rw [one_la, one_lb]; decide
abbrev v0 : Val := ([la, lb], [(1, 0)])
theorem val_0 : valE v0 = 0 := by
  show (if chkL [la, lb] ≠ 0 then chkL [la, lb] else if (1 : Nat) = 0 then 21 else 0) = 0
  rw [chk_ab]; decide
theorem serTo_ab {E : Nat} {y : Val} (h : SerTo ([la, lb], [(1, 0)]) E y) : E = 0 ∧ y = v0 := by
  obtain ⟨y1, y2⟩ := y
  rcases h with ⟨h, _⟩ | ⟨_, ho, h⟩
  · exact (h one_ab).elim
  · obtain rfl := ord_ab ho
    rcases h with ⟨h, _⟩ | ⟨_, hp, _, rfl⟩
    · exact (h chk_ab).elim
    · obtain rfl := List.perm_singleton.1 hp
      exact ⟨val_0, rfl⟩
theorem serTo_ba {E : Nat} {y : Val} (h : SerTo ([lb, la], [(1, 0)]) E y) : E = 0 ∧ y = v0 := by
  obtain ⟨y1, y2⟩ := y
  rcases h with ⟨h, _⟩ | ⟨_, ho, h⟩
  · exact (h one_ba).elim
  · obtain rfl := ord_ba ho
    rcases h with ⟨h, _⟩ | ⟨_, hp, _, rfl⟩
    · exact (h chk_ab).elim
    · obtain rfl := List.perm_singleton.1 hp
      exact ⟨val_0, rfl⟩
/-- two series with the same labels -/
theorem listTo_two {E : Nat} {r : List Val} (h : ListTo [([la, lb], [(1, 0)]), ([lb, la], [(1, 0)])] E r) : E = 19 := by
  rcases h with ⟨k, x, y, m, hk, _, hs, hE⟩ | ⟨m, ⟨hm, ha⟩, hp, _, rfl⟩
  · match k, hk with
    | 0, hk => obtain rfl : _ = x := by simpa using hk
               exact (hE (serTo_ab hs).1).elim
    | 1, hk => obtain rfl : _ = x := by simpa using hk
               exact (hE (serTo_ba hs).1).elim
    | k + 2, hk => simp at hk
  · match m, hm with
    | [p, q], _ =>
      obtain rfl := (serTo_ab (ha 0 _ p rfl rfl)).2
      obtain rfl := (serTo_ba (ha 1 _ q rfl rfl)).2
      have hr : r = [v0, v0] := by rcases perm_two hp with h | h <;> exact h
      subst hr
      have h0 : cmpLs [la, lb] [la, lb] = 0 := (cmpLs_zero _ _).2 rfl
      show (if cmpLs [la, lb] [la, lb] = 0 then 19 else _) = 19
      rw [if_pos h0]
/-- one series -/
theorem listTo_one {E : Nat} {r : List Val} (h : ListTo [([lb, la], [(1, 0)])] E r) : E = 0 ∧ r = [v0] := by
  rcases h with ⟨k, x, y, m, hk, _, hs, hE⟩ | ⟨m, ⟨hm, ha⟩, hp, _, rfl⟩
  · match k, hk with
    | 0, hk => obtain rfl : _ = x := by simpa using hk
               exact (hE (serTo_ba hs).1).elim
    | k + 1, hk => simp at hk
  · match m, hm with
    | [p], _ =>
      obtain rfl := (serTo_ba (ha 0 _ p rfl rfl)).2
      obtain rfl := List.perm_singleton.1 hp
      exact ⟨rfl, rfl⟩
end Go.Proofs.YtoogadidbbpplaaGreat
