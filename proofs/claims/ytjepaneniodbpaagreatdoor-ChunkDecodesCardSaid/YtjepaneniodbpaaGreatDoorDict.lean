/- The dictionary coding of values: plain lists. Nothing of the program is named here. -/
import Derived.Test.YtjepaneniodbpaaGreatDoorBits
import Derived.Laws.MathBits
import Derived.Lib.BitFns
import Derived.Shelf.Small.Bits
namespace Go.Proofs.YtjepaneniodbpaaGreatDoor
open Go

/-- the number of bits of an index -/
def wd (c : Nat) : Nat := if c = 0 then 0 else Lib.bitLen (c - 1)

theorem bitLenAux_spec : ∀ (f x : Nat), x < 2 ^ f → x < 2 ^ Lib.bitLenAux f x ∧ (x ≠ 0 → 2 ^ (Lib.bitLenAux f x - 1) ≤ x ∧ 0 < Lib.bitLenAux f x) := by
  intro f
  induction f with
  | zero => intro x h; simp [Lib.bitLenAux]; omega
  | succ f ih =>
    intro x h
    rw [Nat.pow_succ] at h
    unfold Lib.bitLenAux
    by_cases h0 : x = 0
    · simp [h0]
    · rw [if_neg h0]
      obtain ⟨h1, h2⟩ := ih (x / 2) (by omega)
      rw [Nat.add_comm 1, Nat.pow_succ, Nat.add_sub_cancel]
      refine ⟨by omega, fun _ => ⟨?_, by omega⟩⟩
      by_cases h3 : x / 2 = 0
      · have : Lib.bitLenAux f (x / 2) = 0 := by rw [h3]; cases f <;> simp [Lib.bitLenAux]
        rw [this]; simp; omega
      · obtain ⟨h4, h5⟩ := h2 h3
        have e : 2 ^ Lib.bitLenAux f (x / 2) = 2 ^ (Lib.bitLenAux f (x / 2) - 1) * 2 := by rw [← Nat.pow_succ]; congr 1; omega
        omega
/-- the smallest n with c ≤ 2 ^ n -/
theorem wd_spec (c : Nat) (h : c ≤ 18446744073709551616) : c ≤ 2 ^ wd c ∧ ∀ n, c ≤ 2 ^ n → wd c ≤ n := by
  unfold wd
  by_cases h0 : c = 0
  · simp [h0]
  · rw [if_neg h0]
    have h64 : (2 : Nat) ^ 64 = 18446744073709551616 := by decide
    obtain ⟨h1, h2⟩ := bitLenAux_spec 64 (c - 1) (by omega)
    refine ⟨by unfold Lib.bitLen; omega, fun n hn => ?_⟩
    by_cases h3 : c - 1 = 0
    · have : Lib.bitLen (c - 1) = 0 := by rw [h3]; decide
      omega
    · obtain ⟨h4, h5⟩ := h2 h3
      unfold Lib.bitLen
      rcases Nat.lt_or_ge n (Lib.bitLenAux 64 (c - 1)) with hlt | hge
      · have := Nat.pow_le_pow_right (n := 2) (by omega) (show n ≤ Lib.bitLenAux 64 (c - 1) - 1 from by omega)
        omega
      · exact hge
theorem wd_eq (c n : Nat) (h : c ≤ 18446744073709551616) (h1 : c ≤ 2 ^ n) (h2 : n = 0 ∨ 2 ^ (n - 1) < c) : wd c = n := by
  obtain ⟨a, b⟩ := wd_spec c h
  have := b n h1
  rcases h2 with h2 | h2
  · omega
  · rcases Nat.lt_or_ge (wd c) n with hlt | hge
    · have := Nat.pow_le_pow_right (n := 2) (by omega) (show wd c ≤ n - 1 from by omega)
      omega
    · omega
theorem wd_le (c : Nat) (h : c ≤ 128) : wd c ≤ 7 := (wd_spec c (by omega)).2 7 (by simpa using h)
theorem wd_le64 (c : Nat) (h : c ≤ 18446744073709551616) : wd c ≤ 64 := (wd_spec c h).2 64 (by simpa using h)

/-- strictly ascending lists are told apart by their elements -/
theorem asc_ext : ∀ (a b : List Nat), a.Pairwise (· < ·) → b.Pairwise (· < ·) → (∀ x, x ∈ a ↔ x ∈ b) → a = b := by
  intro a
  induction a with
  | nil =>
    intro b _ _ h
    cases b with
    | nil => rfl
    | cons y l => exact absurd ((h y).2 (by simp)) (by simp)
  | cons x l ih =>
    intro b ha hb h
    cases b with
    | nil => exact absurd ((h x).1 (by simp)) (by simp)
    | cons y m =>
      rw [List.pairwise_cons] at ha hb
      have e : x = y := by
        have h1 := (h x).1 (by simp)
        have h2 := (h y).2 (by simp)
        rw [List.mem_cons] at h1 h2
        rcases h1 with h1 | h1
        · exact h1
        · rcases h2 with h2 | h2
          · exact h2.symm
          · have := ha.1 y h2
            have := hb.1 x h1
            omega
      subst e
      congr 1
      refine ih m ha.2 hb.2 fun z => ?_
      have hz := h z
      rw [List.mem_cons, List.mem_cons] at hz
      constructor
      · intro hl
        rcases hz.1 (.inr hl) with e | e
        · have := ha.1 z hl; omega
        · exact e
      · intro hl
        rcases hz.2 (.inr hl) with e | e
        · have := hb.1 z hl; omega
        · exact e

/-- an element set into its place -/
def ins (x : Nat) : List Nat → List Nat
  | [] => [x]
  | y :: l => if x < y then x :: y :: l else if x = y then y :: l else y :: ins x l
/-- the distinct values of a list, ascending -/
def dict (l : List Nat) : List Nat := l.foldl (fun d x => ins x d) []

theorem ins_mem (x z : Nat) (d : List Nat) : z ∈ ins x d ↔ z = x ∨ z ∈ d := by
  induction d with
  | nil => simp [ins]
  | cons y l ih =>
    unfold ins
    split
    · simp
    · split
      · rename_i h; subst h; simp
      · simp only [List.mem_cons, ih]
        constructor
        · rintro (h | h | h) <;> simp [h]
        · rintro (h | h | h) <;> simp [h]
theorem ins_asc (x : Nat) (d : List Nat) (h : d.Pairwise (· < ·)) : (ins x d).Pairwise (· < ·) := by
  induction d with
  | nil => simp [ins]
  | cons y l ih =>
    rw [List.pairwise_cons] at h
    unfold ins
    split
    · rename_i hxy
      rw [List.pairwise_cons, List.pairwise_cons]
      refine ⟨fun z hz => ?_, h.1, h.2⟩
      rw [List.mem_cons] at hz
      rcases hz with rfl | hz
      · exact hxy
      · have := h.1 z hz; omega
    · split
      · rw [List.pairwise_cons]; exact h
      · rw [List.pairwise_cons]
        refine ⟨fun z hz => ?_, ih h.2⟩
        rcases (ins_mem x z l).1 hz with rfl | hz
        · omega
        · exact h.1 z hz
theorem foldl_ins (l : List Nat) : ∀ d : List Nat, d.Pairwise (· < ·) → (l.foldl (fun d x => ins x d) d).Pairwise (· < ·) ∧ ∀ z, z ∈ l.foldl (fun d x => ins x d) d ↔ z ∈ l ∨ z ∈ d := by
  induction l with
  | nil => intro d h; exact ⟨h, fun z => by simp⟩
  | cons x l ih =>
    intro d h
    obtain ⟨h1, h2⟩ := ih (ins x d) (ins_asc x d h)
    refine ⟨h1, fun z => ?_⟩
    rw [List.foldl_cons, h2 z, ins_mem, List.mem_cons]
    constructor
    · rintro (h | h | h) <;> simp [h]
    · rintro ((h | h) | h) <;> simp [h]
theorem dict_asc (l : List Nat) : (dict l).Pairwise (· < ·) := (foldl_ins l [] List.Pairwise.nil).1
theorem dict_mem (l : List Nat) (x : Nat) : x ∈ dict l ↔ x ∈ l := by
  have := (foldl_ins l [] List.Pairwise.nil).2 x
  simpa [dict] using this
theorem dict_eq (l d : List Nat) (h1 : d.Pairwise (· < ·)) (h2 : ∀ x, x ∈ d ↔ x ∈ l) : d = dict l :=
  asc_ext _ _ h1 (dict_asc l) fun x => by rw [h2, dict_mem]
theorem dict_snoc (l : List Nat) (x : Nat) : dict (l ++ [x]) = ins x (dict l) := by simp [dict]
theorem asc_nodup (d : List Nat) (h : d.Pairwise (· < ·)) : d.Nodup := h.imp (fun h => by omega)
theorem ins_length (x : Nat) (d : List Nat) : (ins x d).length ≤ d.length + 1 := by
  induction d with
  | nil => simp [ins]
  | cons y l ih =>
    unfold ins
    split
    · simp
    · split
      · simp
      · simp; omega
theorem dict_length (l : List Nat) : (dict l).length ≤ l.length := by
  have : ∀ (l d : List Nat), (l.foldl (fun d x => ins x d) d).length ≤ d.length + l.length := by
    intro l
    induction l with
    | nil => intro d; simp
    | cons x l ih =>
      intro d
      have := ih (ins x d)
      have := ins_length x d
      rw [List.foldl_cons, List.length_cons]
      omega
  simpa [dict] using this l []
theorem dict_nil_iff (l : List Nat) : dict l = [] ↔ l = [] := by
  constructor
  · intro h
    cases l with
    | nil => rfl
    | cons x l => have := (dict_mem (x :: l) x).2 (by simp); rw [h] at this; cases this
  · rintro rfl; rfl

/-- the bits of a list of values -/
def putBits (l : List Nat) : List Bool :=
  if l = [] then [] else bitsOf ((dict l).length - 1) 7 ++ (dict l).flatMap (bitsOf · 64) ++ l.flatMap (fun x => bitsOf ((dict l).idxOf x) (wd (dict l).length))

def badNext (d : List Nat) (x : Nat) : Bool := match d.getLast? with | some y => decide (x ≤ y) | none => false
/-- m more values of a dictionary -/
def gdict : Nat → List Nat → List Bool → List Nat × Nat × List Bool
  | 0, d, r => (d, 0, r)
  | m + 1, d, r => if r.length < 64 then ([], 3, r) else if badNext d (bv (r.take 64)) then ([], 8, r.drop 64) else gdict m (d ++ [bv (r.take 64)]) (r.drop 64)
/-- m more indexes -/
def gidx (k : Nat) : Nat → List Nat → List Bool → List Nat × Nat × List Bool
  | 0, l, r => (l, 0, r)
  | m + 1, l, r => if r.length < wd k then ([], 3, r) else if k ≤ bv (r.take (wd k)) then ([], 8, r.drop (wd k)) else gidx k m (l ++ [bv (r.take (wd k))]) (r.drop (wd k))
def unused (k : Nat) (l : List Nat) : Bool := (List.range k).any fun j => !l.contains j
def getVals (n : Nat) (r : List Bool) : List Nat × Nat × List Bool :=
  if n = 0 then ([], 0, r) else if r.length < 7 then ([], 3, r) else
    let D := gdict (bv (r.take 7) + 1) [] (r.drop 7)
    if D.2.1 ≠ 0 then ([], D.2.1, D.2.2) else
      let I := gidx D.1.length n [] D.2.2
      if I.2.1 ≠ 0 then ([], I.2.1, I.2.2) else if unused D.1.length I.1 then ([], 8, I.2.2) else (I.1.map (D.1.getD · 0), 0, I.2.2)

end Go.Proofs.YtjepaneniodbpaaGreatDoor
