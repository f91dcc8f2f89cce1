/- The reference of chunk: the Reader's End, values and Decode. -/
import Derived.Test.YtjepaneniodbpaaGreatDoorRRGet
import Derived.Test.YtjepaneniodbpaaGreatDoorRef9
import Derived.Test.YtjepaneniodbpaaGreatDoorChunkDec
import Derived.Test.YtjepaneniodbpaaGreatDoorSmp
namespace Go.Proofs.YtjepaneniodbpaaGreatDoor
open Go Go.RowKit Go.Sort

theorem QEnd_any (w : World) (g b : Nat) (l : List Bool) (h : Qr w g b l) :
    Calls Tryz.prog 33 #[.pointer (some ⟨g, 0, none⟩)] w fun e w' => e = .returned (.int .i64 (endE l : Nat)) ∧ w = w' := by
  obtain ⟨⟨A, c, hb, hr, h1⟩, h2, h3⟩ := h
  have hc0 : w.cell? ⟨g, 0, none⟩ = some (.slice A l.length c) := by simp [World.cell?, hb]
  clear hb h1 h2
  by_cases h8 : 8 ≤ l.length
  · have he : endE l = 4 := by unfold endE; rw [if_pos (.inl h8)]
    rw [he]
    have h8I : (8 : Int) ≤ (l.length : Int) := by omega
    clear he hr
    go_enter Tryz.func33, Tryz.ntmps33
    go_wp2
    go_ret
    exact ⟨rfl, rfl⟩
  · have HE := Lib.hid (show endE l = if true ∈ l then 4 else 0 from by
      unfold endE
      by_cases h : true ∈ l
      · rw [if_pos (.inr h), if_pos h]
      · rw [if_neg (by rintro (h' | h'); exact h8 h'; exact h h'), if_neg h])
    generalize endE l = E at *
    go_enter Tryz.func33, Tryz.ntmps33
    go_wp2
    go_loop [3] (fun i => ∃ k : Nat, k ≤ l.length ∧ i = .int .i64 k ∧ Hid (true ∉ l.take k)) (fun i => l.length - (intOf i).toNat)
    case atStart => exact ⟨0, by omega, rfl, Lib.hid (by simp)⟩
    case round =>
      obtain ⟨k, hk, rfl, HT⟩ := hrel
      by_cases hlt : k < l.length
      · have hltI : (k : Int) < (l.length : Int) := by omega
        obtain ⟨o, rfl, _, hc⟩ := hr.get (k := k) (by simpa using hlt)
        rw [List.getElem_map] at hc
        cases hv : l[k] with
        | true =>
          rw [hv] at hc
          have HM := Lib.hid (show E = 4 from by rw [HE.out, if_pos (by rw [← hv]; exact List.getElem_mem hlt)])
          clear hv
          go_wp2
          go_ret
          rw [HM.out]
          exact ⟨rfl, rfl⟩
        | false =>
          rw [hv] at hc
          have HM := Lib.hid (show true ∉ l.take (k + 1) from by
            rw [List.take_succ_eq_append_getElem hlt, hv]
            intro h
            rcases List.mem_append.1 h with h | h
            · exact HT.out h
            · simp at h)
          clear hv
          go_wp2
          go_round
          case rel => exact ⟨k + 1, by omega, by go_num, HM⟩
          case measure => simp [intOf]; omega
      · obtain rfl : k = l.length := by omega
        have HM := Lib.hid (show E = 0 from by
          have h := HT.out
          rw [List.take_length] at h
          rw [HE.out, if_neg h])
        go_wp2
        go_ret
        rw [HM.out]
        exact ⟨rfl, rfl⟩

/-- what reading values leaves -/
def QGotV (w : World) (g b : Nat) (X : Except Nat (List Nat × List Bool)) (e : Ending) (w' : World) : Prop :=
  (match X with
   | .ok (l, r) => (∃ b' A c, e = .returned (.tuple #[.slice A l.length c, .int .i64 0]) ∧ Ow w' b' 25 1 A l.length c (cN .u64 l) ∧ w.heap.size ≤ b') ∧ Qr w' g b r
   | .error k => (∃ A m c, e = .returned (.tuple #[.slice A m c, .int .i64 (k : Int)])) ∧ k ≠ 0) ∧ Kp g g w w'

set_option maxRecDepth 100000 in
theorem RVGet_any (w : World) (g b : Nat) (R : List Bool) (tag n : Nat) (htag : 1 ≤ tag ∧ tag ≤ 3) (h : Qr w g b R) (hbl : b < w.heap.size) (h1 : 1 ≤ n) (hn : n ≤ 10000) :
    Calls Tryz.prog 32 #[.pointer (some ⟨g, 0, none⟩), .int .i64 (tag : Int), .int .i64 (n : Int)] w (QGotV w g b (vget tag n R)) := by
  have hc : tag = 1 ∨ tag = 2 ∨ tag = 3 := by omega
  obtain ⟨X, hX⟩ : ∃ X, vget tag n R = X := ⟨_, rfl⟩
  rw [hX]
  rcases hc with rfl | rfl | rfl
  · have hP := RXGet_any w g b R n h hbl h1 hn
    rw [show xget n R = X from hX] at hP
    have HP := Lib.hid hP
    clear hP hX h
    cases X with
    | error k =>
      go_enter Tryz.func32, Tryz.ntmps32
      go_wp2_with fail
      refine HP.out.mono ?_
      rintro e w1 ⟨⟨rfl, hk⟩, hK⟩
      go_wp2_with fail
      go_ret2
      exact ⟨⟨⟨none, 0, 0, rfl⟩, hk⟩, hK⟩
    | ok y =>
      obtain ⟨l, r⟩ := y
      go_enter Tryz.func32, Tryz.ntmps32
      go_wp2_with fail
      refine HP.out.mono ?_
      rintro e w1 ⟨⟨⟨b', A, c, rfl, hO, hb⟩, hQ⟩, hK⟩
      have HO := Lib.hid hO
      clear hO
      go_wp2_with fail
      go_ret2
      exact ⟨⟨⟨b', A, c, rfl, HO.out, hb⟩, hQ⟩, hK⟩
  · have hP := RRGet_any w g b R n h hbl hn
    rw [show rget n R = X from hX] at hP
    have HP := Lib.hid hP
    clear hP hX h
    cases X with
    | error k =>
      go_enter Tryz.func32, Tryz.ntmps32
      go_wp2_with fail
      refine HP.out.mono ?_
      rintro e w1 ⟨⟨rfl, hk⟩, hK⟩
      go_wp2_with fail
      go_ret2
      exact ⟨⟨⟨none, 0, 0, rfl⟩, hk⟩, hK⟩
    | ok y =>
      obtain ⟨l, r⟩ := y
      go_enter Tryz.func32, Tryz.ntmps32
      go_wp2_with fail
      refine HP.out.mono ?_
      rintro e w1 ⟨⟨⟨b', A, c, rfl, hO, hb⟩, hQ⟩, hK⟩
      have HO := Lib.hid hO
      clear hO
      go_wp2_with fail
      go_ret2
      exact ⟨⟨⟨b', A, c, rfl, HO.out, hb⟩, hQ⟩, hK⟩
  · have hP := RGet_nat w g b R n h hbl (by omega)
    have hd : dgot (getVals n R) = X := hX
    generalize getVals n R = V at *
    obtain ⟨V1, V2, V3⟩ := V
    have HP := Lib.hid hP
    have HD := Lib.hid hd
    clear hP hX h hd
    go_enter Tryz.func32, Tryz.ntmps32
    go_wp2_with fail
    refine HP.out.mono ?_
    rintro e w1 ⟨A, c, rfl, hQ, ⟨b', hO, hb⟩, hK⟩
    dsimp only at hQ hO ⊢
    have HO := Lib.hid hO
    have HQ := Lib.hid hQ
    clear hO hQ
    go_wp2_with fail
    go_ret2
    rw [← HD.out]
    unfold dgot
    dsimp only
    by_cases h0 : V2 = 0
    · subst h0
      exact ⟨⟨⟨b', A, c, rfl, HO.out, hb⟩, HQ.out⟩, hK⟩
    · rw [if_neg h0]
      exact ⟨⟨⟨A, _, c, rfl⟩, h0⟩, hK⟩

theorem RDecode_nil (w : World) (A : Option Addr) (c : Nat) : Calls Tryz.prog 12 #[.slice A 0 c] w (DcGot w (cget [])) := by
  go_enter Tryz.func12, Tryz.ntmps12
  go_wp2
  go_ret2
  exact ⟨⟨rfl, by omega⟩, Nw.refl _⟩
set_option maxRecDepth 100000 in
theorem RDecode_kind (w : World) (b : Nat) (A : Option Addr) (n c tag : Nat) (r : List Nat) (hn : n = r.length + 1) (hm : n ≤ 1000000) (hr : Rd w b A (cN .u8 (tag :: r))) (hx : tag < 256) (ht : tag < 1 ∨ 3 < tag) : Calls Tryz.prog 12 #[.slice A n c] w (DcGot w (cget (tag :: r))) := by
  have e : cget (tag :: r) = .error 9 := by unfold cget; dsimp only; rw [if_pos ht]
  rw [e]
  clear e
  obtain ⟨o, rfl, hb, hc⟩ := hr.get (k := 0) (by simp)
  simp only [Nat.add_zero, cN, List.map_cons, List.getElem_cons_zero] at hc
  have i0 : (0 : Int) < (n : Int) := by omega
  have n0 : ((n : Int) == 0) = false := by rw [beq_eq_false_iff_ne]; omega
  clear hr hn
  by_cases h0 : tag < 1
  · have h0I : (tag : Int) < 1 := by omega
    go_enter Tryz.func12, Tryz.ntmps12
    go_wp2
    go_ret2
    exact ⟨⟨rfl, by omega⟩, Nw.refl _⟩
  · have h3 : 3 < tag := by omega
    have h0I : ¬ (tag : Int) < 1 := by omega
    have h3I : (3 : Int) < (tag : Int) := by omega
    go_enter Tryz.func12, Tryz.ntmps12
    go_wp2
    go_ret2
    exact ⟨⟨rfl, by omega⟩, Nw.refl _⟩
set_option maxRecDepth 100000 in
theorem RDecode_one (w : World) (b : Nat) (A : Option Addr) (c tag : Nat) (hr : Rd w b A (cN .u8 [tag])) (ht : 1 ≤ tag ∧ tag ≤ 3) : Calls Tryz.prog 12 #[.slice A 1 c] w (DcGot w (cget [tag])) := by
  have e : cget [tag] = .error 3 := by unfold cget; dsimp only; rw [if_neg (by omega)]
  rw [e]
  clear e
  obtain ⟨o, rfl, hb, hc⟩ := hr.get (k := 0) (by simp)
  simp only [Nat.add_zero, cN, List.map_cons, List.getElem_cons_zero] at hc
  clear hr
  obtain ⟨h1, h2⟩ := ht
  go_enter Tryz.func12, Tryz.ntmps12
  go_wp2
  go_ret2
  exact ⟨⟨rfl, by omega⟩, Nw.refl _⟩
set_option maxRecDepth 100000 in
theorem RDecode_limit (w : World) (b : Nat) (A : Option Addr) (n c tag n1 : Nat) (r : List Nat) (hn : n = r.length + 2) (hm : n ≤ 1000000) (hr : Rd w b A (cN .u8 (tag :: n1 :: r))) (ht : 1 ≤ tag ∧ tag ≤ 3) (hx : n1 < 256) (h : 120 ≤ n1) : Calls Tryz.prog 12 #[.slice A n c] w (DcGot w (cget (tag :: n1 :: r))) := by
  have e : cget (tag :: n1 :: r) = .error 7 := by unfold cget; dsimp only; rw [if_neg (by omega), if_pos h]
  rw [e]
  clear e
  obtain ⟨o, rfl, hb, hc⟩ := hr.get (k := 0) (by simp)
  obtain ⟨o', e, _, hc1⟩ := hr.get (k := 1) (by simp)
  injection e with e; injection e with _ e; subst e
  simp only [Nat.add_zero, cN, List.map_cons, List.getElem_cons_zero, List.getElem_cons_succ] at hc hc1
  have i0 : (0 : Int) < (n : Int) := by omega
  have i1 : (1 : Int) < (n : Int) := by omega
  have n0 : ((n : Int) == 0) = false := by rw [beq_eq_false_iff_ne]; omega
  have n1' : ((n : Int) == 1) = false := by rw [beq_eq_false_iff_ne]; omega
  clear hr hn
  obtain ⟨h1, h2⟩ := ht
  go_enter Tryz.func12, Tryz.ntmps12
  go_wp2
  go_ret2
  exact ⟨⟨rfl, by omega⟩, Nw.refl _⟩
end Go.Proofs.YtjepaneniodbpaaGreatDoor
