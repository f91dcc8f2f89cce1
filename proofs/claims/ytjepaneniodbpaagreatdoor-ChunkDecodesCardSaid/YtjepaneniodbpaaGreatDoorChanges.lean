/- times.changes as an iterator. -/
import Derived.Test.YtjepaneniodbpaaGreatDoorTimGet
import Derived.RangeFuncNested
import Derived.RangeFuncBound
import Derived.RangeFuncCalls
import Derived.RangeFuncLeaves
import Derived.Shelf.Abstract
import Derived.WalkKit
import Derived.OwnWalkIn
import Derived.TacticsInMore
import Derived.LoopNIn
import Derived.LoopIn
namespace Go.Proofs.YtjepaneniodbpaaGreatDoor
open Go Go.RowKit Go.Sort Go.Shelf
attribute [local go_sem] Oper.semAt_some

abbrev I6S := { x : Int // I6 x }
/-- what a round keeps: the blocks B and bl -/
def KpC (B bl : Nat) (W W' : World) : Prop := W'.heap[B]? = W.heap[B]? ∧ W'.heap[bl]? = W.heap[bl]? ∧ W.heap.size ≤ W'.heap.size
theorem KpC.trans {B bl : Nat} {X Y Z : World} (h : KpC B bl X Y) (k : KpC B bl Y Z) : KpC B bl X Z := ⟨k.1.trans h.1, k.2.1.trans h.2.1, Nat.le_trans h.2.2 k.2.2⟩
theorem Rd.kpc {b B : Nat} {w w' : World} {A : Option Addr} {xs : List Value} (h : Rd w b A xs) (hk : KpC B b w w') : Rd w' b A xs := by
  rcases h with rfl | ⟨o, e, hlt, hc⟩
  · exact .inl rfl
  · exact .inr ⟨o, e, Nat.lt_of_lt_of_le hlt hk.2.2, fun j u hu => (World.cell?_of_block hk.2.1).trans (hc j u hu)⟩

theorem changes_any (w : World) (A : Option Addr) (n c : Nat) : Calls Tryz.prog 36 #[.slice A n c] w fun e w' => e = .returned (.func (.func 65) #[] #[.pointer (some ⟨w.heap.size, 0, none⟩)]) ∧ w' = w.alloc (.cells #[.slice A n c] 48) := by
  go_enter Tryz.func36, Tryz.ntmps36
  go_wp2
  go_ret
  exact ⟨rfl, rfl⟩

set_option maxRecDepth 100000 in
theorem changes_stops (n : Nat) (hn : 1 ≤ n) (w : World) (B bl : Nat) (A : Option Addr) (c : Nat) (l : List Int) (hm : l.length ≤ 1000000) (hl : ∀ x ∈ l, I6 x) (hB : w.heap[B]? = some (.cells #[.slice A l.length c] 48 (0, 0))) (hr : Rd w bl A (cI .i64 l)) :
    SeqStopsK Fence.wide n Tryz.prog 65 #[.pointer (some ⟨B, 0, none⟩)] (fun x : I6S => #[.int .i64 x.1]) (KpC B bl) (fun xs => xs.map (·.1) = chg l) (fun _ => True) (chg l).length w := by
  intro lp J Jx W hW hJ hJx hY h0
  have HL := Lib.hid hl
  have hBW := (hW.block B (lt_of_block hB)).trans hB
  have hrW := hr.nw hW
  clear hl
  refine callsIn_of_wp Tryz.func65 rfl trivial ?_ rfl
  simp only [Tryz.ntmps65, List.size_toArray, List.length_cons, List.length_nil, Nat.reduceAdd, Nat.reduceSub, Array.replicate_succ, Array.replicate_zero, List.push_toArray, List.append_toArray, List.nil_append, List.cons_append]
  gi_wp2
  gi_loopw [3, 4] (fun v3 v4 wr => ∃ (pre : List I6S) (k : Nat) (d : Int), v4 = .int .i64 ((k : Int) + 1) ∧ v3 = .int .i64 d ∧ pre.length = k ∧ J pre wr ∧ KpC B bl W wr ∧
    ((l = [] ∧ k = 0 ∧ pre = []) ∨ ∃ t, l[k]? = some t ∧ chg l = pre.map (·.1) ++ chgF t d (l.drop (k + 1)))) (fun _ v4 _ => l.length - (intOf v4).toNat)
  case atStart =>
    refine ⟨[], 0, 0, rfl, rfl, rfl, h0, ⟨rfl, rfl, Nat.le_refl _⟩, ?_⟩
    cases l with
    | nil => exact .inl ⟨rfl, rfl, rfl⟩
    | cons t r => exact .inr ⟨t, rfl, rfl⟩
  case round =>
    obtain ⟨pre, k, d, rfl, rfl, hp, hJp, hK, hrel⟩ := hrel
    have hBr : wr.cell? ⟨B, 0, none⟩ = some (.slice A l.length c) := by
      have := hK.1.trans hBW
      simp [World.cell?, this]
    by_cases hlt : k + 1 < l.length
    · rcases hrel with ⟨rfl, _⟩ | ⟨t, ht, hch⟩
      · simp at hlt
      · have hltI : (k : Int) + 1 < (l.length : Int) := by omega
        obtain ⟨o, rfl, _, hc1⟩ := (hrW.kpc hK).get (k := k + 1) (by simpa using hlt)
        obtain ⟨o', ho', _, hc0⟩ := (hrW.kpc hK).get (k := k) (by simp; omega)
        obtain rfl : o = o' := by simpa using ho'
        rw [List.getElem_map] at hc1 hc0
        have ht' : l[k] = t := by
          rw [List.getElem?_eq_getElem (by omega)] at ht
          exact Option.some.inj ht
        rw [ht'] at hc0
        have hd : l.drop (k + 1) = l[k + 1] :: l.drop (k + 2) := List.drop_eq_getElem_cons hlt
        generalize l[k + 1] = t' at *
        rw [hd] at hch
        have hplen : pre.length < (chg l).length := by rw [hch]; simp [chgF]
        have HCH := Lib.hid hch
        have HK := Lib.hid hK
        have HY := Lib.hid hY
        have HD := Lib.hid hd
        have HJ := Lib.hid hJ
        have HT := Lib.hid (show l[k + 1]? = some t' from by
          have := congrArg (fun z => z[0]?) hd
          simpa using this)
        have HP := Lib.hid hp
        have HH := Lib.hid hrW
        have HB0 := Lib.hid hBW
        clear hch hK hY hd hJ hJx h0 hp hB hr hBW hrW ho' ht ht'
        gi_wp2
        refine wpIn_wide.2 ?_
        go_quiet (fail)
        have hJ2 : J pre (wr.drewN nq) := HJ.out pre wr _ none hJp ⟨rfl, rfl, rfl, Nat.le_refl _, fun _ _ _ => rfl⟩ (fun r e => by cases e)
        obtain ⟨fn, tmps, assign, body, hy, hR⟩ := HY.out pre ⟨wrap64 (wrap64 (t' - t) - d), I6.w _⟩ _ hJ2 hplen
        have HR := Lib.hid hR
        clear hR hJp hJ2
        gi_wp2
        refine HR.out.mono ?_
        rintro e W3 (⟨rfl, hJ3, hk3⟩ | ⟨rfl, hJx3⟩)
        · gi_wp2
          go_roundw
          case rel =>
            refine ⟨pre ++ [⟨wrap64 (wrap64 (t' - t) - d), I6.w _⟩], k + 1, wrap64 (t' - t), ?_, rfl, by simp [HP.out], hJ3, HK.out.trans hk3, .inr ⟨t', HT.out, ?_⟩⟩
            · simp
            · rw [HCH.out]
              simp [chgF]
          case measure => simp [intOf]; omega
        · gi_wp2
          refine bodyPost_ret (results_none rfl _ _ _) rfl ?_
          exact ⟨⟨_, rfl⟩, .inr ⟨_, trivial, hJx3⟩⟩
    · have hltI : ¬ (k : Int) + 1 < (l.length : Int) := by omega
      have HREL := Lib.hid hrel
      clear hrel
      gi_wp2
      go_end0
      refine ⟨⟨_, rfl⟩, .inl ⟨pre, ?_, hJp⟩⟩
      rcases HREL.out with ⟨rfl, _, rfl⟩ | ⟨t, ht, hch⟩
      · rfl
      · rw [List.drop_eq_nil_of_le (by omega)] at hch
        simpa [chgF] using hch.symm
end Go.Proofs.YtjepaneniodbpaaGreatDoor
