/- The bit writer's walks: NewWriter, Len, Bytes, Bits. -/
import Derived.Test.YtjepaneniodbpaaGreatDoorReader
import Derived.StillTailTactics
namespace Go.Proofs.YtjepaneniodbpaaGreatDoor
open Go Go.RowKit

/-- block g is a writer that holds the bits bs; its bytes lie in block b -/
structure Wtr (w : World) (g b : Nat) (bs : List Bool) : Prop where
  blk : ∃ A c, w.heap[g]? = some (.cells #[.slice A (pk bs).length c, .int .i64 (bs.length : Int)] 89 (0, 0)) ∧ Ow w b 5 1 A (pk bs).length c (cN .u8 (pk bs)) ∧ (A = none → c = 0) ∧ (A = none ∨ b ≠ g)
  lt : b < w.heap.size

section
variable {w w' : World} {g b : Nat} {bs : List Bool}
theorem Wtr.glt (h : Wtr w g b bs) : g < w.heap.size := by
  obtain ⟨A, c, hb, _⟩ := h.blk
  exact lt_of_block hb
theorem Wtr.nw (h : Wtr w g b bs) (hk : Nw w w') : Wtr w' g b bs := by
  have hlt := h.glt
  obtain ⟨⟨A, c, hb, hr, hA⟩, h3⟩ := h
  exact ⟨⟨A, c, (hk.block g hlt).trans hb, hr.nw hk, hA⟩, Nat.lt_of_lt_of_le h3 hk.size⟩
theorem Wtr.kp {g1 g2 : Nat} (h : Wtr w g b bs) (hk : Kp g1 g2 w w') (e1 : g ≠ g1) (e2 : g ≠ g2) (e3 : b ≠ g1) (e4 : b ≠ g2) : Wtr w' g b bs := by
  have hlt := h.glt
  obtain ⟨⟨A, c, hb, hr, hA⟩, h3⟩ := h
  exact ⟨⟨A, c, (hk.block g hlt e1 e2).trans hb, hr.kp hk e3 e4, hA⟩, Nat.lt_of_lt_of_le h3 hk.size⟩
end

theorem NewWriter_any (w : World) : Calls Tryz.prog 17 #[] w fun e w' => ∃ g, e = .returned (.pointer (some ⟨g, 0, none⟩)) ∧ Wtr w' g g [] ∧ w.heap.size ≤ g ∧ Nw w w' := by
  go_enter Tryz.func17, Tryz.ntmps17
  go_wp2
  go_ret
  refine ⟨w.heap.size, by simp, ⟨⟨none, 0, ?_, ?_, fun _ => rfl, .inl rfl⟩, by simp⟩, Nat.le_refl _, (Nw.refl w).alloc' _⟩
  · rw [heap_alloc_new]; rfl
  · exact Ow.nil _ _ _ _

theorem WBytes_any (w : World) (g b : Nat) (bs : List Bool) (h : Wtr w g b bs) (hs : bs.length ≤ 1099511627776) : Calls Tryz.prog 21 #[.pointer (some ⟨g, 0, none⟩)] w fun e w' =>
    ∃ b' A' c', e = .returned (.slice A' (pk bs).length c') ∧ Ow w' b' 5 1 A' (pk bs).length c' (cN .u8 (pk bs)) ∧ w.heap.size ≤ b' ∧ Nw w w' := by
  obtain ⟨⟨A, c, hb, hr, hA, _⟩, hne⟩ := h
  have hc1 : w.cell? ⟨g, 0, none⟩ = some (.slice A (pk bs).length c) := by simp [World.cell?, hb]
  have hnil : ∀ W, (binOp .eql 49 (.pointer (some ⟨g, 0, none⟩)) (.pointer none)).run Tryz.prog W = .ok (.bool false) W := fun _ => by kernel_rfl
  have hl : (pk bs).length ≤ 140737488355328 := by rw [pk_length]; omega
  have H := Lib.hid (CloneB_any w b A (pk bs).length c (pk bs) rfl hl hr.rd hA)
  clear hb hr hne hA hl
  go_enter Tryz.func21, Tryz.ntmps21
  go_wp2_with (go_at_call 47; refine H.out.mono ?_; rintro e w' ⟨b', A', c', rfl, hO, hge, hN⟩)
  go_ret
  exact ⟨b', A', c', by simp, hO, hge, hN⟩

/-- the byte that is stored -/
theorem byte_value (cu : List Bool) (x s : Nat) (hx : x < 18446744073709551616) :
    bits .or .u8 ((byteAt cu (cu.length / 8) : Nat) : Int) (bits .and .u64 ((x : Int) / 2 ^ s) 1 % 256 * 2 ^ (7 - cu.length % 8) % 256) =
      ((byteAt cu (cu.length / 8) + b2n (decide (x / 2 ^ s % 2 = 1)) * 2 ^ (7 - cu.length % 8) : Nat) : Int) := by
  obtain ⟨t, ht, h0⟩ := byteAt_room cu
  have hlt := byteAt_lt cu (cu.length / 8)
  have h1 : ((x : Int) / 2 ^ s) = ((x / 2 ^ s : Nat) : Int) := by simp
  have h2 : x / 2 ^ s ≤ x := Nat.div_le_self _ _
  rw [h1]
  have hd : b2n (decide (x / 2 ^ s % 2 = 1)) = x / 2 ^ s % 2 := by
    have : x / 2 ^ s % 2 = 0 ∨ x / 2 ^ s % 2 = 1 := by omega
    rcases this with h | h <;> simp [b2n, h]
  rw [hd]
  generalize x / 2 ^ s = y at *
  rw [and_one_u64 _ (by omega) (by omega)]
  have hy : (y : Int) % 2 = ((y % 2 : Nat) : Int) := by omega
  rw [hy]
  generalize hbb : y % 2 = d at *
  have hd2 : d ≤ 1 := by omega
  generalize byteAt cu (cu.length / 8) = q at *
  have hr : cu.length % 8 < 8 := by omega
  generalize cu.length % 8 = r at *
  have hp : 2 ^ (8 - r) = 2 * 2 ^ (7 - r) := by rw [← Nat.pow_succ']; congr 1; omega
  have hp2 : 2 ^ (7 - r) ≤ 2 ^ 7 := Nat.pow_le_pow_right (by omega) (by omega)
  have hp3 : (2 : Nat) ^ 7 = 128 := rfl
  have e1 : (d : Int) % 256 = (d : Int) := by omega
  have e2 : (d : Int) * 2 ^ (7 - r) = ((d * 2 ^ (7 - r) : Nat) : Int) := by simp
  rw [e1, e2]
  have hm : d * 2 ^ (7 - r) ≤ 2 ^ (7 - r) := by
    have := Nat.mul_le_mul_right (2 ^ (7 - r)) hd2
    omega
  generalize hz : d * 2 ^ (7 - r) = z at *
  have e3 : (z : Int) % 256 = (z : Int) := by omega
  have hpos : 0 < 2 ^ (7 - r) := Nat.pow_pos (by omega)
  rw [e3, u8_or_nat _ _ hlt (by omega), nat_join (8 - r) _ _ (by rw [ht, Nat.mul_mod_left]) (by omega)]

theorem wtr_close {W : World} {g b2 : Nat} {cu : List Bool} {v : Bool} {A2 : Option Addr} {c2 : Nat} {L : List Nat} (hL : L = if cu.length % 8 = 0 then pk cu ++ [0] else pk cu)
    (hb : W.heap[g]? = some (.cells #[.slice A2 L.length c2, .int .i64 (cu.length : Int)] 89 (0, 0))) (hO : Ow W b2 5 1 A2 L.length c2 (cN .u8 L)) (hne : b2 ≠ g) :
    Wtr ((W.setCell ⟨b2, cu.length / 8, none⟩ (.int .u8 ((byteAt cu (cu.length / 8) + b2n v * 2 ^ (7 - cu.length % 8) : Nat) : Int))).setCell ⟨g, 1, none⟩ (.int .i64 ((cu.length : Int) + 1))) g b2 (cu ++ [v]) := by
  have hpk := pk_snoc cu v
  rw [← hL] at hpk
  have hlen : (pk (cu ++ [v])).length = L.length := by rw [hpk, List.length_set]
  have hpos : 0 < L.length := by rw [← hlen, pk_length]; simp
  have hO1 := hO.set_ (cu.length / 8) (.int .u8 ((byteAt cu (cu.length / 8) + b2n v * 2 ^ (7 - cu.length % 8) : Nat) : Int))
  refine ⟨⟨A2, c2, ?_, ?_, ?_, .inr hne⟩, ?_⟩
  · rw [hlen]
    have h1 : (W.setCell ⟨b2, cu.length / 8, none⟩ (.int .u8 ((byteAt cu (cu.length / 8) + b2n v * 2 ^ (7 - cu.length % 8) : Nat) : Int))).heap[g]? = W.heap[g]? :=
      Below.heap_setCell _ _ _ _ (by exact fun h => hne h.symm)
    rw [hb] at h1
    generalize W.setCell ⟨b2, cu.length / 8, none⟩ _ = W1 at h1
    simp [World.setCell, Array.getElem?_modify, h1]
  · rw [hlen]
    have h2 : cN .u8 (pk (cu ++ [v])) = (cN .u8 L).set (cu.length / 8) (.int .u8 ((byteAt cu (cu.length / 8) + b2n v * 2 ^ (7 - cu.length % 8) : Nat) : Int)) := by
      rw [hpk]; exact List.map_set ..
    rw [h2]
    exact hO1.kp ((Kp.refl g g _).setCell' (.inl rfl) _) hne hne
  · rintro rfl
    rcases hO with ⟨_, h, _⟩ | ⟨h, _⟩
    · omega
    · cases h
  · have := hO.lt hpos
    simpa [World.setCell] using this

theorem bits_next {bs cu : List Bool} {x n k : Nat} (h : bs ++ (bitsOf x n).take k = cu) (hk : k < n) : bs ++ (bitsOf x n).take (k + 1) = cu ++ [decide (x / 2 ^ (n - 1 - k) % 2 = 1)] := by
  rw [List.take_succ_eq_append_getElem (by rw [bitsOf_length]; exact hk), ← List.append_assoc, h, bitsOf_get]

set_option maxRecDepth 100000 in
set_option maxHeartbeats 1600000 in
theorem WBits_any (w : World) (g b : Nat) (bs : List Bool) (x n : Nat) (h : Wtr w g b bs) (hn : n ≤ 64) (hx : x < 18446744073709551616) (hs : bs.length + n ≤ 1099511627776) :
    Calls Tryz.prog 18 #[.pointer (some ⟨g, 0, none⟩), .int .u64 (x : Int), .int .i64 (n : Int)] w fun e w' =>
      e = .returned (.int .i64 0) ∧ ∃ b', Wtr w' g b' (bs ++ bitsOf x n) ∧ (b' = b ∨ w.heap.size ≤ b') ∧ Kp g b w w' := by
  have hnil : ∀ W, (binOp .eql 49 (.pointer (some ⟨g, 0, none⟩)) (.pointer none)).run Tryz.prog W = .ok (.bool false) W := fun _ => by kernel_rfl
  have H := Lib.hid h
  clear h
  have HX := Lib.hid hx
  clear hx
  go_enter Tryz.func18, Tryz.ntmps18
  go_wp2
  go_loopw [19] (fun i wr => ∃ k : Nat, k ≤ n ∧ i = .int .i64 k ∧ ∃ bk, Wtr wr g bk (bs ++ (bitsOf x n).take k) ∧ (bk = b ∨ w.heap.size ≤ bk) ∧ Kp g b w wr) (fun i _ => n - (intOf i).toNat)
  case atStart => exact ⟨0, by omega, rfl, b, by simpa using H.out, .inl rfl, Kp.refl _ _ _⟩
  case round =>
    obtain ⟨k, hk, rfl, bk, hW, hbk, hK⟩ := hrel
    by_cases hlt : k < n
    · obtain ⟨⟨A, c, hb, hO, hA, hne⟩, hbl⟩ := hW
      generalize hcu : bs ++ (bitsOf x n).take k = cu at *
      have hlen : cu.length = bs.length + k := by rw [← hcu, List.length_append, List.length_take, bitsOf_length]; omega
      have hle : cu.length ≤ 1099511627776 := by omega
      have hc0 : wr.cell? ⟨g, 0, none⟩ = some (.slice A (pk cu).length c) := by simp [World.cell?, hb]
      have hc1 : wr.cell? ⟨g, 1, none⟩ = some (.int .i64 (cu.length : Int)) := by simp [World.cell?, hb]
      have hf0 : wr.frozen? ⟨g, 0, none⟩ = false := by simp [World.frozen?, hb]
      have hf1 : wr.frozen? ⟨g, 1, none⟩ = false := by simp [World.frozen?, hb]
      have HL := Lib.hid hlen
      have HCU := Lib.hid hcu
      have HB := Lib.hid hb
      have HPL := Lib.hid (pk_length cu)
      clear hlen hcu hb
      by_cases h8 : cu.length % 8 = 0
      · have h8' : (((cu.length : Nat) : Int) % 8 == 0) = true := by rw [beq_iff_eq]; omega
        have H8 := Lib.hid h8
        clear h8
        have hkg : ∀ w1 b1, Kp bk bk wr w1 → (A = none → Nw wr w1 ∧ wr.heap.size ≤ b1) → w1.heap[g]? = some (.cells #[.slice A (pk cu).length c, .int .i64 (cu.length : Int)] 89 (0, 0)) := by
          intro w1 b1 h3 h4
          refine Eq.trans ?_ HB.out
          rcases hne with h | h
          · exact (h4 h).1.block g (lt_of_block HB.out)
          · exact h3.block g (lt_of_block HB.out) (Ne.symm h) (Ne.symm h)
        have HKG := Lib.hid hkg
        clear hkg
        have hglt := lt_of_block HB.out
        go_wp2_with (at_builtin; refine wpList_app1 E_u8 rfl (.tmp 34) (.tmp 35) rfl rfl hO rfl rfl (by have := HPL.out; omega) (by omega) ?_; intro b1 A1 c1 w1 h1 h2 h3 h4; have hbg := Lib.hid (HKG.out w1 b1 h3 h4); have hd0 : w1.cell? ⟨g, 0, none⟩ = some (.slice A (pk cu).length c) := (by simp [World.cell?, hbg.out]); have hd1 : w1.frozen? ⟨g, 0, none⟩ = false := (by simp [World.frozen?, hbg.out]))
        have hsz := h3.size
        have hb1g : b1 ≠ g := by
          rcases hne with h | h
          · have := (h4 h).2; omega
          · rcases h2 with rfl | h2
            · exact h
            · omega
        have hK1 : Kp g b w w1 := by
          have hKK := hK.size
          by_cases hAn : A = none
          · exact hK.nw' (h4 hAn).1
          · exact hK.trans h3 (by rcases hbk with h | h <;> simp [h]) (by rcases hbk with h | h <;> simp [h])
        have hbb1 : b1 = b ∨ w.heap.size ≤ b1 := by
          have hKK := hK.size
          rcases h2 with rfl | h2
          · exact hbk
          · right; omega
        have hO2 : Ow (w1.setCell ⟨g, 0, none⟩ (.slice A1 ((pk cu).length + 1) c1)) b1 5 1 A1 (pk cu ++ [0]).length c1 (cN .u8 (pk cu ++ [0])) := by
          have := h1.kp ((Kp.refl g g w1).setCell' (p := ⟨g, 0, none⟩) (.inl rfl) (.slice A1 ((pk cu).length + 1) c1)) hb1g hb1g
          simpa using this
        have hb2 : (w1.setCell ⟨g, 0, none⟩ (.slice A1 ((pk cu).length + 1) c1)).heap[g]? = some (.cells #[.slice A1 (pk cu ++ [0]).length c1, .int .i64 (cu.length : Int)] 89 (0, 0)) := by
          have := hbg.out
          simp [World.setCell, Array.getElem?_modify, this]
        have hK2 := hK1.setCell' (p := ⟨g, 0, none⟩) (.inl rfl) (.slice A1 ((pk cu).length + 1) c1)
        generalize w1.setCell ⟨g, 0, none⟩ (.slice A1 ((pk cu).length + 1) c1) = w2 at *
        have hj : cu.length / 8 < (pk cu ++ [0]).length := by have := HPL.out; have := H8.out; rw [List.length_append, List.length_singleton]; omega
        have hold : (pk cu ++ [0])[cu.length / 8] = byteAt cu (cu.length / 8) := by
          obtain ⟨t, ht, h0⟩ := byteAt_room cu
          rw [ht, h0 H8.out, List.getElem_append_right (by have := HPL.out; have := H8.out; omega)]
          simp
        obtain ⟨rfl, hlt2, hcell, hfb⟩ := hO2.at_ (j := cu.length / 8) (by omega)
        rw [List.getElem?_map, List.getElem?_eq_getElem hj, hold, Option.map_some] at hcell
        have g0 : w2.cell? ⟨g, 0, none⟩ = some (.slice (some ⟨b1, 0, none⟩) ((pk cu).length + 1) c1) := by simp [World.cell?, hb2]
        have g1 : w2.cell? ⟨g, 1, none⟩ = some (.int .i64 (cu.length : Int)) := by simp [World.cell?, hb2]
        have f1 : w2.frozen? ⟨g, 1, none⟩ = false := by simp [World.frozen?, hb2]
        have i0 : (0 : Int) ≤ (cu.length : Int) / 8 := by omega
        have i1 : (cu.length : Int) / 8 < (((pk cu).length + 1 : Nat) : Int) := by simp at hj; omega
        have i1' : (cu.length : Int) / 8 < ((pk cu).length : Int) + 1 := by omega
        have i2 : ((cu.length : Int) / 8).toNat = cu.length / 8 := by omega
        have HO := Lib.hid hO2
        have HB2 := Lib.hid hb2
        clear hO2 hb2 h1 h2 h3 h4 hO hA hold hd0 hd1 hc0 hc1 hf0 hf1
        have e1 : (cu.length : Int).tdiv 8 = (cu.length : Int) / 8 := Int.tdiv_eq_ediv_of_nonneg (by omega)
        have e2 : IntKind.i64.wrap ((cu.length : Int) / 8) = (cu.length : Int) / 8 := IntWalk.i64_in _ (by omega)
        have e3 : (cu.length : Int).tmod 8 = (cu.length : Int) % 8 := Int.tmod_eq_emod_of_nonneg (by omega)
        have e4 : IntKind.i64.wrap ((cu.length : Int) % 8) = (cu.length : Int) % 8 := IntWalk.i64_in _ (by omega)
        have e5 : IntKind.i64.wrap (7 - (cu.length : Int) % 8) = 7 - (cu.length : Int) % 8 := IntWalk.i64_in _ (by omega)
        have e6 : IntKind.i64.wrap ((n : Int) - 1) = (n : Int) - 1 := IntWalk.i64_in _ (by omega)
        have e7 : IntKind.i64.wrap ((n : Int) - 1 - (k : Int)) = (n : Int) - 1 - (k : Int) := IntWalk.i64_in _ (by omega)
        have e8 : (0 : Int) ≤ (n : Int) - 1 - (k : Int) := by omega
        have e9 : (0 : Int) ≤ 7 - (cu.length : Int) % 8 := by omega
        have hne1 : ¬ b1 = g := hb1g
        have hne2 : ¬ g = b1 := fun h => hne1 h.symm
        go_still_tail 31, (by kernel_rfl)
        clear e1 e2 e3 e4 e5 e6 e7
        change wpList _ _ _ _ _ w2.drew
        go_wp2
        go_roundw
        case rel =>
          rw [byte_value cu x _ HX.out]
          refine ⟨k + 1, by omega, by go_num, b1, ?_, hbb1, ?_⟩
          · rw [bits_next HCU.out hlt]
            exact (wtr_close (v := decide (x / 2 ^ (n - 1 - k) % 2 = 1)) (by rw [if_pos H8.out]) HB2.out HO.out hne1).nw (Nw.drewN _ 1)
          · exact ((hK2.setCell' (p := ⟨b1, cu.length / 8, none⟩) (by rcases hbb1 with h | h <;> simp [h]) _).setCell' (p := ⟨g, 1, none⟩) (.inl rfl) _).drewN' 1
        case measure => simp [intOf]; omega
      · have h8' : (((cu.length : Nat) : Int) % 8 == 0) = false := by rw [beq_eq_false_iff_ne]; omega
        have H8 := Lib.hid h8
        clear h8
        have hj : cu.length / 8 < (pk cu).length := by have := HPL.out; have := H8.out; omega
        obtain ⟨rfl, hlt2, hcell, hfb⟩ := hO.at_ (j := cu.length / 8) (by omega)
        rw [List.getElem?_map, List.getElem?_eq_getElem hj, pk_get, Option.map_some] at hcell
        have i0 : (0 : Int) ≤ (cu.length : Int) / 8 := by omega
        have i1 : (cu.length : Int) / 8 < ((pk cu).length : Int) := by omega
        have i2 : ((cu.length : Int) / 8).toNat = cu.length / 8 := by omega
        have HO := Lib.hid hO
        clear hO hA
        have e1 : (cu.length : Int).tdiv 8 = (cu.length : Int) / 8 := Int.tdiv_eq_ediv_of_nonneg (by omega)
        have e2 : IntKind.i64.wrap ((cu.length : Int) / 8) = (cu.length : Int) / 8 := IntWalk.i64_in _ (by omega)
        have e3 : (cu.length : Int).tmod 8 = (cu.length : Int) % 8 := Int.tmod_eq_emod_of_nonneg (by omega)
        have e4 : IntKind.i64.wrap ((cu.length : Int) % 8) = (cu.length : Int) % 8 := IntWalk.i64_in _ (by omega)
        have e5 : IntKind.i64.wrap (7 - (cu.length : Int) % 8) = 7 - (cu.length : Int) % 8 := IntWalk.i64_in _ (by omega)
        have e6 : IntKind.i64.wrap ((n : Int) - 1) = (n : Int) - 1 := IntWalk.i64_in _ (by omega)
        have e7 : IntKind.i64.wrap ((n : Int) - 1 - (k : Int)) = (n : Int) - 1 - (k : Int) := IntWalk.i64_in _ (by omega)
        have e8 : (0 : Int) ≤ (n : Int) - 1 - (k : Int) := by omega
        have e9 : (0 : Int) ≤ 7 - (cu.length : Int) % 8 := by omega
        have hne1 : ¬ bk = g := by
          rcases hne with h | h
          · cases h
          · exact h
        have hne2 : ¬ g = bk := fun h => hne1 h.symm
        go_wp2
        go_still_tail 31, (by kernel_rfl)
        clear e1 e2 e3 e4 e5 e6 e7
        change wpList _ _ _ _ _ wr.drew
        go_wp2
        go_roundw
        case rel =>
          rw [byte_value cu x _ HX.out]
          refine ⟨k + 1, by omega, by go_num, bk, ?_, hbk, ?_⟩
          · rw [bits_next HCU.out hlt]
            exact (wtr_close (v := decide (x / 2 ^ (n - 1 - k) % 2 = 1)) (by rw [if_neg H8.out]) HB.out HO.out hne1).nw (Nw.drewN _ 1)
          · exact ((hK.setCell' (p := ⟨bk, cu.length / 8, none⟩) (by rcases hbk with h | h <;> simp [h]) _).setCell' (p := ⟨g, 1, none⟩) (.inl rfl) _).drewN' 1
        case measure => simp [intOf]; omega
    · go_wp2
      go_ret
      obtain rfl : k = n := by omega
      exact ⟨rfl, bk, by rwa [List.take_of_length_le (by rw [bitsOf_length]; omega)] at hW, hbk, hK⟩
end Go.Proofs.YtjepaneniodbpaaGreatDoor
