/- Large, of three layers: what its answer 0 says of the series. -/
import Derived.Test.YtoogadidbbpplaaGreatSums
import Derived.Test.YtoogadidbbpplaaGreatGrown
import Derived.Deep.RegionHeld3
import Derived.Deep.AppendLies
import Derived.Maps.AppendAt
namespace Go.Proofs.YtoogadidbbpplaaGreat
open Go Go.RowKit

abbrev cT (l : List ByteArray) : List Value := l.map Value.string
theorem E_str : ElemT Tryz.prog 48 9 (.string .empty) 1 16 := ElemT.mk' Tryz.underlying48 (by kernel_rfl) rfl (by omega)
theorem E_lab : ElemT Tryz.prog 34 47 (.agg #[.string .empty, .string .empty]) 2 32 := ElemT.mk' Tryz.underlying34 (by kernel_rfl) rfl (by omega)
theorem oc_T (l : List ByteArray) : ∀ u ∈ cT l, u.oneCell' = true := by
  intro u hu
  obtain ⟨x, _, rfl⟩ := List.mem_map.1 hu
  rfl
theorem oc_L (l : List Lab) : ∀ u ∈ cL l, u.oneCell' = true := c2_one (fun _ => rfl) (fun _ => rfl) l
theorem cell_past {w : World} {o : Obj} {a : Addr} {v : Value} (h : a.block < w.heap.size) (hc : w.cell? a = some v) : (w.alloc o).cell? a = some v :=
  (World.cell?_of_block (Below.heap_alloc w o _ h)).trans hc
/-- strings that are few and short -/
def FewT (l : List ByteArray) : Prop := l.length ≤ 500 ∧ ∀ x ∈ l, x.size ≤ 200000
set_option maxRecDepth 100000 in
theorem Large10_any (w : World) (b : Nat) (A : Option Addr) (n c : Nat) (l : List ByteArray) (hn : n = l.length) (hr : Rd w b A (cT l)) :
    Calls Tryz.prog 35 #[.slice A n c] w fun e w' => ∃ v : Nat, e = .returned (.int .i64 (v : Int)) ∧ (v = 1 ∨ (v = 0 ∧ FewT l)) ∧ w = w' := by
  subst hn
  go_enter Tryz.func35, Tryz.ntmps35
  go_wp2
  go_loop [3, 8] (fun v i => ∃ k : Nat, k ≤ l.length ∧ i = .int .i64 k ∧ ∃ N : Nat, v = .int .i64 N ∧ N ≤ 200000 ∧ k ≤ N ∧ Hid (∀ x ∈ l.take k, x.size ≤ 200000) ∧ Hid (0 < k → l.length ≤ 500)) (fun _ i => l.length - (intOf i).toNat)
  case atStart => exact ⟨0, by omega, rfl, 0, rfl, by omega, by omega, Lib.hid (by simp), Lib.hid (by omega)⟩
  case round =>
    obtain ⟨k, hk, rfl, N, rfl, hN, hkN, HF, hl5⟩ := hrel
    by_cases hlt : k < l.length
    · have hltI : (k : Int) < (l.length : Int) := by omega
      obtain ⟨o, rfl, _, hc⟩ := hr.get (k := k) (by simpa using hlt)
      rw [List.getElem_map] at hc
      have HT := Lib.hid (List.take_succ_eq_append_getElem hlt)
      generalize l[k] = x at *
      by_cases hs : x.size ≤ 200000
      · by_cases h2 : 200000 < N + (1 + x.size)
        · have h2I : (200000 : Int) < (N : Int) + (1 + (x.size : Int)) := by omega
          go_wp2
          go_ret
          exact ⟨1, rfl, .inl rfl, rfl⟩
        · have h2I : ¬ (200000 : Int) < (N : Int) + (1 + (x.size : Int)) := by omega
          by_cases h5 : 500 < l.length
          · have h5I : (500 : Int) < (l.length : Int) := by omega
            go_wp2
            go_ret
            exact ⟨1, rfl, .inl rfl, rfl⟩
          · have h5I : ¬ (500 : Int) < (l.length : Int) := by omega
            go_wp2
            go_round
            case rel =>
              refine ⟨k + 1, by omega, by go_num, N + (1 + x.size), by go_num, by omega, by omega, Lib.hid ?_, Lib.hid fun _ => by omega⟩
              rw [HT.out]
              intro y hy
              rcases List.mem_append.1 hy with h | h
              · exact HF.out y h
              · simp at h; subst h; exact hs
            case measure => simp [intOf]; omega
      · have hsI : (200000 : Int) < (x.size : Int) := by omega
        have hmin : min (x.size : Int) 200000 = 200000 := by omega
        have h2I : (200000 : Int) < (N : Int) + 200001 := by omega
        go_wp2
        go_ret
        exact ⟨1, rfl, .inl rfl, rfl⟩
    · obtain rfl : k = l.length := by omega
      go_wp2
      go_ret
      have h := HF.out
      rw [List.take_length] at h
      exact ⟨0, rfl, .inr ⟨rfl, by have := hl5.out; omega, h⟩, rfl⟩

def strsOf (l : List Lab) : List ByteArray := l.flatMap fun x => [x.1, x.2]
theorem cT_strs (l : List Lab) : cT (strsOf l) = cL l := by
  unfold cT strsOf cL c2
  rw [List.map_flatMap]
  rfl
theorem strsOf_length (l : List Lab) : (strsOf l).length = 2 * l.length := by
  rw [← c2_length (f := fun x : Lab => Value.string x.1) (g := fun x => .string x.2) l]
  show _ = (cL l).length
  rw [← cT_strs, List.length_map]

set_option maxRecDepth 100000 in
theorem RStrings_any (w : World) (b : Nat) (A : Option Addr) (n c : Nat) (l : List Lab) (hn : n = l.length) (hm : n ≤ 1000000) (hr : Rd w b A (cL l)) :
    Calls Tryz.prog 36 #[.slice A n c] w fun e w' => ∃ b' A' c', e = .returned (.slice A' (2 * n) c') ∧ Ow w' b' 9 1 A' (2 * n) c' (cT (strsOf l)) ∧ w.heap.size ≤ b' ∧ Nw w w' := by
  subst hn
  have hbl : l = [] ∨ b < w.heap.size := by
    rcases hr with h | ⟨_, _, h, _⟩
    · left
      have := congrArg List.length h
      rw [show (cL l).length = 2 * l.length from c2_length l] at this
      exact List.eq_nil_of_length_eq_zero (by simp at this; omega)
    · exact .inr h
  have HR := Lib.hid hr
  clear hr
  obtain ⟨i0', hi, hz0, hz1, hz2⟩ := E_str.info
  go_enter Tryz.func36, Tryz.ntmps36
  go_wp2
  go_loopw [3, 4] (fun s i wr => ∃ k : Nat, k ≤ l.length ∧ i = .int .i64 k ∧ ∃ (bk : Nat) (Ak : Option Addr) (ck : Nat), s = .slice Ak (2 * k) ck ∧ Hid (Ow wr bk 9 1 Ak (2 * k) ck (cT (strsOf (l.take k)))) ∧ w.heap.size ≤ bk ∧ Hid (Nw w wr)) (fun _ i _ => l.length - (intOf i).toNat)
  case atStart => exact ⟨0, by omega, rfl, w.heap.size, none, 0, rfl, Lib.hid (Ow.nil _ _ _ _), Nat.le_refl _, Lib.hid (Nw.refl _)⟩
  case round =>
    obtain ⟨k, hk, rfl, bk, Ak, ck, rfl, HO, hbk, HN⟩ := hrel
    have hsr := HN.out.size
    by_cases hlt : k < l.length
    · have hltI : (k : Int) < (l.length : Int) := by omega
      obtain ⟨o, rfl, hbw, hc0, hc1⟩ := two_at (HR.out.nw HN.out) hlt
      have HT := Lib.hid (show strsOf (l.take (k + 1)) = strsOf (l.take k) ++ [l[k].1, l[k].2] from by unfold strsOf; rw [List.take_succ_eq_append_getElem hlt, List.flatMap_append]; rfl)
      generalize l[k] = x at *
      have HOW := Lib.hid fun W (hN : Nw wr W) => (HO.out.nw hN).row
      have HOWB : Hid (∀ j, (Value.slice Ak (2 * k) ck).ownBlock = some j → j = bk) := Lib.hid (by
        rcases HO.out with ⟨rfl, _⟩ | ⟨rfl, _, _⟩
        · simp [Value.ownBlock]
        · simp [Value.ownBlock])
      have hbr : b < wr.heap.size := hbw
      have hb0 : b < w.heap.size := by
        rcases hbl with rfl | h
        · simp at hlt
        · exact h
      have HW5 : Hid (∀ W5, (wr.drew.alloc (.cells #[.string x.1, .string x.2] 9)).grownBy W5 (Value.slice Ak (2 * k) ck).ownBlock → (W5.cell? ⟨b, o + k * 2, none⟩ = some (.string x.1) ∧ W5.cell? ⟨b, o + k * 2 + 1, none⟩ = some (.string x.2))) := by
        refine Lib.hid fun W5 hg => ?_
        have hN4 : Nw wr (wr.drew.alloc (.cells #[.string x.1, .string x.2] 9)) := (Nw.drewO wr).alloc' _
        have h8 := (hg.block b (Nat.lt_of_lt_of_le hbr hN4.size) (fun e => by have := HOWB.out b e.symm; omega)).trans (hN4.block b hbr)
        exact ⟨(World.cell?_of_block h8).trans hc0, (World.cell?_of_block h8).trans hc1⟩
      go_wp2_with fail
      go_region_held3 (fun w' => w'.cell? ⟨b, o + k * 2, none⟩ = some (.string x.1) ∧ w'.cell? ⟨b, o + k * 2 + 1, none⟩ = some (.string x.2))
        (first | exact ⟨hc0, hc1⟩ | exact ⟨hp0, hp1⟩ | exact ⟨cell_past hbw hc0, cell_past hbw hc1⟩ | (constructor <;> simp [*]))
        (first
          | (refine step_append_lies _ rfl (.tmp 11) (.tmp 22) 48 rfl 0 9 i0' (.string .empty) 1 16 Tryz.underlying48 hi hz0 hz1 hz2 rfl (by omega) _ (2 * k) (cT (strsOf (l.take k))) rfl (HOW.out _ (Nw.alloc' (Nw.drewO _) _)) ⟨_, 0, none⟩ 2 2 [.string x.1, .string x.2] rfl rfl (World.news_of_block (heap_alloc_new _ _)) (by intro u hu; simp at hu; rcases hu with rfl | rfl <;> rfl) (by omega) (by simp only [maxLen]; omega) (by omega) (Nat.zero_le _) _ rfl ?_; intro g5 cap5 w5 q1 q2 q3 q4; obtain ⟨hp0, hp1⟩ := HW5.out w5 q2))
      have hkA : Kp bk bk wr w5 := by
        have h1 : Kp bk bk wr (wr.drew.alloc (.cells #[.string x.1, .string x.2] 9)) := ((Nw.drewO wr).alloc' _).kp _ _
        exact h1.grown q2 (fun j e => .inl (HOWB.out j e))
      have hg5 : w.heap.size ≤ g5 := by
        rcases q3 with h | h
        · have := HOWB.out g5 h
          omega
        · have h2 : g5 = wr.heap.size + 1 := by simpa using h
          omega
      have HO5 : Hid (Ow w5 g5 9 1 (some ⟨g5, 0, none⟩) (2 * (k + 1)) cap5 (cT (strsOf (l.take (k + 1))))) := Lib.hid (by
        rw [HT.out]
        unfold cT
        rw [List.map_append]
        exact .inr ⟨rfl, q4, q1⟩)
      have HN5' := Lib.hid (Kp.nw HN.out hkA hbk hbk)
      clear hkA q1 q2 q3 q4 hp0 hp1 hc0 hc1
      go_wp2
      go_roundw
      case rel => exact ⟨k + 1, by omega, by go_num, g5, _, cap5, rfl, HO5, hg5, HN5'⟩
      case measure => simp [intOf]; omega
    · obtain rfl : k = l.length := by omega
      go_wp2
      go_ret
      have h := HO.out
      rw [List.take_length] at h
      exact ⟨bk, Ak, ck, rfl, h, hbk, HN.out⟩

/-- labels that are few and short -/
def FewL (l : List Lab) : Prop := l.length ≤ 200 ∧ ∀ x ∈ l, x.1.size ≤ 200000 ∧ x.2.size ≤ 200000
theorem few_strs {l : List Lab} (h : FewT (strsOf l)) (hl : l.length ≤ 200) : FewL l := by
  refine ⟨hl, fun x hx => ⟨h.2 _ ?_, h.2 _ ?_⟩⟩
  · exact List.mem_flatMap.2 ⟨x, hx, by simp⟩
  · exact List.mem_flatMap.2 ⟨x, hx, by simp⟩
theorem Large11_any (w : World) (b : Nat) (A : Option Addr) (n c : Nat) (l : List Lab) (hn : n = l.length) (hr : Rd w b A (cL l)) :
    Calls Tryz.prog 15 #[.slice A n c] w fun e w' => ∃ v : Nat, e = .returned (.int .i64 (v : Int)) ∧ (v = 1 ∨ (v = 0 ∧ FewL l)) ∧ Nw w w' := by
  by_cases h : 200 < n
  · have hI : (200 : Int) < (n : Int) := by omega
    clear hr hn
    go_enter Tryz.func15, Tryz.ntmps15
    go_wp2
    go_ret
    exact ⟨1, rfl, .inl rfl, Nw.refl _⟩
  · have hI : ¬ (200 : Int) < (n : Int) := by omega
    have HS := Lib.hid (RStrings_any w b A n c l hn (by omega) hr)
    have HF := Lib.hid fun h => few_strs (l := l) h (by omega)
    have HL := Lib.hid (show 2 * n = (strsOf l).length from by rw [strsOf_length, hn])
    clear hr hn
    go_enter Tryz.func15, Tryz.ntmps15
    go_wp2_with (first
      | (go_at_call 35; refine (Large10_any w1 b1 A1 (2 * n) c1 _ HL.out HO.out.rd).mono ?_; rintro e w2 ⟨v, rfl, hv, rfl⟩)
      | (go_at_call 36; refine HS.out.mono ?_; rintro e w1 ⟨b1, A1, c1, rfl, hO, hb, hN⟩; have HO := Lib.hid hO; clear hO))
    go_ret
    exact ⟨v, rfl, by rcases hv with h | ⟨h, h'⟩; exact .inl h; exact .inr ⟨h, HF.out h'⟩, hN⟩

def labsOf (l : List Ser) : List Lab := l.flatMap (·.labs)
/-- series that are tested -/
def Fits (l : List Ser) : Prop := l.length ≤ 300 ∧ smpSum l ≤ 3000 ∧ FewL (labsOf l)
set_option maxRecDepth 100000 in
set_option maxHeartbeats 1600000 in
theorem Large_any (w : World) (b : Nat) (A : Option Addr) (n c : Nat) (l : List Ser) (hI : InSer w b A n c l) :
    Calls Tryz.prog 5 #[.slice A n c] w fun e w' => ∃ v : Nat, e = .returned (.int .i64 (v : Int)) ∧ (v = 1 ∨ (v = 0 ∧ Fits l)) ∧ Nw w w' := by
  have hl := hI.len
  subst hl
  have HR := Lib.hid hI.rd
  have HOK := Lib.hid hI.ok
  clear hI
  go_enter Tryz.func5, Tryz.ntmps5
  go_wp2
  go_loopw [3, 4, 9] (fun v s i wr => ∃ k : Nat, k ≤ l.length ∧ i = .int .i64 k ∧ ∃ (N M bk : Nat) (Ak : Option Addr) (ck : Nat), v = .int .i64 N ∧ N ≤ 3000 ∧ smpSum (l.take k) ≤ N ∧ s = .slice Ak M ck ∧ M ≤ 60000 ∧ Hid (M ≤ 200 * k) ∧ Hid (M = (labsOf (l.take k)).length) ∧
    Hid (Ow wr bk 47 2 Ak M ck (cL (labsOf (l.take k)))) ∧ w.heap.size ≤ bk ∧ Hid (Nw w wr) ∧ Hid (0 < k → l.length ≤ 300)) (fun _ _ i _ => l.length - (intOf i).toNat)
  case atStart => exact ⟨0, by omega, rfl, 0, 0, w.heap.size, none, 0, rfl, by omega, by simp [smpSum], rfl, by omega, Lib.hid (by omega), Lib.hid rfl, Lib.hid (Ow.nil _ _ _ _), Nat.le_refl _, Lib.hid (Nw.refl _), Lib.hid (by omega)⟩
  case round =>
    obtain ⟨k, hk, rfl, N, M, bk, Ak, ck, rfl, hN, hNs, rfl, hM, HM1, HM2, HO, hbk, HN, HL3⟩ := hrel
    by_cases hlt : k < l.length
    · have hltI : (k : Int) < (l.length : Int) := by omega
      obtain ⟨o, rfl, _, hc0, hc1⟩ := two_at (HR.out.nw HN.out) hlt
      have HNX := Lib.hid (smpSum_snoc hlt)
      have HLB := Lib.hid (show labsOf (l.take (k + 1)) = labsOf (l.take k) ++ l[k].labs from by unfold labsOf; rw [List.take_succ_eq_append_getElem hlt, List.flatMap_append]; simp)
      have HSO := Lib.hid (HOK.out l[k] (List.getElem_mem hlt))
      have hsn := HNX.out
      clear HR
      generalize l[k] = s at *
      by_cases h3 : s.smps.length ≤ 3000
      · have h3I : ((s.smps.length : Nat) : Int) ≤ 3000 := by omega
        by_cases h2 : 3000 < N + (1 + s.smps.length)
        · have h2I : (3000 : Int) < (N : Int) + (1 + (s.smps.length : Int)) := by omega
          go_wp2
          go_ret
          exact ⟨1, rfl, .inl rfl, HN.out.alloc' _⟩
        · have h2I : ¬ (3000 : Int) < (N : Int) + (1 + (s.smps.length : Int)) := by omega
          by_cases h5 : 300 < l.length
          · have h5I : (300 : Int) < (l.length : Int) := by omega
            go_wp2
            go_ret
            exact ⟨1, rfl, .inl rfl, HN.out.alloc' _⟩
          · have h5I : ¬ (300 : Int) < (l.length : Int) := by omega
            by_cases h6 : 200 < s.labs.length
            · have h6I : (200 : Int) < (s.labs.length : Int) := by omega
              go_wp2
              go_ret
              exact ⟨1, rfl, .inl rfl, HN.out.alloc' _⟩
            · have h6I : ¬ (200 : Int) < (s.labs.length : Int) := by omega
              have hMM := HM1.out
              have hNA : Nw w (wr.alloc (.cells #[.slice s.al s.labs.length s.cl, .slice s.as_ s.smps.length s.cs] 37)) := HN.out.alloc' _
              have HOA := Lib.hid (HO.out.nw ((Nw.refl wr).alloc' (.cells #[.slice s.al s.labs.length s.cl, .slice s.as_ s.smps.length s.cs] 37)))
              have HRA := Lib.hid (HSO.out.1.rd.nw hNA)
              have HNA := Lib.hid hNA
              clear hNA
              go_wp2_with (at_builtin; refine wpList_app E_lab rfl (.tmp 33) (.tmp 35) rfl rfl HOA.out rfl HRA.out (by rw [show (cL s.labs).length = 2 * s.labs.length from c2_length _]; omega) HSO.out.1.nil (oc_L _) (by simp only [maxLen]; omega) (by omega) ?_; intro b3 A3 c3 w3 q1 q2 q3 q4; have Q1 := Lib.hid q1; have Q3 := Lib.hid q3; clear q1 q3 q4)
              go_roundw
              case rel =>
                have hsA := HNA.out.size
                refine ⟨k + 1, by omega, by go_num, N + (1 + s.smps.length), M + s.labs.length, b3, A3, c3, by go_num, by omega, by omega, rfl, by omega, Lib.hid (by omega), Lib.hid ?_, Lib.hid ?_, by omega, Lib.hid (Kp.nw HNA.out Q3.out hbk hbk), Lib.hid fun _ => by omega⟩
                · rw [HLB.out, List.length_append, HM2.out]
                · have h := Q1.out
                  rw [HLB.out]
                  unfold cL at h ⊢
                  rw [c2_append]
                  exact h
              case measure => simp [intOf]; omega
      · have h3I : (3000 : Int) < ((s.smps.length : Nat) : Int) := by omega
        have hmin : min ((s.smps.length : Nat) : Int) 3000 = 3000 := by omega
        have h2I : (3000 : Int) < (N : Int) + 3001 := by omega
        go_wp2
        go_ret
        exact ⟨1, rfl, .inl rfl, HN.out.alloc' _⟩
    · obtain rfl : k = l.length := by omega
      have HLL := Lib.hid (Large11_any wr bk Ak M ck _ HM2.out HO.out.rd)
      rw [List.take_length] at hNs
      go_wp2_with (go_at_call 15; refine HLL.out.mono ?_; rintro e w2 ⟨v, rfl, hv, hN2⟩)
      go_ret
      rw [List.take_length] at hv
      refine ⟨v, rfl, ?_, HN.out.trans hN2⟩
      rcases hv with h | ⟨h, h'⟩
      · exact .inl h
      · refine .inr ⟨h, ?_, by omega, h'⟩
        have := HL3.out
        omega
end Go.Proofs.YtoogadidbbpplaaGreat
