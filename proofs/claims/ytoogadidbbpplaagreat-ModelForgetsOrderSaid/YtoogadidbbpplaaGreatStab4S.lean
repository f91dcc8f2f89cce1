/- slices.stableCmpFunc's family at samples: merges and the whole sort. (Printed by genstab.py.) -/
import Derived.Test.YtoogadidbbpplaaGreatStab1S
import Derived.Test.YtoogadidbbpplaaGreatStab2S
import Derived.Test.YtoogadidbbpplaaGreatStab3S
import Derived.Test.YtoogadidbbpplaaGreatShelfM
namespace Go.Proofs.YtoogadidbbpplaaGreat
open Go Go.RowKit Go.Sort Go.Shelf
section
variable {α : Type} [Inhabited α] {f h : α → Value} {w0 : World} {blk : Nat} {d0 : Array α}

set_option maxHeartbeats 8000000 in
set_option maxRecDepth 1000000 in
/-- a merge of two sorted runs -/
theorem symMergeS_any (cf : α → α → Int) (hO : SWO (ltOf cf)) (hcmp : CmpLays Tryz.prog 23 #[] (enc2 f h) 2 cf blk 0 d0.size w0) (eg : ∀ args w, (callFunc 23 args).run Tryz.prog w = .ok (.enter 23 args) w) (R : RowK (enc2 f h) 2 w0 blk 0 d0) (N : Nat) (hN : d0.size = N) (hM : N ≤ 1000000000000) (cap : Nat) : ∀ (K a m b : Nat) (d : Array α) (w : World), b - a ≤ K → d.size = N → SWK (enc2 f h) 2 w0 blk 0 d w → a < m → m < b → b ≤ N → SortedIn (ltOf cf) a m d → SortedIn (ltOf cf) m b d →
    Calls Tryz.prog 67 #[.slice (some ⟨blk, 0, none⟩) N cap, .int .i64 (a : Int), .int .i64 (m : Int), .int .i64 (b : Int), .func (.func 23) #[] #[]] w fun e w' => e = .returned (.tuple #[]) ∧ ∃ d', (PermIn a b d d' ∧ SortedIn (ltOf cf) a b d') ∧ SWK (enc2 f h) 2 w0 blk 0 d' w' := by
  intro K
  induction K with
  | zero => intro a m b d w h1 _ _ h2 h3; exfalso; omega
  | succ K ih =>
    intro a m b d w hK hs S ham hmb hb hU hV
    by_cases hA1 : m ≤ a + 1
    · exact symMergeAS_any cf hO hcmp eg R N hN hM cap a m b d w hs S ham hmb hb hU hV hA1
    · by_cases hB1 : b ≤ m + 1
      · exact symMergeBS_any cf hO hcmp eg R N hN hM cap a m b d w hs S ham hmb hb hU hV hA1 hB1
      · by_cases hbig : (a + b) / 2 < m
        · exact symMergeCS_any cf hO hcmp eg R N hN hM cap K ih a m b d w hs S ham hmb hb hU hV hA1 hB1 ((a + b) / 2) (by omega) (by omega) hK hbig
        · exact symMergeDS_any cf hO hcmp eg R N hN hM cap K ih a m b d w hs S ham hmb hb hU hV hA1 hB1 ((a + b) / 2) (by omega) (by omega) hK hbig

set_option maxHeartbeats 8000000 in
set_option maxRecDepth 1000000 in
/-- the sort by blocks and merges -/
theorem stableGS_any (tyE : ∀ w, (isAgg 41).run Tryz.prog w = .ok true w) (szE : ∀ w, (Go.sizeOf 41).run Tryz.prog w = .ok 2 w) (cf : α → α → Int) (hO : SWO (ltOf cf)) (hcmp : CmpLays Tryz.prog 23 #[] (enc2 f h) 2 cf blk 0 d0.size w0) (eg : ∀ args w, (callFunc 23 args).run Tryz.prog w = .ok (.enter 23 args) w) (R : RowK (enc2 f h) 2 w0 blk 0 d0) (N : Nat) (hN : d0.size = N) (hM : N ≤ 1000000000000) (cap : Nat) (d : Array α) (w : World) (hs : d.size = N) (S : SWK (enc2 f h) 2 w0 blk 0 d w) :
    Calls Tryz.prog 49 #[.slice (some ⟨blk, 0, none⟩) N cap, .int .i64 (N : Int), .func (.func 23) #[] #[]] w fun e w' => e = .returned (.tuple #[]) ∧ ∃ d', PermIn 0 N d d' ∧ SortedIn (ltOf cf) 0 N d' ∧ SWK (enc2 f h) 2 w0 blk 0 d' w' := by
  have S0 : Aside (SWK (enc2 f h) 2 w0 blk 0 d w) := S
  have HIns := Lib.hid fun (a b : Nat) (dk : Array α) (wr : World) (hz : dk.size = N) (S : SWK (enc2 f h) 2 w0 blk 0 dk wr) (hab : a ≤ b) (hb : b ≤ N) =>
    (show Calls Tryz.prog 66 #[.slice (some ⟨blk, 0, none⟩) N cap, .int .i64 (a : Int), .int .i64 (b : Int), .func (.func 23) #[] #[]] wr fun e w' => e = .returned (.tuple #[]) ∧ ∃ d', (PermIn a b dk d' ∧ SortedIn (ltOf cf) a b d') ∧ SWK (enc2 f h) 2 w0 blk 0 d' w' from by
      have hcon := AnyQ.insertionSortCmpFunc_w Tryz.insSmp 2 tyE szE (enc2 f h) cf 23 #[] blk 0 cap a b d0 dk w0 wr eg hcmp R (by omega) S hO hab (by omega) (by omega)
      rw [hz] at hcon
      change Calls Tryz.prog 66 _ _ _ at hcon
      refine hcon.mono ?_
      rintro e w' ⟨rfl, h1⟩
      exact ⟨rfl, _, insertionSort_holds hO dk a b hab (by omega), h1⟩)
  have HMer := Lib.hid (symMergeS_any cf hO hcmp eg R N hN hM cap)
  clear S hcmp hO eg tyE szE hN
  have HS := Lib.hid hs
  clear hs
  go_enter Tryz.func49, Tryz.ntmps49
  go_wp2
  go_loopw [7, 8] (fun s7 s8 wr => ∃ (T a : Nat) (dk : Array α), s7 = .int .i64 a ∧ s8 = .int .i64 ((a : Int) + 20) ∧ a ≤ N ∧ Hid (a = T * 20) ∧ Aside (SWK (enc2 f h) 2 w0 blk 0 dk wr) ∧ Hid (PermIn 0 N d dk) ∧ Hid (Upto (ltOf cf) 20 T dk)) (fun s7 _ _ => N - (intOf s7).toNat)
  case atStart => exact ⟨0, 0, d, rfl, rfl, Nat.zero_le _, Lib.hid (by omega), S0, Lib.hid (permIn_refl _ _ _), Lib.hid (Upto.zero _ _)⟩
  case round =>
    clear S0
    obtain ⟨T, a, dk, rfl, rfl, haN, HT, S1, HP, HU⟩ := hrel
    have hz : dk.size = N := HP.out.1.trans HS.out
    by_cases hle : a + 20 ≤ N
    · have hlez : (a : Int) + 20 ≤ (N : Int) := by omega
      have k1 : IntKind.i64.wrap ((a : Int) + 20 + 20) = (a : Int) + 20 + 20 := by rw [IntKind.wrap_i64]; omega
      have hi := HIns.out a (a + 20) dk wr hz S1.out (by omega) hle
      rw [show ((a + 20 : Nat) : Int) = (a : Int) + 20 by omega] at hi
      go_wp2_with (go_at_call 66; refine hi.mono ?_; rintro e w2 ⟨rfl, d2, ⟨p2, s2⟩, S2⟩)
      go_roundw
      case rel => exact ⟨T + 1, a + 20, d2, by go_num, by go_num, hle, Lib.hid (by have := HT.out; omega), S2, Lib.hid (permIn_trans _ _ _ _ _ HP.out (permIn_mono _ _ _ _ _ _ (Nat.zero_le _) hle (by have := HS.out; omega) p2)), Lib.hid (HU.out.step HT.out rfl p2 s2)⟩
      case measure => simp [intOf]; omega
    · have hlez : ¬ (a : Int) + 20 ≤ (N : Int) := by omega
      have hi := HIns.out a N dk wr hz S1.out haN (Nat.le_refl _)
      clear HIns
      go_wp2_with (go_at_call 66; refine hi.mono ?_; rintro e w2 ⟨rfl, d2, ⟨p2, s2⟩, S2⟩)
      have HB2 : Hid (Blk (ltOf cf) 20 0 N d2) := Lib.hid (HU.out.blk HT.out (by omega) p2 s2)
      have HP2 := Lib.hid (permIn_trans _ _ _ _ _ HP.out (permIn_mono _ _ _ _ _ _ (Nat.zero_le _) (Nat.le_refl _) (by have := HS.out; omega) p2))
      have S2' : Aside (SWK (enc2 f h) 2 w0 blk 0 d2 w2) := S2
      clear S2 p2 s2 HP HU HT S1 hi hz hle hlez haN
      rename World => w1
      go_loopw [6, 7, 8] (fun s6 _ _ wr => ∃ (bs : Nat) (dk : Array α), s6 = .int .i64 bs ∧ 20 ≤ bs ∧ bs ≤ 2 * N + 20 ∧ Aside (SWK (enc2 f h) 2 w0 blk 0 dk wr) ∧ Hid (PermIn 0 N d dk) ∧ Hid (Blk (ltOf cf) bs 0 N dk)) (fun s6 _ _ _ => N - (intOf s6).toNat)
      case atStart => exact ⟨20, d2, rfl, Nat.le_refl _, by omega, S2', HP2, HB2⟩
      case round =>
        clear S2' HP2 HB2
        obtain ⟨bs, dk, rfl, hbs, hbsN, S1, HP, HB⟩ := hrel
        by_cases hlt : bs < N
        · have hltz : (bs : Int) < (N : Int) := by omega
          have k1 : IntKind.i64.wrap (2 * (bs : Int)) = 2 * (bs : Int) := by rw [IntKind.wrap_i64]; omega
          have k1' : IntKind.i64.wrap ((bs : Int) * 2) = (bs : Int) * 2 := by rw [IntKind.wrap_i64]; omega
          go_wp2
          rename World => wo
          go_loopw [7, 8] (fun s7 s8 wr => ∃ (T a : Nat) (dk : Array α), s7 = .int .i64 a ∧ s8 = .int .i64 ((a : Int) + 2 * (bs : Int)) ∧ a ≤ N ∧ Hid (a = T * (2 * bs)) ∧ Aside (SWK (enc2 f h) 2 w0 blk 0 dk wr) ∧ Hid (PermIn 0 N d dk) ∧ Hid (Upto (ltOf cf) (2 * bs) T dk) ∧ Hid (Blk (ltOf cf) bs (2 * T) N dk)) (fun s7 _ _ => N - (intOf s7).toNat)
          case atStart => exact ⟨0, 0, dk, rfl, by simp, Nat.zero_le _, Lib.hid (by omega), S1, HP, Lib.hid (Upto.zero _ _), HB⟩
          case round =>
            clear S1 HP HB
            obtain ⟨T, a, dk, rfl, rfl, haN, HT, S1, HP, HU, HB⟩ := hrel
            have hz : dk.size = N := HP.out.1.trans HS.out
            have k2 : IntKind.i64.wrap ((a : Int) + (bs : Int)) = (a : Int) + (bs : Int) := by rw [IntKind.wrap_i64]; omega
            by_cases hle : a + 2 * bs ≤ N
            · have hlez : (a : Int) + 2 * (bs : Int) ≤ (N : Int) := by omega
              have k3 : IntKind.i64.wrap ((a : Int) + 2 * (bs : Int) + 2 * (bs : Int)) = (a : Int) + 2 * (bs : Int) + 2 * (bs : Int) := by rw [IntKind.wrap_i64]; omega
              have h1 := HB.out.one HT.out
              have h2 := HB.out.two HT.out
              rw [Nat.min_eq_left (by omega)] at h1 h2
              have hi := HMer.out _ a (a + bs) (a + 2 * bs) dk wr (Nat.le_refl _) hz S1.out (by omega) (by omega) hle h1 h2
              rw [show ((a + bs : Nat) : Int) = (a : Int) + (bs : Int) by omega, show ((a + 2 * bs : Nat) : Int) = (a : Int) + 2 * (bs : Int) by omega] at hi
              clear h1 h2
              go_wp2_with (go_at_call 67; refine hi.mono ?_; rintro e w2 ⟨rfl, d2, ⟨p2, s2⟩, S2⟩)
              go_roundw
              case rel =>
                refine ⟨T + 1, a + 2 * bs, d2, by first | go_num | (congr 1; omega), by first | go_num | (congr 1; omega), hle, Lib.hid ?_, S2, Lib.hid (permIn_trans _ _ _ _ _ HP.out (permIn_mono _ _ _ _ _ _ (Nat.zero_le _) hle (by have := HS.out; omega) p2)), Lib.hid (HU.out.step HT.out rfl p2 s2), Lib.hid (HB.out.step HT.out p2)⟩
                rw [Nat.add_mul, Nat.one_mul, ← HT.out]
              case measure => simp [intOf]; omega
            · have hlez : ¬ (a : Int) + 2 * (bs : Int) ≤ (N : Int) := by omega
              by_cases hm : a + bs < N
              · have hmz : (a : Int) + (bs : Int) < (N : Int) := by omega
                have h1 := HB.out.one HT.out
                have h2 := HB.out.two HT.out
                rw [Nat.min_eq_left (by omega)] at h1
                rw [Nat.min_eq_right (by omega)] at h2
                have hi := HMer.out _ a (a + bs) N dk wr (Nat.le_refl _) hz S1.out (by omega) hm (Nat.le_refl _) h1 h2
                rw [show ((a + bs : Nat) : Int) = (a : Int) + (bs : Int) by omega] at hi
                clear h1 h2
                go_wp2_with (go_at_call 67; refine hi.mono ?_; rintro e w2 ⟨rfl, d2, ⟨p2, s2⟩, S2⟩)
                go_roundw
                case rel => exact ⟨2 * bs, d2, by first | go_num | (congr 1; omega), by omega, by omega, S2, Lib.hid (permIn_trans _ _ _ _ _ HP.out (permIn_mono _ _ _ _ _ _ (Nat.zero_le _) (Nat.le_refl _) (by have := HS.out; omega) p2)), Lib.hid (HU.out.blk HT.out (by omega) p2 s2)⟩
                case measure => simp [intOf]; omega
              · have hmz : ¬ (a : Int) + (bs : Int) < (N : Int) := by omega
                have h1 := HB.out.one HT.out
                rw [Nat.min_eq_right (by omega)] at h1
                have H1 := Lib.hid h1
                clear h1
                go_wp2
                go_roundw
                case rel => exact ⟨2 * bs, dk, by first | go_num | (congr 1; omega), by omega, by omega, S1, HP, Lib.hid (HU.out.blk HT.out (by omega) (permIn_refl _ _ _) H1.out)⟩
                case measure => simp [intOf]; omega
        · have hltz : ¬ (bs : Int) < (N : Int) := by omega
          go_wp2
          go_end0
          exact ⟨rfl, dk, HP.out, HB.out.all (by omega), S1.out⟩
end
end Go.Proofs.YtoogadidbbpplaaGreat
