/- xorval's Get. -/
import Derived.Test.YtjepaneniodbpaaGreatDoorDecGet
namespace Go.Proofs.YtjepaneniodbpaaGreatDoor
open Go Go.RowKit Go.Sort

def glue {α β : Type} (l : List α) (X : Except Nat (List α × β)) : Except Nat (List α × β) :=
  match X with
  | .error e => .error e
  | .ok (l2, r) => .ok (l ++ l2, r)
theorem xgetF_glue (l : List Nat) (last : Nat) (win : Win) (m : Nat) (r : List Bool) : glue l (xgetF last win (m + 1) r) =
    match xget1 last win r with
    | .error e => .error e
    | .ok (v, win', r') => glue (l ++ [v]) (xgetF v win' m r') := by
  conv => lhs; rw [xgetF]
  cases xget1 last win r with
  | error e => rfl
  | ok x =>
    obtain ⟨v, win', r'⟩ := x
    simp only
    cases xgetF v win' m r' with
    | error e => rfl
    | ok y =>
      obtain ⟨l2, r2⟩ := y
      simp [glue]
theorem xbody_err {last a b e : Nat} {win : Win} {fresh : Bool} {r : List Bool} (h : xbody last win fresh a b r = .error e) : e ≠ 0 := by
  unfold xbody at h
  split at h
  · cases h; omega
  · split at h
    · cases h; omega
    · split at h
      · cases h; omega
      · cases h
theorem xget1_err {last e : Nat} {win : Win} {r : List Bool} (h : xget1 last win r = .error e) : e ≠ 0 := by
  match r, h with
  | [], h => cases h; omega
  | false :: r, h => cases h
  | [true], h => cases h; omega
  | true :: false :: r, h =>
    cases win with
    | none => cases h; omega
    | some ab => exact xbody_err h
  | true :: true :: r, h =>
    simp only [xget1] at h
    split at h
    · cases h; omega
    · split at h
      · cases h; omega
      · exact xbody_err h

theorem dget_any (w : World) (g last gr b : Nat) (win : Win) (bytes : List Nat) (r : List Bool) (h : DecS w g last win 0 gr b bytes r) (hG : Gl w) (hw : WinOk win) (hl : last < 18446744073709551616) (hg2 : 2 ≤ g) (hgr2 : 2 ≤ gr) :
    Calls Tryz.prog 71 #[.pointer (some ⟨g, 0, none⟩)] w (DGot w g gr b bytes (xget1 last win r)) := by
  match r, h with
  | [], h => exact dget_zero w g last gr b win bytes [] h (fun _ h => by cases h)
  | false :: r, h => exact dget_zero w g last gr b win bytes (false :: r) h (fun _ h => by cases h)
  | true :: r, h => exact dget_true w g last gr b win bytes r h hG hw hl hg2 hgr2

/-- what Get says of the reader gr: P says that the slice's cells hold a list -/
def XGot (w : World) (gr b : Nat) (bytes : List Nat) (X : Except Nat (List Nat × List Bool)) (e : Ending) (w' : World) : Prop :=
  (match X with
   | .ok (l, r) => (∃ b' A c, e = .returned (.tuple #[.slice A l.length c, .int .i64 0]) ∧ Ow w' b' 25 1 A l.length c (cN .u64 l) ∧ w.heap.size ≤ b') ∧ ∃ pos, Rdr w' gr b bytes pos ∧ rest bytes pos = r
   | .error k => e = .returned (.tuple #[.slice none 0 0, .int .i64 (k : Int)]) ∧ k ≠ 0) ∧ Kp gr gr w w'

set_option maxRecDepth 100000 in
theorem xGet_any (w : World) (gr b : Nat) (bytes : List Nat) (pos n : Nat) (h : Rdr w gr b bytes pos) (hb : b < w.heap.size) (hG : Gl w) (hgr2 : 2 ≤ gr) (h1 : 1 ≤ n) (hn : n ≤ 10000) :
    Calls Tryz.prog 40 #[.pointer (some ⟨gr, 0, none⟩), .int .i64 (n : Int)] w (XGot w gr b bytes (xget n (rest bytes pos))) := by
  have hs := hG.lt
  have hgl := h.lt
  have hnil : ∀ W, (binOp .eql 67 (.pointer (some ⟨gr, 0, none⟩)) (.pointer none)).run Tryz.prog W = .ok (.bool false) W := fun _ => by kernel_rfl
  have hw1 : Nw w (w.alloc (.cells #[.int .u64 0, .int .i64 0, .int .i64 0, .pointer (some ⟨gr, 0, none⟩), .int .i64 0] 124)) := (Nw.refl w).alloc' _
  have HS0 : Hid (DecS (w.alloc (.cells #[.int .u64 0, .int .i64 0, .int .i64 0, .pointer (some ⟨gr, 0, none⟩), .int .i64 0] 124)) w.heap.size 0 none 0 gr b bytes (rest bytes pos)) :=
    Lib.hid ⟨⟨0, 0, rfl, heap_alloc_new w _⟩, ⟨pos, h.nw hw1, rfl⟩, by omega, by omega⟩
  have n0 : ((n : Int) == 0) = false := by rw [beq_eq_false_iff_ne]; omega
  have HG := Lib.hid hG
  clear h hG hw1
  generalize rest bytes pos = R at *
  obtain ⟨v0, e0, r0, hv⟩ : ∃ v e r, dbits 0 R 64 = (v, e, r) := ⟨_, _, _, rfl⟩
  have HB := Lib.hid (dbits_any _ w.heap.size 0 0 gr b none bytes R 64 HS0.out (by omega))
  rw [hv] at HB
  have hv0 := dbits_lt 0 R 64
  rw [hv, pow64] at hv0
  simp only at HB hv0
  have HV := Lib.hid hv
  clear hv
  go_enter Tryz.func40, Tryz.ntmps40
  go_wp2_with fail
  refine HB.out.mono ?_
  rintro e w1 ⟨rfl, hS1, hK1⟩
  obtain ⟨hc1, hf1⟩ := hS1.last
  obtain ⟨hS2, hK2⟩ := hS1.setLast v0
  have hKw : Kp gr gr w (w1.setCell ⟨w.heap.size, 0, none⟩ (.int .u64 (v0 : Int))) := by
    have h1 : Kp gr gr w w1 := ((Kp.refl gr gr w).alloc' _).trans hK1 (.inr (.inr (Nat.le_refl _))) (.inl rfl)
    exact h1.trans hK2 (.inr (.inr (Nat.le_refl _))) (.inr (.inr (Nat.le_refl _)))
  have HS2 := Lib.hid hS2
  have HKw := Lib.hid hKw
  clear hS1 hS2 hK1 hK2 hKw
  go_wp2
  have hO0 : Ow ((w1.setCell ⟨w.heap.size, 0, none⟩ (.int .u64 (v0 : Int))).alloc (.cells #[.int .u64 (v0 : Int)] 25)) w1.heap.size 25 1 (some ⟨w1.heap.size, 0, none⟩) 1 1 (cN .u64 [v0]) := by
    have h := Ow.lit (w1.setCell ⟨w.heap.size, 0, none⟩ (.int .u64 (v0 : Int))) 25 1 1 #[.int .u64 (v0 : Int)] rfl (by omega)
    simpa [World.setCell] using h
  have hS3 := HS2.out.nw ((Nw.refl _).alloc' (.cells #[.int .u64 (v0 : Int)] 25))
  have hK3 := HKw.out.alloc' (.cells #[.int .u64 (v0 : Int)] 25)
  have hsz1 : w.heap.size < w1.heap.size := by
    have := HS2.out.dec.lt
    simpa [World.setCell] using this
  have HO0 := Lib.hid hO0
  have HS3 := Lib.hid hS3
  have HK3 := Lib.hid hK3
  clear hO0 hS3 hK3 hc1 hf1 HS0 HB HS2 HKw
  go_loopw [7, 8] (fun s i wr => ∃ k : Nat, 1 ≤ k ∧ k ≤ n ∧ i = .int .i64 k ∧ ∃ (l : List Nat) (bk : Nat) (Ak : Option Addr) (ck last err : Nat) (win : Win) (r : List Bool), l.length = k ∧ s = .slice Ak k ck ∧ Ow wr bk 25 1 Ak k ck (cN .u64 l) ∧ w.heap.size < bk ∧
    DecS wr w.heap.size last win err gr b bytes r ∧ Kp gr gr w wr ∧ ((err = 0 ∧ last < 18446744073709551616 ∧ WinOk win ∧ xget n R = glue l (xgetF last win (n - k) r)) ∨ (err ≠ 0 ∧ xget n R = .error err))) (fun _ i _ => n - (intOf i).toNat)
  case atStart =>
    refine ⟨1, Nat.le_refl _, h1, rfl, [v0], w1.heap.size, _, 1, v0, e0, none, r0, rfl, rfl, HO0.out, hsz1, HS3.out, HK3.out, ?_⟩
    obtain ⟨m, rfl⟩ : ∃ m, n = m + 1 := ⟨n - 1, by omega⟩
    by_cases hlen : R.length < 64
    · right
      have h := HV.out
      rw [dbits_eof hlen] at h
      injection h with h1 h2
      injection h2 with h2 h3
      subst h2
      exact ⟨by omega, by simp only [xget]; rw [if_pos hlen]⟩
    · left
      have h := HV.out
      rw [dbits_ok (by omega)] at h
      injection h with h1 h2
      injection h2 with h2 h3
      subst h1 h2 h3
      refine ⟨rfl, hv0, trivial, ?_⟩
      simp only [xget]
      rw [if_neg hlen, Nat.add_sub_cancel]
      cases xgetF (bv (R.take 64)) none m (R.drop 64) with
      | error e => rfl
      | ok x => rfl
  case round =>
    obtain ⟨k, hk1, hk, rfl, l, bk, Ak, ck, last, err, win, r, hl, rfl, hO, hbk, hS, hK, hE⟩ := hrel
    have herr := hS.errc
    have hGr : Gl wr := HG.out.kp hK hgr2 hgr2
    rcases hE with ⟨rfl, hll, hwin, hX⟩ | ⟨he, hX⟩
    · by_cases hlt : k < n
      · have hkI : (k : Int) < (n : Int) := by omega
        have HD := Lib.hid (dget_any wr w.heap.size last gr b win bytes r hS hGr hwin hll hs hgr2)
        have HO := Lib.hid hO
        have HK := Lib.hid hK
        have hX' : xget n R = match xget1 last win r with
          | .error e => .error e
          | .ok (v, win', r') => glue (l ++ [v]) (xgetF v win' (n - (k + 1)) r') := by
          rw [hX, show n - k = (n - (k + 1)) + 1 from by omega, xgetF_glue]
        have HX := Lib.hid hX'
        have HXE := Lib.hid fun e (h : xget1 last win r = .error e) => xget1_err h
        have hwl := hS.blt
        have HXW : Hid (∀ v win' r', xget1 last win r = .ok (v, win', r') → v < 18446744073709551616 ∧ WinOk win') := Lib.hid fun v win' r' h => ⟨(xget1_inv hwin hll h).1, (xget1_inv hwin hll h).2.2.2⟩
        clear hX hX' hO hK hS hGr
        have hko := HO.out.cap
        go_wp2_with fail
        refine HD.out.mono ?_
        intro e w4 hD
        cases hX1 : xget1 last win r with
        | error ek =>
          rw [hX1] at hD
          obtain ⟨⟨⟨v, rfl⟩, last', win', r', hS4⟩, hK4⟩ := hD
          have hne := HXE.out _ hX1
          have hO4 := HO.out.kp hK4 (by omega) (by omega)
          have HX2 := Lib.hid (show xget n R = .error ek from by rw [HX.out, hX1])
          have HS4 := Lib.hid hS4
          have HK4 := Lib.hid hK4
          clear hS4 hK4 hX1
          go_wp2_with (at_builtin; refine wpList_app1 E_u64 rfl (.tmp 45) (.tmp 48) rfl rfl hO4 rfl rfl (by omega) (by omega) ?_; intro b1 A1 c1 w5 g1 g2 g3 g4)
          go_roundw
          case rel =>
            have hs4 := HK4.out.size
            have hsr := HK.out.size
            refine ⟨k + 1, by omega, by omega, by go_num, l ++ [v], b1, A1, c1, last', ek, win', r', by simp [hl], rfl, by simpa using g1, by rcases g2 with rfl | g2 <;> omega, HS4.out.off g3 (by omega) (by omega) (by omega) (by omega) (by right; omega), ?_, .inr ⟨hne, HX2.out⟩⟩
            exact (HK.out.trans HK4.out (.inr (.inr (Nat.le_refl _))) (.inl rfl)).trans g3 (.inr (.inr (by omega))) (.inr (.inr (by omega)))
          case measure => simp [intOf]; omega
        | ok x =>
          obtain ⟨v, win', r'⟩ := x
          rw [hX1] at hD
          obtain ⟨⟨rfl, hS4⟩, hK4⟩ := hD
          obtain ⟨hv, hw'⟩ := HXW.out _ _ _ hX1
          have hO4 := HO.out.kp hK4 (by omega) (by omega)
          have HX2 := Lib.hid (show xget n R = glue (l ++ [v]) (xgetF v win' (n - (k + 1)) r') from by rw [HX.out, hX1])
          have HS4 := Lib.hid hS4
          have HK4 := Lib.hid hK4
          clear hS4 hK4 hX1
          go_wp2_with (at_builtin; refine wpList_app1 E_u64 rfl (.tmp 45) (.tmp 48) rfl rfl hO4 rfl rfl (by omega) (by omega) ?_; intro b1 A1 c1 w5 g1 g2 g3 g4)
          go_roundw
          case rel =>
            have hs4 := HK4.out.size
            have hsr := HK.out.size
            refine ⟨k + 1, by omega, by omega, by go_num, l ++ [v], b1, A1, c1, v, 0, win', r', by simp [hl], rfl, by simpa using g1, by rcases g2 with rfl | g2 <;> omega, HS4.out.off g3 (by omega) (by omega) (by omega) (by omega) (by right; omega), ?_, .inl ⟨rfl, hv, hw', HX2.out⟩⟩
            exact (HK.out.trans HK4.out (.inr (.inr (Nat.le_refl _))) (.inl rfl)).trans g3 (.inr (.inr (by omega))) (.inr (.inr (by omega)))
          case measure => simp [intOf]; omega
      · obtain rfl : k = n := by omega
        have HX2 := Lib.hid (show xget k R = .ok (l, r) from by rw [hX, Nat.sub_self]; simp [xgetF, glue])
        have HS := Lib.hid hS
        have HO := Lib.hid hO
        have HK := Lib.hid hK
        clear hX hS hO hK hGr
        subst hl
        go_wp2
        go_ret2
        rw [HX2.out]
        exact ⟨⟨⟨bk, Ak, ck, rfl, HO.out, by omega⟩, HS.out.rdr⟩, HK.out⟩
    · have he' : ((err : Int) == 0) = false := by rw [beq_eq_false_iff_ne]; omega
      have HX2 := Lib.hid hX
      have HK := Lib.hid hK
      clear hX hS hO hK hGr
      by_cases hlt : k < n
      · have hkI : (k : Int) < (n : Int) := by omega
        go_wp2_with fail
        go_quiet (fail)
        go_wp2
        go_ret2
        rw [HX2.out]
        exact ⟨⟨rfl, he⟩, HK.out.drewN' _⟩
      · have hkI : ¬ (k : Int) < (n : Int) := by omega
        go_wp2_with fail
        go_quiet (fail)
        go_wp2
        go_ret2
        rw [HX2.out]
        exact ⟨⟨rfl, he⟩, HK.out.drewN' _⟩
end Go.Proofs.YtjepaneniodbpaaGreatDoor
