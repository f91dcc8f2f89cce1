import Derived.Test.YtjepaneniodbpaaGreatDoorWriter

/- The reference of bitio: Write, Unpack, Pack, the Reader's Bits. -/
namespace Go.Proofs.YtjepaneniodbpaaGreatDoor
open Go Go.RowKit

theorem pow_bits (n k : Nat) (h : k < n) : 2 ^ (n - 1) / 2 ^ k = 2 ^ (n - 1 - k) := by
  rw [Nat.pow_div (by omega) (by omega)]

/-- from a nil slice on, nothing old has turned -/
theorem nn_step {w wr w1 : World} {A Ak A1 : Option Addr} {bk b1 : Nat} (hnn : A = none → Nw w wr ∧ (w.heap.size ≤ bk ∨ Ak = none)) (h2 : b1 = bk ∨ wr.heap.size ≤ b1) (h3 : Kp bk bk wr w1)
    (h4 : Ak = none → Nw wr w1 ∧ (wr.heap.size ≤ b1 ∨ A1 = none)) : A = none → Nw w w1 ∧ (w.heap.size ≤ b1 ∨ A1 = none) := by
  intro e
  obtain ⟨h5, h6⟩ := hnn e
  have h7 := h5.size
  rcases h6 with h6 | h6
  · exact ⟨Kp.nw h5 h3 h6 h6, .inl (by omega)⟩
  · obtain ⟨h8, h9⟩ := h4 h6
    exact ⟨h5.trans h8, by rcases h9 with h9 | h9; exact .inl (by omega); exact .inr h9⟩

theorem Write_any (w : World) (b : Nat) (A : Option Addr) (m c : Nat) (bs : List Bool) (x n : Nat) (hO : Ow w b 4 1 A m c (cB bs)) (hn : n ≤ 64) (hx : x < 18446744073709551616) (hs : m + n ≤ 1099511627776) :
    Calls Tryz.prog 52 #[.slice A m c, .int .u64 (x : Int), .int .i64 (n : Int)] w fun e w' =>
      ∃ b' A' c', e = .returned (.slice A' (m + n) c') ∧ Ow w' b' 4 1 A' (m + n) c' (cB (bs ++ bitsOf x n)) ∧ (b' = b ∨ w.heap.size ≤ b') ∧ Kp b b w w' ∧ (A = none → Nw w w' ∧ (w.heap.size ≤ b' ∨ A' = none)) := by
  have HO := Lib.hid hO
  have HX := Lib.hid hx
  clear hO hx
  go_enter Tryz.func52, Tryz.ntmps52
  go_wp2
  go_loop [7, 8] (fun u i => ∃ k : Nat, 1 ≤ k ∧ (k ≤ n ∨ k = 1) ∧ i = .int .i64 k ∧ u = .int .u64 (2 ^ (k - 1) : Nat)) (fun _ i => n - (intOf i).toNat)
  case atStart => exact ⟨1, by omega, by omega, rfl, rfl⟩
  case round =>
    obtain ⟨k, hk1, hk2, rfl, rfl⟩ := hrel
    by_cases hlt : k < n
    · have hb : 2 ^ (k - 1) ≤ 2 ^ 62 := Nat.pow_le_pow_right (by omega) (by omega)
      have hb2 : (2 : Nat) ^ 62 = 4611686018427387904 := by decide
      have HP := Lib.hid (show 2 ^ (k + 1 - 1) = 2 ^ (k - 1) * 2 from by rw [← Nat.pow_succ]; congr 1; omega)
      rw [hb2] at hb
      clear hb2
      generalize 2 ^ (k - 1) = p at *
      go_wp2
      go_round
      case rel => exact ⟨k + 1, by omega, by omega, by go_num, by rw [HP.out]; go_num⟩
      case measure => simp [intOf]; omega
    · have hk3 : 2 ^ (k - 1) = 2 ^ (n - 1) := by congr 1; omega
      rw [hk3]
      clear hk3
      go_wp2
      go_loopw [0, 7, 9] (fun s u i wr => ∃ j : Nat, j ≤ n ∧ i = .int .i64 j ∧ u = .int .u64 (2 ^ (n - 1) / 2 ^ j : Nat) ∧ ∃ bk Ak ck, s = .slice Ak (m + j) ck ∧ Ow wr bk 4 1 Ak (m + j) ck (cB (bs ++ (bitsOf x n).take j)) ∧ (bk = b ∨ w.heap.size ≤ bk) ∧ Kp b b w wr ∧ Hid (A = none → Nw w wr ∧ (w.heap.size ≤ bk ∨ Ak = none))) (fun _ _ i _ => n - (intOf i).toNat)
      case atStart => exact ⟨0, by omega, rfl, by simp, b, A, c, rfl, by simpa using HO.out, .inl rfl, Kp.refl _ _ _, Lib.hid fun e => ⟨Nw.refl _, .inr e⟩⟩
      case round =>
        obtain ⟨j, hj, rfl, rfl, bk, Ak, ck, rfl, hO, hbk, hK, hnn⟩ := hrel
        by_cases hlt2 : j < n
        · have hp := pow_bits n j hlt2
          have HN := Lib.hid (show 2 ^ (n - 1) / 2 ^ (j + 1) = 2 ^ (n - 1 - j) / 2 from by rw [Nat.pow_succ, ← Nat.div_div_eq_div_mul, hp])
          rw [hp]
          clear hp
          have hpos : 0 < 2 ^ (n - 1 - j) := Nat.pow_pos (by omega)
          generalize hpp : 2 ^ (n - 1 - j) = p at *
          have hp0 : (((p : Nat) : Int) == 0) = false := by rw [beq_eq_false_iff_ne]; omega
          have HPP := Lib.hid hpp
          clear hpp
          go_wp2_with (at_builtin; refine wpList_app1 E_bool rfl (.tmp 22) (.tmp 28) rfl rfl hO rfl rfl (by omega) (by omega) ?_; intro b1 A1 c1 w1 h1 h2 h3 h4)
          go_roundw
          case rel =>
            have hx := HX.out
            have hp' : x / p ≤ x := Nat.div_le_self _ _
            have hsz := hK.size
            have hpp := HPP.out
            refine ⟨j + 1, by omega, by go_num, ?_, b1, A1, c1, rfl, ?_, ?_, hK.trans h3 ?_ ?_, Lib.hid (nn_step hnn.out h2 h3 fun e => ⟨(h4 e).1, .inl (h4 e).2⟩)⟩
            · have hpb : p ≤ 2 ^ 63 := by rw [← hpp]; exact Nat.pow_le_pow_right (by omega) (by omega)
              have h63 : (2 : Nat) ^ 63 = 9223372036854775808 := by decide
              rw [HN.out, IntWalk.u64_in _ (by omega)]
              go_num
            · have e : ((IntKind.u64.wrap ((x : Int) / (p : Int))).tmod 2 == 1) = decide (x / 2 ^ (n - 1 - j) % 2 = 1) := by
                rw [hpp, show (x : Int) / (p : Int) = ((x / p : Nat) : Int) from by simp]
                generalize x / p = q at hp'
                rw [IntWalk.u64_in _ (by omega), Int.tmod_eq_emod_of_nonneg (by omega), Bool.eq_iff_iff, beq_iff_eq, decide_eq_true_iff]
                omega
              rw [e] at h1
              rw [bits_next rfl hlt2, ← Nat.add_assoc]
              simpa using h1
            · rcases h2 with rfl | h2
              · exact hbk
              · right; omega
            · rcases hbk with h | h <;> simp [h]
            · rcases hbk with h | h <;> simp [h]
          case measure => simp [intOf]; omega
        · go_wp2
          go_ret
          obtain rfl : j = n := by omega
          exact ⟨bk, Ak, ck, rfl, by rwa [List.take_of_length_le (by rw [bitsOf_length]; omega)] at hO, hbk, hK, hnn.out⟩

theorem Unpack_any (w : World) (b : Nat) (A : Option Addr) (n c : Nat) (bytes : List Nat) (hn : n = bytes.length) (hm : n ≤ 100000000000) (hr : Rd w b A (cN .u8 bytes)) (hby : ∀ x ∈ bytes, x < 256) :
    Calls Tryz.prog 30 #[.slice A n c] w fun e w' => ∃ b' A' c', e = .returned (.slice A' (8 * bytes.length) c') ∧ Ow w' b' 4 1 A' (8 * bytes.length) c' (cB (up bytes)) ∧ w.heap.size ≤ b' ∧ Nw w w' := by
  subst hn
  have HBY := Lib.hid hby
  clear hby
  go_enter Tryz.func30, Tryz.ntmps30
  go_wp2
  go_loopw [3, 4] (fun s i wr => ∃ k : Nat, k ≤ bytes.length ∧ i = .int .i64 k ∧ ∃ bk Ak ck, s = .slice Ak (8 * k) ck ∧ Ow wr bk 4 1 Ak (8 * k) ck (cB (up (bytes.take k))) ∧ w.heap.size ≤ bk ∧ Nw w wr) (fun _ i _ => bytes.length - (intOf i).toNat)
  case atStart => exact ⟨0, by omega, rfl, w.heap.size, none, 0, rfl, Ow.nil _ _ _ _, Nat.le_refl _, Nw.refl w⟩
  case round =>
    obtain ⟨k, hk, rfl, bk, Ak, ck, rfl, hO, hbk, hN⟩ := hrel
    by_cases hlt : k < bytes.length
    · obtain ⟨o, rfl, _, hc⟩ := (hr.nw hN).get (k := k) (by simpa using hlt)
      rw [List.getElem_map] at hc
      have hx : bytes[k] < 256 := HBY.out _ (List.getElem_mem _)
      have HW := Lib.hid (Write_any wr bk Ak (8 * k) ck (up (bytes.take k)) bytes[k] 8 hO (by omega) (by omega) (by omega))
      clear hO
      have e1 : IntKind.u64.wrap ((bytes[k] : Nat) : Int) = ((bytes[k] : Nat) : Int) := IntWalk.u64_in _ (by omega)
      go_wp2_with (go_at_call 52; refine HW.out.mono ?_; rintro e w1 ⟨b1, A1, c1, rfl, h1, h2, h3, _⟩)
      go_roundw
      case rel =>
        have hsz := hN.size
        refine ⟨k + 1, by omega, by go_num, b1, A1, c1, by rw [Nat.mul_add], ?_, ?_, Kp.nw hN h3 hbk hbk⟩
        · rw [Nat.mul_add, List.take_succ_eq_append_getElem hlt, up_append]
          simpa [up] using h1
        · rcases h2 with rfl | h2
          · exact hbk
          · omega
      case measure => simp [intOf]; omega
    · go_wp2
      go_ret
      obtain rfl : k = bytes.length := by omega
      exact ⟨bk, Ak, ck, rfl, by simpa using hO, hbk, hN⟩
end Go.Proofs.YtjepaneniodbpaaGreatDoor

/- The reference of bitio: the Reader's Bits; Pack. -/
namespace Go.Proofs.YtjepaneniodbpaaGreatDoor
open Go Go.RowKit

/-- block g is a reader of the reference whose bits that are left lie in block b -/
structure Qr (w : World) (g b : Nat) (l : List Bool) : Prop where
  blk : ∃ A c, w.heap[g]? = some (.cells #[.slice A l.length c] 76 (0, 0)) ∧ Rd w b A (cB l) ∧ l.length ≤ c ∧ (A = none → c = 0)
  ne : b ≠ g
  small : l.length ≤ 1099511627776

section
variable {w w' : World} {g b : Nat} {l : List Bool}
theorem Qr.lt (h : Qr w g b l) : g < w.heap.size := by
  obtain ⟨A, c, hb, _⟩ := h.blk
  exact lt_of_block hb
theorem Qr.nw (h : Qr w g b l) (hk : Nw w w') : Qr w' g b l := by
  have hlt := h.lt
  obtain ⟨⟨A, c, hb, hr, h1⟩, h2, h3⟩ := h
  exact ⟨⟨A, c, (hk.block g hlt).trans hb, hr.nw hk, h1⟩, h2, h3⟩
theorem Qr.kp {g1 g2 : Nat} (h : Qr w g b l) (hk : Kp g1 g2 w w') (e1 : g ≠ g1) (e2 : g ≠ g2) (e3 : b ≠ g1) (e4 : b ≠ g2) : Qr w' g b l := by
  have hlt := h.lt
  obtain ⟨⟨A, c, hb, hr, h1⟩, h2, h3⟩ := h
  exact ⟨⟨A, c, (hk.block g hlt e1 e2).trans hb, hr.kp hk e3 e4, h1⟩, h2, h3⟩
end

theorem QBits_eof (w : World) (g b : Nat) (l : List Bool) (n : Nat) (h : Qr w g b l) (hn : n ≤ 64) (hl : l.length < n) :
    Calls Tryz.prog 58 #[.pointer (some ⟨g, 0, none⟩), .int .i64 (n : Int)] w fun e w' => e = .returned (.tuple #[.int .u64 0, .int .i64 3]) ∧ w = w' := by
  obtain ⟨⟨A, c, hb, hr, h1⟩, h2, h3⟩ := h
  have hc0 : w.cell? ⟨g, 0, none⟩ = some (.slice A l.length c) := by simp [World.cell?, hb]
  clear hb hr h1 h2
  go_enter Tryz.func58, Tryz.ntmps58
  go_wp2
  go_ret2
  exact ⟨rfl, rfl⟩

theorem qr_cut {w : World} {g b k : Nat} {l : List Bool} {A A' : Option Addr} {c c' : Nat} (hb : w.heap[g]? = some (.cells #[.slice A l.length c] 76 (0, 0))) (hr : Rd w b A' (cB (l.drop k))) (h2 : b ≠ g) (h3 : l.length ≤ 1099511627776)
    (h4 : l.length - k ≤ c') (h5 : A' = none → c' = 0) : Qr (w.setCell ⟨g, 0, none⟩ (.slice A' (l.length - k) c')) g b (l.drop k) := by
  refine ⟨⟨A', c', ?_, hr.kp ((Kp.refl g g w).setCell' (p := ⟨g, 0, none⟩) (.inl rfl) _) h2 h2, by simpa using h4, h5⟩, h2, by simp; omega⟩
  rw [List.length_drop]
  simp [World.setCell, Array.getElem?_modify, hb]

/-- the first k bits of byte j -/
def byteTo (bs : List Bool) (j : Nat) : Nat → Nat
  | 0 => 0
  | k + 1 => 2 * byteTo bs j k + bitN bs (8 * j + k)
theorem byteTo_succ (bs : List Bool) (j k : Nat) : byteTo bs j (k + 1) = 2 * byteTo bs j k + bitN bs (8 * j + k) := rfl
theorem byteTo_lt (bs : List Bool) (j k : Nat) : byteTo bs j k < 2 ^ k := by
  induction k with
  | zero => simp [byteTo]
  | succ k ih =>
    have := bitN_lt bs (8 * j + k)
    rw [byteTo_succ, Nat.pow_succ]
    omega
theorem byteTo_all (bs : List Bool) (j : Nat) : byteTo bs j 8 = byteAt bs j := by
  simp only [byteTo, byteAt, Nat.add_zero]
  omega
theorem pow_le8 (k : Nat) (h : k ≤ 8) : 2 ^ k ≤ 256 := by
  have := Nat.pow_le_pow_right (n := 2) (by omega) h
  simpa using this

theorem QBits_ok (w : World) (g b : Nat) (l : List Bool) (n : Nat) (h : Qr w g b l) (hn : n ≤ 64) (hl : n ≤ l.length) :
    Calls Tryz.prog 58 #[.pointer (some ⟨g, 0, none⟩), .int .i64 (n : Int)] w fun e w' =>
      e = .returned (.tuple #[.int .u64 (bv (l.take n) : Nat), .int .i64 0]) ∧ Qr w' g b (l.drop n) ∧ Kp g g w w' := by
  obtain ⟨⟨A, c, hb, hr, h1, h1'⟩, h2, h3⟩ := h
  have hc0 : w.cell? ⟨g, 0, none⟩ = some (.slice A l.length c) := by simp [World.cell?, hb]
  have hf0 : w.frozen? ⟨g, 0, none⟩ = false := by simp [World.frozen?, hb]
  have HB := Lib.hid hb
  clear hb
  go_enter Tryz.func58, Tryz.ntmps58
  go_wp2
  go_loop [6, 7] (fun x i => ∃ k : Nat, k ≤ n ∧ i = .int .i64 k ∧ x = .int .u64 (bv (l.take k) : Nat)) (fun _ i => n - (intOf i).toNat)
  case atStart => exact ⟨0, by omega, rfl, rfl⟩
  case round =>
    obtain ⟨k, hk, rfl, rfl⟩ := hrel
    by_cases hlt : k < n
    · have hkl : k < l.length := by omega
      obtain ⟨o, rfl, _, hc⟩ := hr.get (k := k) (by simpa using hkl)
      rw [List.getElem_map] at hc
      have i1 : (k : Int) < (l.length : Int) := by omega
      have hbv : bv (l.take k) < 2 ^ k := Nat.lt_of_lt_of_le (bv_lt _) (Nat.pow_le_pow_right (by omega) (by rw [List.length_take]; omega))
      have hp2 : 2 ^ k ≤ 2 ^ 63 := Nat.pow_le_pow_right (by omega) (by omega)
      have hp3 : (2 : Nat) ^ 63 = 9223372036854775808 := by decide
      have hbb : bv (l.take k) < 9223372036854775808 := by omega
      clear hbv hp2 hp3
      have HT := Lib.hid (show bv (l.take (k + 1)) = 2 * bv (l.take k) + b2n l[k] from by rw [List.take_succ_eq_append_getElem hkl, bv_snoc])
      generalize bv (l.take k) = p at *
      cases hv : l[k] <;> rw [hv] at hc HT
      · go_wp2
        go_round
        case rel => exact ⟨k + 1, by omega, by go_num, by rw [HT.out]; congr 1; simp [b2n]; omega⟩
        case measure => simp [intOf]; omega
      · go_wp2
        go_round
        case rel => exact ⟨k + 1, by omega, by go_num, by rw [HT.out]; congr 1; simp [b2n]; omega⟩
        case measure => simp [intOf]; omega
    · obtain rfl : k = n := by omega
      clear hlt
      by_cases hck : c = k
      · go_wp2
        go_ret2
        subst hck
        refine ⟨rfl, qr_cut HB.out (A' := A) (c' := 0) ?_ h2 h3 (by omega) (fun _ => rfl), (Kp.refl g g w).setCell' (.inl rfl) _⟩
        rw [List.drop_eq_nil_of_le (by omega)]
        exact Rd.nil _ _ _
      · go_wp2
        go_ret2
        refine ⟨rfl, qr_cut HB.out ?_ h2 h3 (by omega) (fun h => ?_), (Kp.refl g g w).setCell' (.inl rfl) _⟩
        · have := hr.cut (k := k) (cap := c) (size := 1) (by simpa using h1)
          rw [if_neg hck] at this
          simpa [cB, List.map_drop] using this
        · have := h1' (by simpa using h)
          omega

theorem Pack_any (w : World) (b : Nat) (A : Option Addr) (n c : Nat) (bs : List Bool) (hn : n = bs.length) (hm : n ≤ 100000000000) (hr : Rd w b A (cB bs)) :
    Calls Tryz.prog 26 #[.slice A n c] w fun e w' => ∃ b' A' c', e = .returned (.slice A' (pk bs).length c') ∧ Ow w' b' 5 1 A' (pk bs).length c' (cN .u8 (pk bs)) ∧ w.heap.size ≤ b' ∧ Nw w w' := by
  subst hn
  have HP := Lib.hid (pk_length bs)
  go_enter Tryz.func26, Tryz.ntmps26
  go_wp2
  go_loopw [3, 4] (fun s i wr => ∃ j : Nat, j ≤ (bs.length + 7) / 8 ∧ i = .int .i64 (8 * j : Nat) ∧ ∃ bk Ak ck, s = .slice Ak j ck ∧ Ow wr bk 5 1 Ak j ck (cN .u8 ((pk bs).take j)) ∧ w.heap.size ≤ bk ∧ Nw w wr) (fun _ i _ => bs.length + 8 - (intOf i).toNat)
  case atStart => exact ⟨0, by omega, rfl, w.heap.size, none, 0, rfl, Ow.nil _ _ _ _, Nat.le_refl _, Nw.refl w⟩
  case round =>
    obtain ⟨j, hj, rfl, bk, Ak, ck, rfl, hO, hbk, hN⟩ := hrel
    by_cases hlt : 8 * j < bs.length
    · have hltI : 8 * (j : Int) < (bs.length : Int) := by omega
      go_wp2
      go_loop [5, 6] (fun x i => ∃ k : Nat, k ≤ 8 ∧ i = .int .i64 k ∧ x = .int .i64 (byteTo bs j k : Nat)) (fun _ i => 8 - (intOf i).toNat)
      case atStart => exact ⟨0, by omega, rfl, rfl⟩
      case round =>
        obtain ⟨k, hk, rfl, rfl⟩ := hrel
        by_cases hlt2 : k < 8
        · have hbt := byteTo_lt bs j k
          have hp := pow_le8 k hk
          have HS := Lib.hid (byteTo_succ bs j k)
          generalize byteTo bs j k = p at *
          by_cases hin : 8 * j + k < bs.length
          · obtain ⟨o, rfl, _, hc⟩ := (hr.nw hN).get (k := 8 * j + k) (by simpa using hin)
            rw [List.getElem_map] at hc
            have i0 : (0 : Int) ≤ 8 * (j : Int) + (k : Int) := by omega
            have i1 : 8 * (j : Int) + (k : Int) < (bs.length : Int) := by omega
            have i2 : (8 * (j : Int) + (k : Int)).toNat = 8 * j + k := by omega
            have HV := Lib.hid (show bitN bs (8 * j + k) = b2n bs[8 * j + k] from by simp [bitN, List.getD, List.getElem?_eq_getElem hin])
            cases hv : bs[8 * j + k] <;> rw [hv] at hc HV
            · go_wp2
              go_round
              case rel => exact ⟨k + 1, by omega, by go_num, by rw [HS.out, HV.out]; congr 1; simp [b2n]; omega⟩
              case measure => simp [intOf]; omega
            · go_wp2
              go_round
              case rel => exact ⟨k + 1, by omega, by go_num, by rw [HS.out, HV.out]; congr 1; simp [b2n]; omega⟩
              case measure => simp [intOf]; omega
          · have i1 : ¬ 8 * (j : Int) + (k : Int) < (bs.length : Int) := by omega
            have HV := Lib.hid (bitN_ge bs (8 * j + k) (by omega))
            go_wp2
            go_round
            case rel => exact ⟨k + 1, by omega, by go_num, by rw [HS.out, HV.out]; congr 1; simp; omega⟩
            case measure => simp [intOf]; omega
        · go_wp2_with (at_builtin; refine wpList_app1 E_u8 rfl (.tmp 35) (.tmp 38) rfl rfl hO rfl rfl (by omega) (by omega) ?_; intro b1 A1 c1 w1 h1 h2 h3 h4)
          obtain rfl : k = 8 := by omega
          have hsz := hN.size
          have hjl : j < (pk bs).length := by rw [HP.out]; omega
          rw [byteTo_all] at h1
          have hbl := byteAt_lt bs j
          rw [show ((byteAt bs j : Nat) : Int) % 256 = ((byteAt bs j : Nat) : Int) from by omega] at h1
          go_roundw
          case rel =>
            refine ⟨j + 1, by omega, by go_num, b1, A1, c1, rfl, ?_, ?_, Kp.nw hN h3 hbk hbk⟩
            · rw [List.take_succ_eq_append_getElem hjl, pk_get]
              simpa using h1
            · rcases h2 with rfl | h2
              · exact hbk
              · omega
          case measure => simp [intOf]; omega
    · go_wp2
      go_ret
      obtain rfl : j = (bs.length + 7) / 8 := by omega
      exact ⟨bk, Ak, ck, by simp [HP.out], by rw [HP.out]; rwa [List.take_of_length_le (by rw [HP.out]; omega)] at hO, hbk, hN⟩
end Go.Proofs.YtjepaneniodbpaaGreatDoor
