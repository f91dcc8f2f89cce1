/- The bit reader's walks: NewReader, Left, bit, Bits, End. -/
import Derived.Test.YtjepaneniodbpaaGreatDoorEq
import Derived.Test.YtjepaneniodbpaaGreatDoorBits
import Derived.Deep.QuietTactic
import Derived.BigQuiet
namespace Go.Proofs.YtjepaneniodbpaaGreatDoor
open Go Go.RowKit

/-- block g is a reader over bytes, at bit pos; its bytes lie in block b -/
structure Rdr (w : World) (g b : Nat) (bytes : List Nat) (pos : Nat) : Prop where
  blk : ∃ A c, w.heap[g]? = some (.cells #[.slice A bytes.length c, .int .i64 (pos : Int)] 104 (0, 0)) ∧ Rd w b A (cN .u8 bytes)
  ne : bytes = [] ∨ b ≠ g
  byte : ∀ x ∈ bytes, x < 256
  small : bytes.length ≤ 140737488355328
  within : pos ≤ 8 * bytes.length

section
variable {w w' : World} {g b : Nat} {bytes : List Nat} {pos : Nat}
theorem Rdr.lt (h : Rdr w g b bytes pos) : g < w.heap.size := by
  obtain ⟨A, c, hb, _⟩ := h.blk
  exact lt_of_block hb
theorem Rdr.nw (h : Rdr w g b bytes pos) (hk : Nw w w') : Rdr w' g b bytes pos := by
  have hlt := h.lt
  obtain ⟨⟨A, c, hb, hr⟩, h2, h3, h4, h5⟩ := h
  exact ⟨⟨A, c, (hk.block g hlt).trans hb, hr.nw hk⟩, h2, h3, h4, h5⟩
theorem Rdr.kp {g1 g2 : Nat} (h : Rdr w g b bytes pos) (hk : Kp g1 g2 w w') (e1 : g ≠ g1) (e2 : g ≠ g2) (e3 : b ≠ g1) (e4 : b ≠ g2) : Rdr w' g b bytes pos := by
  have hlt := h.lt
  obtain ⟨⟨A, c, hb, hr⟩, h2, h3, h4, h5⟩ := h
  exact ⟨⟨A, c, (hk.block g hlt e1 e2).trans hb, hr.kp hk e3 e4⟩, h2, h3, h4, h5⟩
theorem Rdr.step (h : Rdr w g b bytes pos) (p : Nat) (hp : p ≤ 8 * bytes.length) : Rdr (w.setCell ⟨g, 1, none⟩ (.int .i64 (p : Int))) g b bytes p := by
  have hlt := h.lt
  obtain ⟨⟨A, c, hb, hr⟩, h2, h3, h4, h5⟩ := h
  refine ⟨⟨A, c, ?_, ?_⟩, h2, h3, h4, hp⟩
  · simp [World.setCell, Array.getElem?_modify, hb]
  · rcases h2 with rfl | h2
    · exact Rd.nil _ _ _
    · exact hr.kp ((Kp.refl g g w).setCell' (p := ⟨g, 1, none⟩) (.inl rfl) _) h2 h2
end

theorem bit_value (x s : Nat) (hx : x < 256) : bits .and .u64 (IntKind.u64.wrap ((x : Int) / 2 ^ s)) 1 = ((x / 2 ^ s % 2 : Nat) : Int) := by
  have h1 : ((x : Int) / 2 ^ s) = ((x / 2 ^ s : Nat) : Int) := by simp
  have h2 : x / 2 ^ s ≤ x := Nat.div_le_self _ _
  rw [h1]
  generalize x / 2 ^ s = y at *
  rw [IntWalk.u64_in _ (by omega), and_one_u64 _ (by omega) (by omega)]
  omega
theorem ret_u64 {a b : Int} (h : a = b) : Ending.returned (.int .u64 a) = .returned (.int .u64 b) := by rw [h]

theorem up_bit (bytes : List Nat) (i : Nat) (h : i < 8 * bytes.length) : b2n ((up bytes)[i]'(by rw [up_length]; exact h)) = bytes[i / 8]'(by omega) / 2 ^ (7 - i % 8) % 2 := by
  rw [up_get]
  generalize bytes[i / 8] / 2 ^ (7 - i % 8) = y
  have : y % 2 = 0 ∨ y % 2 = 1 := by omega
  rcases this with h | h <;> simp [b2n, h]

theorem bit_any (w : World) (g b : Nat) (bytes : List Nat) (pos at_ : Nat) (h : Rdr w g b bytes pos) (hat : at_ < 8 * bytes.length) :
    Calls Tryz.prog 57 #[.pointer (some ⟨g, 0, none⟩), .int .i64 (at_ : Int)] w fun e w' => e = .returned (.int .u64 (b2n ((up bytes)[at_]'(by rw [up_length]; exact hat)) : Nat)) ∧ w = w' := by
  obtain ⟨⟨A, c, hb, hr⟩, hne, hby, hsm, hwi⟩ := h
  have hk : at_ / 8 < bytes.length := by omega
  obtain ⟨o, rfl, hlt, hc⟩ := hr.get (k := at_ / 8) (by simpa using hk)
  rw [List.getElem_map] at hc
  have hc0 : w.cell? ⟨g, 0, none⟩ = some (.slice (some ⟨b, o, none⟩) bytes.length c) := by simp [World.cell?, hb]
  have hx : bytes[at_ / 8] < 256 := hby _ (List.getElem_mem _)
  have i0 : (0 : Int) ≤ (at_ : Int) / 8 := by omega
  have i1 : (at_ : Int) / 8 < (bytes.length : Int) := by omega
  have i2 : ((at_ : Int) / 8).toNat = at_ / 8 := by omega
  clear hr hb hby hne
  go_enter Tryz.func57, Tryz.ntmps57
  go_wp2
  go_ret
  exact ⟨ret_u64 (by rw [bit_value _ _ hx, up_bit _ _ hat]), rfl⟩

/-- the bits that are left -/
def rest (bytes : List Nat) (pos : Nat) : List Bool := (up bytes).drop pos
theorem rest_length (bytes : List Nat) (pos : Nat) : (rest bytes pos).length = 8 * bytes.length - pos := by simp [rest, up_length]
theorem rest_drop (bytes : List Nat) (pos n : Nat) : (rest bytes pos).drop n = rest bytes (pos + n) := by simp [rest]
theorem rest_take_next (bytes : List Nat) (pos k : Nat) (h : pos + k < 8 * bytes.length) : (rest bytes pos).take (k + 1) = (rest bytes pos).take k ++ [(up bytes)[pos + k]'(by rw [up_length]; exact h)] := by
  have hk : k < (rest bytes pos).length := by rw [rest_length]; omega
  rw [List.take_succ_eq_append_getElem hk]
  simp [rest]

theorem RLeft_any (w : World) (g b : Nat) (bytes : List Nat) (pos : Nat) (h : Rdr w g b bytes pos) :
    Calls Tryz.prog 56 #[.pointer (some ⟨g, 0, none⟩)] w fun e w' => e = .returned (.int .i64 ((8 * bytes.length - pos : Nat) : Int)) ∧ Dr w w' := by
  obtain ⟨⟨A, c, hb, hr⟩, hne, hby, hsm, hwi⟩ := h
  have hc0 : w.cell? ⟨g, 0, none⟩ = some (.slice A bytes.length c) := by simp [World.cell?, hb]
  have hc1 : w.cell? ⟨g, 1, none⟩ = some (.int .i64 (pos : Int)) := by simp [World.cell?, hb]
  have hnil : ∀ W, (binOp .eql 67 (.pointer (some ⟨g, 0, none⟩)) (.pointer none)).run Tryz.prog W = .ok (.bool false) W := fun _ => by kernel_rfl
  clear hr hb hby hne
  go_enter Tryz.func56, Tryz.ntmps56
  go_wp2
  go_quiet (fail)
  go_wp2
  go_ret
  exact ⟨ret_int (by omega), Dr.mk _ _⟩

theorem bits_step (x d k : Nat) (hx : x < 2 ^ k) (hk : k < 64) (hd : d ≤ 1) : bits .or .u64 (IntKind.u64.wrap ((x : Int) * 2)) (d : Int) = ((2 * x + d : Nat) : Int) := by
  have h2 : 2 ^ k ≤ 2 ^ 63 := Nat.pow_le_pow_right (by omega) (by omega)
  have h3 : (2 : Nat) ^ 63 = 9223372036854775808 := by decide
  rw [IntWalk.u64_in _ (by omega), show (x : Int) * 2 = ((2 * x : Nat) : Int) from by omega, u64_or_nat _ _ (by omega) (by omega), nat_join 1 _ _ (by omega) (by omega)]

theorem RBits_ok (w : World) (g b : Nat) (bytes : List Nat) (pos n : Nat) (h : Rdr w g b bytes pos) (hn : n ≤ 64) (hfit : pos + n ≤ 8 * bytes.length) :
    Calls Tryz.prog 54 #[.pointer (some ⟨g, 0, none⟩), .int .i64 (n : Int)] w fun e w' =>
      e = .returned (.tuple #[.int .u64 (bv ((rest bytes pos).take n) : Nat), .int .i64 0]) ∧ Rdr w' g b bytes (pos + n) ∧ Kp g g w w' := by
  have hnil : ∀ W, (binOp .eql 67 (.pointer (some ⟨g, 0, none⟩)) (.pointer none)).run Tryz.prog W = .ok (.bool false) W := fun _ => by kernel_rfl
  have hlen : (n : Int) ≤ ((8 * bytes.length - pos : Nat) : Int) := by omega
  have H := Lib.hid h
  clear h
  go_enter Tryz.func54, Tryz.ntmps54
  go_wp2_with (go_at_call 56; refine (RLeft_any _ _ _ _ _ H.out).mono ?_; rintro e w' ⟨rfl, hd⟩)
  go_loopw [6, 23] (fun x i wr => ∃ k : Nat, k ≤ n ∧ i = .int .i64 k ∧ x = .int .u64 (bv ((rest bytes pos).take k) : Nat) ∧ Rdr wr g b bytes (pos + k) ∧ Kp g g w wr) (fun _ i _ => n - (intOf i).toNat)
  case atStart => exact ⟨0, by omega, rfl, rfl, H.out.nw hd.nw, hd.nw.kp g g⟩
  case round =>
    obtain ⟨k, hk, rfl, rfl, hR, hK⟩ := hrel
    by_cases hlt : k < n
    · have hpk : pos + k < 8 * bytes.length := by omega
      obtain ⟨A, c, hb, _⟩ := hR.blk
      have hc1 : wr.cell? ⟨g, 1, none⟩ = some (.int .i64 ((pos + k : Nat) : Int)) := by simp [World.cell?, hb]
      have hf1 : wr.frozen? ⟨g, 1, none⟩ = false := by simp [World.frozen?, hb]
      have hsm := hR.small
      clear hb
      generalize hpp : pos + k = p at *
      have HP := Lib.hid hpp
      clear hpp
      go_wp2
      go_quiet ((go_at_call 57; exact Calls.quiet_of_same ((bit_any _ _ _ _ _ _ (hR.nw (Nw.drewN _ _)) hpk).mono fun _ _ h => ⟨h.1, h.2.symm⟩)))
      go_wp2
      go_roundw
      case rel =>
        have hp1 : pos + (k + 1) = p + 1 := by have := HP.out; omega
        refine ⟨k + 1, by omega, by go_num, ?_, ?_, (hK.drewN' nq).setCell' (.inl rfl) _⟩
        · rw [rest_take_next bytes pos k (by have := HP.out; omega), bv_snoc]
          have e : (up bytes)[p]'(by rw [up_length]; exact hpk) = (up bytes)[pos + k]'(by rw [up_length]; have := HP.out; omega) := by
            have := HP.out
            subst this
            rfl
          rw [e]
          congr 1
          exact bits_step _ _ k (Nat.lt_of_lt_of_le (bv_lt _) (Nat.pow_le_pow_right (by omega) (by rw [List.length_take]; omega))) (by omega) (b2n_le _)
        · rw [hp1]
          have := (hR.nw (Nw.drewN wr nq)).step (p + 1) (by omega)
          simpa using this
      case measure => simp [intOf]; omega
    · obtain rfl : k = n := by omega
      go_wp2
      go_ret2
      exact ⟨rfl, hR, hK⟩

theorem RBits_eof (w : World) (g b : Nat) (bytes : List Nat) (pos n : Nat) (h : Rdr w g b bytes pos) (hn : n ≤ 64) (hfit : 8 * bytes.length < pos + n) :
    Calls Tryz.prog 54 #[.pointer (some ⟨g, 0, none⟩), .int .i64 (n : Int)] w fun e w' => e = .returned (.tuple #[.int .u64 0, .int .i64 3]) ∧ Dr w w' := by
  have hnil : ∀ W, (binOp .eql 67 (.pointer (some ⟨g, 0, none⟩)) (.pointer none)).run Tryz.prog W = .ok (.bool false) W := fun _ => by kernel_rfl
  have hlen : 8 * bytes.length - pos < n := by have := h.within; omega
  have H := Lib.hid h
  clear h
  go_enter Tryz.func54, Tryz.ntmps54
  go_wp2_with (go_at_call 56; refine (RLeft_any _ _ _ _ _ H.out).mono ?_; rintro e w' ⟨rfl, hd⟩)
  go_ret2
  exact ⟨rfl, hd⟩

def endE (bs : List Bool) : Nat := if 8 ≤ bs.length ∨ true ∈ bs then 4 else 0

theorem rest_get (bytes : List Nat) (pos k : Nat) (h : pos + k < 8 * bytes.length) : (rest bytes pos)[k]'(by rw [rest_length]; omega) = (up bytes)[pos + k]'(by rw [up_length]; exact h) := by simp [rest]

theorem REnd_any (w : World) (g b : Nat) (bytes : List Nat) (pos : Nat) (h : Rdr w g b bytes pos) :
    Calls Tryz.prog 29 #[.pointer (some ⟨g, 0, none⟩)] w fun e w' => e = .returned (.int .i64 (endE (rest bytes pos) : Nat)) ∧ Dr w w' := by
  have hnil : ∀ W, (binOp .eql 67 (.pointer (some ⟨g, 0, none⟩)) (.pointer none)).run Tryz.prog W = .ok (.bool false) W := fun _ => by kernel_rfl
  have H := Lib.hid h
  have hwi := h.within
  have hsm := h.small
  have HL := Lib.hid (rest_length bytes pos)
  clear h
  by_cases h8 : 8 ≤ 8 * bytes.length - pos
  · have he : endE (rest bytes pos) = 4 := by unfold endE; rw [if_pos (.inl (by rw [HL.out]; exact h8))]
    have HE := Lib.hid he
    clear he
    go_enter Tryz.func29, Tryz.ntmps29
    go_wp2_with (go_at_call 56; refine (RLeft_any _ _ _ _ _ H.out).mono ?_; rintro e w' ⟨rfl, hd⟩)
    go_ret
    exact ⟨ret_int (by rw [HE.out]; rfl), hd⟩
  · go_enter Tryz.func29, Tryz.ntmps29
    go_wp2_with (go_at_call 56; refine (RLeft_any _ _ _ _ _ H.out).mono ?_; rintro e w' ⟨rfl, hd⟩)
    go_loopw [12] (fun i wr => ∃ k : Nat, k ≤ 8 * bytes.length - pos ∧ i = .int .i64 k ∧ true ∉ (rest bytes pos).take k ∧ Dr w wr) (fun i _ => 8 * bytes.length - pos - (intOf i).toNat)
    case atStart => exact ⟨0, by omega, rfl, by simp, hd⟩
    case round =>
      obtain ⟨k, hk, rfl, hno, hd'⟩ := hrel
      have HNO := Lib.hid hno
      clear hno
      by_cases hlt : k < 8 * bytes.length - pos
      · have hpk : pos + k < 8 * bytes.length := by omega
        have hR := H.out.nw hd'.nw
        obtain ⟨A, c, hb, _⟩ := hR.blk
        have hc1 : wr.cell? ⟨g, 1, none⟩ = some (.int .i64 (pos : Int)) := by simp [World.cell?, hb]
        clear hb
        have hlt2 : (k : Int) < ((8 * bytes.length - pos : Nat) : Int) := by omega
        have hws : IntKind.i64.wrap ((pos : Int) + (k : Int)) = ((pos + k : Nat) : Int) := by rw [IntWalk.i64_in _ (by omega)]; omega
        have hb0 := rest_get bytes pos k hpk
        have HB := Lib.hid hb0
        clear hb0
        cases hv : (up bytes)[pos + k]'(by rw [up_length]; exact hpk)
        all_goals
          have HV := Lib.hid hv
          have hcall : ∀ W, Nw wr W → Calls Tryz.prog 57 #[.pointer (some ⟨g, 0, none⟩), .int .i64 ((pos + k : Nat) : Int)] W fun e w' => e = .returned (.int .u64 (b2n ((up bytes)[pos + k]'(by rw [up_length]; exact hpk)) : Nat)) ∧ w' = W :=
            fun W hW => (bit_any W g b bytes pos (pos + k) (hR.nw hW) hpk).mono fun _ _ h => ⟨h.1, h.2.symm⟩
          rw [hv] at hcall
          clear hv
          have HC := Lib.hid hcall
          clear hcall
          go_wp2
          go_quiet ((go_at_call 57; exact Calls.quiet_of_same (HC.out _ (Nw.drewN _ _))))
          go_wp2
        · go_roundw
          case rel =>
            refine ⟨k + 1, by omega, by go_num, ?_, hd'.step _⟩
            rw [List.take_succ_eq_append_getElem (by rw [rest_length]; omega), List.mem_append, List.mem_singleton, HB.out, HV.out]
            exact fun h => h.elim HNO.out (by simp)
          case measure => simp [intOf]; omega
        · go_ret
          refine ⟨ret_int ?_, hd'.step _⟩
          unfold endE
          rw [if_pos (.inr (by rw [← HV.out, ← HB.out]; exact List.getElem_mem _))]
          rfl
      · go_wp2
        go_ret
        refine ⟨ret_int ?_, hd'⟩
        unfold endE
        rw [if_neg]
        · rfl
        · rw [HL.out]
          rintro (h | h)
          · omega
          · exact HNO.out (by rw [List.take_of_length_le (by rw [HL.out]; omega)]; exact h)

theorem NewReader_any (w : World) (b : Nat) (A : Option Addr) (n c : Nat) (bytes : List Nat) (hn : n = bytes.length) (hm : n ≤ 140737488355328) (hr : Rd w b A (cN .u8 bytes)) (hA : A = none → c = 0) (hby : ∀ x ∈ bytes, x < 256) :
    Calls Tryz.prog 27 #[.slice A n c] w fun e w' => ∃ g b', e = .returned (.pointer (some ⟨g, 0, none⟩)) ∧ Rdr w' g b' bytes 0 ∧ w.heap.size ≤ g ∧ w.heap.size ≤ b' ∧ Nw w w' := by
  have HN := Lib.hid hn
  clear hn
  go_enter Tryz.func27, Tryz.ntmps27
  go_wp2_with (go_at_call 47; refine (CloneB_any w b A n c bytes HN.out hm hr hA).mono ?_; rintro e w' ⟨b', A', c', rfl, hO, hge, hN⟩)
  go_ret
  have hblk : (w'.alloc (.cells #[.slice A' n c', .int .i64 0] 104)).heap[w'.heap.size]? = some (.cells #[.slice A' bytes.length c', .int .i64 ((0 : Nat) : Int)] 104 (0, 0)) := by
    rw [heap_alloc_new, HN.out]; rfl
  by_cases h0 : bytes = []
  · subst h0
    exact ⟨w'.heap.size, w'.heap.size, by simp, ⟨⟨A', c', hblk, Rd.nil _ _ _⟩, .inl rfl, hby, by simp, by simp⟩, hN.size, hN.size, hN.alloc' _⟩
  · have hlt : b' < w'.heap.size := hO.lt (by have := HN.out; have := List.length_pos_iff.2 h0; omega)
    exact ⟨w'.heap.size, b', by simp, ⟨⟨A', c', hblk, hO.rd.nw (Nw.alloc' (Nw.refl _) _)⟩, .inr (by omega), hby, by have := HN.out; omega, by omega⟩, hN.size, hge, hN.alloc' _⟩
end Go.Proofs.YtjepaneniodbpaaGreatDoor
