/- dictval.getDictionary. -/
import Derived.Test.YtbdpimnbjonhlaaChecked
import Derived.Test.YtbdpimnbjonhlaaDictF
import Derived.Test.YtbdpimnbjonhlaaReader
namespace Go.Proofs.Ytbdpimnbjonhlaa
open Go Go.RowKit

theorem gdict_more (m : Nat) (d : List Nat) (r : List Bool) (h : 64 ≤ r.length) (hb : badNext d (bv (r.take 64)) = false) : gdict (m + 1) d r = gdict m (d ++ [bv (r.take 64)]) (r.drop 64) := by
  conv => lhs; unfold gdict
  rw [if_neg (by omega), if_neg (by simp [hb])]
theorem gdict_bad (m : Nat) (d : List Nat) (r : List Bool) (h : 64 ≤ r.length) (hb : badNext d (bv (r.take 64)) = true) : gdict (m + 1) d r = ([], 8, r.drop 64) := by
  conv => lhs; unfold gdict
  rw [if_neg (by omega), if_pos hb]
theorem gdict_eof (m : Nat) (d : List Nat) (r : List Bool) (h : r.length < 64) : gdict (m + 1) d r = ([], 3, r) := by
  conv => lhs; unfold gdict
  rw [if_pos h]
theorem bv64 (r : List Bool) (h : 64 ≤ r.length) : bv (r.take 64) < 18446744073709551616 := by
  have := bv_lt (r.take 64)
  rw [List.length_take, Nat.min_eq_left h] at this
  simpa using this

theorem badNext_at (d : List Nat) (x : Nat) (h : 0 < d.length) : ∃ y, d[d.length - 1]? = some y ∧ badNext d x = decide (x ≤ y) := by
  have e : d[d.length - 1]? = some (d[d.length - 1]'(by omega)) := List.getElem?_eq_getElem _
  refine ⟨_, e, ?_⟩
  unfold badNext
  rw [List.getLast?_eq_getElem?, e]
theorem Rdr.blt {w : World} {g b : Nat} {bytes : List Nat} {pos : Nat} (h : Rdr w g b bytes pos) (hb : bytes ≠ []) : b < w.heap.size := by
  obtain ⟨A, c, _, hr⟩ := h.blk
  rcases hr with hr | ⟨_, _, hr, _⟩
  · exact absurd (by simpa using hr) hb
  · exact hr
/-- what getDictionary gives -/
def gD (r : List Bool) : List Nat × Nat × List Bool := if r.length < 7 then ([], 3, r) else gdict (bv (r.take 7) + 1) [] (r.drop 7)

theorem getD_any (w : World) (g b : Nat) (bytes : List Nat) (pos : Nat) (h : Rdr w g b bytes pos) :
    Calls Try.prog 40 #[.pointer (some ⟨g, 0, none⟩)] w fun e w' =>
      ∃ A c, e = .returned (.tuple #[.slice A (gD (rest bytes pos)).1.length c, .int .i64 ((gD (rest bytes pos)).2.1 : Nat)]) ∧ ((gD (rest bytes pos)).2.1 ≠ 0 → A = none ∧ c = 0) ∧
        (∃ p, pos ≤ p ∧ rest bytes p = (gD (rest bytes pos)).2.2 ∧ Rdr w' g b bytes p) ∧ (∃ b', Ow w' b' 25 1 A (gD (rest bytes pos)).1.length c (cN .u64 (gD (rest bytes pos)).1) ∧ w.heap.size ≤ b') ∧ Kp g g w w' := by
  have hlt := h.lt
  have hwi := h.within
  by_cases h7 : (rest bytes pos).length < 7
  · have HR := Lib.hid (RBits_eof w g b bytes pos 7 h (by omega) (by rw [rest_length] at h7; omega))
    have HG := Lib.hid (show gD (rest bytes pos) = ([], 3, rest bytes pos) from by unfold gD; rw [if_pos h7])
    have HH := Lib.hid h
    clear h
    go_enter Try.func40, Try.ntmps40
    go_wp2_with (go_at_call 41; refine HR.out.mono ?_; rintro e w1 ⟨rfl, hdr⟩)
    go_ret2
    rw [HG.out]
    exact ⟨none, 0, rfl, by simp, ⟨pos, Nat.le_refl _, rfl, HH.out.nw hdr.nw⟩, ⟨w.heap.size, Ow.nil _ _ _ _, Nat.le_refl _⟩, hdr.nw.kp _ _⟩
  · have HR := Lib.hid (RBits_ok w g b bytes pos 7 h (by omega) (by rw [rest_length] at h7; omega))
    have HG := Lib.hid (show gD (rest bytes pos) = gdict (bv ((rest bytes pos).take 7) + 1) [] (rest bytes (pos + 7)) from by unfold gD; rw [if_neg h7, rest_drop])
    have hk7 := bv_lt ((rest bytes pos).take 7)
    rw [List.length_take, Nat.min_eq_left (by omega)] at hk7
    have hblt := h.blt (by rintro rfl; simp [rest_length] at h7)
    generalize bv ((rest bytes pos).take 7) = K at *
    have hK : K < 128 := hk7
    have e1 : IntKind.i64.wrap (K : Int) = (K : Int) := IntWalk.i64_in _ (by omega)
    clear hk7 h h7
    go_enter Try.func40, Try.ntmps40
    go_wp2_with (go_at_call 41; refine HR.out.mono ?_; rintro e w1 ⟨rfl, hR1, hK1⟩)
    have hs1 := hK1.size
    go_loopw [6, 21] (fun s i wr => ∃ k : Nat, k ≤ K + 1 ∧ i = .int .i64 k ∧ ∃ (d : List Nat) (bk : Nat) (Ak : Option Addr) (ck p : Nat), d.length = k ∧ s = .slice Ak k ck ∧ Ow wr bk 25 1 Ak k ck (cN .u64 d) ∧ w.heap.size ≤ bk ∧ pos ≤ p ∧ Rdr wr g b bytes p ∧ gD (rest bytes pos) = gdict (K + 1 - k) d (rest bytes p) ∧ Kp g g w wr) (fun _ i _ => K + 1 - (intOf i).toNat)
    case atStart => exact ⟨0, by omega, rfl, [], w.heap.size, none, 0, pos + 7, rfl, rfl, Ow.nil _ _ _ _, Nat.le_refl _, by omega, hR1, by simpa using HG.out, hK1⟩
    case round =>
      obtain ⟨k, hk, rfl, d, bk, Ak, ck, p, hdk, rfl, hO, hbk, hp, hRp, hgd, hKk⟩ := hrel
      have hsk := hKk.size
      by_cases hlt2 : k < K + 1
      · have hs : K + 1 - k = (K - k) + 1 := by omega
        rw [hs] at hgd
        by_cases h64 : (rest bytes p).length < 64
        · rw [gdict_eof _ _ _ h64] at hgd
          have HGD := Lib.hid hgd
          have HQ := Lib.hid (RBits_eof wr g b bytes p 64 hRp (by omega) (by rw [rest_length] at h64; omega))
          have HRP := Lib.hid hRp
          clear hgd hRp hO hR1
          go_wp2_with (go_at_call 41; refine HQ.out.mono ?_; rintro e w2 ⟨rfl, hdr⟩)
          go_ret2
          rw [HGD.out]
          exact ⟨none, 0, rfl, by simp, ⟨p, hp, rfl, HRP.out.nw hdr.nw⟩, ⟨w.heap.size, Ow.nil _ _ _ _, Nat.le_refl _⟩, hKk.nw' hdr.nw⟩
        · have HQ := Lib.hid (RBits_ok wr g b bytes p 64 hRp (by omega) (by rw [rest_length] at h64; omega))
          have hx := bv64 (rest bytes p) (by omega)
          by_cases hk0 : k = 0
          · subst hk0
            obtain rfl := List.eq_nil_of_length_eq_zero hdk
            rw [gdict_more _ _ _ (by omega) rfl] at hgd
            generalize bv ((rest bytes p).take 64) = x at *
            have HGD := Lib.hid hgd
            have HO := Lib.hid hO
            clear hgd hRp hO hR1
            go_wp2_with (first
              | (go_at_call 41; refine HQ.out.mono ?_; rintro e w2 ⟨rfl, hR2, hK2⟩; have hO2 := HO.out.kp hK2 (by omega) (by omega))
              | (at_builtin; refine wpList_app1 E_u64 rfl (.tmp 45) (.tmp 47) rfl rfl hO2 rfl rfl (by omega) (by omega) ?_; intro b3 A3 c3 w3 h1 h2 h3 h4))
            go_roundw
            case rel =>
              have hs2 := hK2.size
              have hg3 : g < w2.heap.size := by omega
              refine ⟨1, by omega, by go_num, [x], b3, A3, c3, p + 64, rfl, rfl, h1, by omega, by omega, ?_, ?_, ?_⟩
              · exact hR2.kp h3 (by omega) (by omega) (by omega) (by omega)
              · rw [HGD.out, rest_drop]; rfl
              · exact (hKk.trans hK2 (.inl rfl) (.inl rfl)).trans h3 (by omega) (by omega)
            case measure => simp [intOf]
          · obtain ⟨y, hy1, hy2⟩ := badNext_at d (bv ((rest bytes p).take 64)) (by omega)
            rw [hdk] at hy1
            obtain ⟨rfl, hbw, hc, _⟩ := hO.at_ (j := k - 1) (by omega)
            rw [List.getElem?_map, hy1, Option.map_some] at hc
            have HC := Lib.hid (show ∀ w2, Kp g g wr w2 → w2.cell? ⟨bk, k - 1, none⟩ = some (.int .u64 (y : Int)) from fun w2 hk2 => by rw [← hc]; exact World.cell?_of_block (hk2.block bk hbw (by omega) (by omega)))
            have HO := Lib.hid hO
            clear hc hy1 hO hR1 hRp
            by_cases hbad : badNext d (bv ((rest bytes p).take 64)) = true
            · rw [gdict_bad _ _ _ (by omega) hbad] at hgd
              have HGD := Lib.hid hgd
              rw [hy2] at hbad
              generalize bv ((rest bytes p).take 64) = x at *
              have hbad' : x ≤ y := by simpa using hbad
              clear hbad hy2 hgd
              go_wp2_with (go_at_call 41; refine HQ.out.mono ?_; rintro e w2 ⟨rfl, hR2, hK2⟩; have hc2 := HC.out _ hK2)
              go_ret2
              rw [HGD.out]
              exact ⟨none, 0, rfl, by simp, ⟨p + 64, by omega, by rw [rest_drop], hR2⟩, ⟨w.heap.size, Ow.nil _ _ _ _, Nat.le_refl _⟩, hKk.trans hK2 (.inl rfl) (.inl rfl)⟩
            · rw [gdict_more _ _ _ (by omega) (by simpa using hbad)] at hgd
              have HGD := Lib.hid hgd
              rw [hy2] at hbad
              generalize bv ((rest bytes p).take 64) = x at *
              have hbad' : ¬ x ≤ y := by simpa using hbad
              clear hbad hy2 hgd
              go_wp2_with (first
                | (go_at_call 41; refine HQ.out.mono ?_; rintro e w2 ⟨rfl, hR2, hK2⟩; have hc2 := HC.out _ hK2; have hO2 := HO.out.kp hK2 (by omega) (by omega))
                | (at_builtin; refine wpList_app1 E_u64 rfl (.tmp 45) (.tmp 47) rfl rfl hO2 rfl rfl (by omega) (by omega) ?_; intro b3 A3 c3 w3 h1 h2 h3 h4))
              go_roundw
              case rel =>
                have hs2 := hK2.size
                refine ⟨k + 1, by omega, by go_num, d ++ [x], b3, A3, c3, p + 64, by simp [hdk], rfl, by simpa using h1, by omega, by omega, ?_, ?_, ?_⟩
                · exact hR2.kp h3 (by omega) (by omega) (by omega) (by omega)
                · rw [HGD.out, rest_drop]; congr 1; omega
                · exact (hKk.trans hK2 (.inl rfl) (.inl rfl)).trans h3 (by omega) (by omega)
              case measure => simp [intOf]; omega
      · go_wp2_with fail
        go_ret2
        obtain rfl : k = K + 1 := by omega
        rw [Nat.sub_self] at hgd
        rw [hgd]
        unfold gdict
        exact ⟨Ak, ck, by rw [hdk]; rfl, by simp, ⟨p, hp, rfl, hRp⟩, ⟨bk, by rw [hdk]; exact hO, hbk⟩, hKk⟩
end Go.Proofs.Ytbdpimnbjonhlaa
