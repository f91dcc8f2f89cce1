/- Slices of samples: slices.Equal, slices.Clone. -/
import Derived.Test.YtjepaneniodbpaaGreatDoorChunkDec
import Derived.Test.YtjepaneniodbpaaGreatDoorEq
namespace Go.Proofs.YtjepaneniodbpaaGreatDoor
open Go Go.RowKit Go.Sort

theorem oc_S (zs : List (Int × Nat)) : ∀ u ∈ cS zs, u.oneCell' = true := by
  intro u hu
  obtain ⟨z, _, hz⟩ := List.mem_flatMap.1 hu
  rcases List.mem_cons.1 hz with rfl | hz
  · rfl
  · rcases List.mem_cons.1 hz with rfl | hz
    · rfl
    · cases hz
theorem smp_at {w : World} {b k : Nat} {A : Option Addr} {zs : List (Int × Nat)} (h : Rd w b A (cS zs)) (hk : k < zs.length) :
    ∃ o, A = some ⟨b, o, none⟩ ∧ b < w.heap.size ∧ w.cell? ⟨b, o + k * 2, none⟩ = some (.int .i64 zs[k].1) ∧ w.cell? ⟨b, o + k * 2 + 1, none⟩ = some (.int .u64 (zs[k].2 : Int)) := by
  obtain ⟨o, rfl, hob, hc0⟩ := h.get (k := k * 2) (by rw [cS_length]; omega)
  obtain ⟨o', ho', _, hc1⟩ := h.get (k := k * 2 + 1) (by rw [cS_length]; omega)
  obtain ⟨g0, g1⟩ := cS_at zs k hk
  rw [(List.getElem_eq_iff _).2 g0] at hc0
  rw [(List.getElem_eq_iff _).2 g1] at hc1
  injection ho' with ho'; injection ho' with _ ho'; subst ho'
  exact ⟨o, rfl, hob, hc0, hc1⟩

theorem EqualS_any (w : World) (b b' : Nat) (A A' : Option Addr) (n c n' c' : Nat) (xs ys : List (Int × Nat)) (hn : n = xs.length) (hn' : n' = ys.length) (hm : n ≤ 4611686018427387903) (hm' : n' ≤ 4611686018427387903)
    (hr : Rd w b A (cS xs)) (hr' : Rd w b' A' (cS ys)) :
    Calls Tryz.prog 10 #[.slice A n c, .slice A' n' c'] w fun e w' => e = .returned (.bool (decide (xs = ys))) ∧ Dr w w' := by
  subst hn hn'
  by_cases hl : xs.length = ys.length
  · have hl1 : (((xs.length : Nat) : Int) != ((ys.length : Nat) : Int)) = false := by rw [bne_eq_false_iff_eq]; omega
    have HL := Lib.hid hl
    have hl2 : xs.length ≤ ys.length := by omega
    have hl3 : ys.length ≤ xs.length := by omega
    clear hl
    go_enter Tryz.func10, Tryz.ntmps10
    go_wp2
    go_loopw [13] (fun i wr => ∃ k : Nat, k ≤ xs.length ∧ i = .int .i64 k ∧ xs.take k = ys.take k ∧ Dr w wr) (fun i _ => xs.length - (intOf i).toNat)
    case atStart => exact ⟨0, by omega, rfl, by simp, Dr.refl _⟩
    case round =>
      obtain ⟨k, hk, rfl, he, hd⟩ := hrel
      have hr := hr.nw hd.nw
      have hr' := hr'.nw hd.nw
      have HE := Lib.hid he
      clear he
      by_cases hlt : k < xs.length
      · have hlt' : k < ys.length := by omega
        obtain ⟨o, rfl, _, hc0, hc1⟩ := smp_at hr hlt
        obtain ⟨o', rfl, _, hd0, hd1⟩ := smp_at hr' hlt'
        have hi0 : (0 : Int) ≤ (k : Int) := by omega
        have hi1 : (k : Int) < (xs.length : Int) := by omega
        have hi2 : (k : Int) < (ys.length : Int) := by omega
        by_cases hx : xs[k] = ys[k]
        · have HX := Lib.hid hx
          rw [← hx] at hd0 hd1
          clear hx
          go_wp2
          go_quiet (fail)
          go_wp2
          go_roundw
          case rel => exact ⟨k + 1, by omega, by go_num, take_eq_next xs ys k hlt hlt' HX.out HE.out, hd.step _⟩
          case measure => simp [intOf]; omega
        · have HX := Lib.hid hx
          by_cases ht : xs[k].1 = ys[k].1
          · rw [← ht] at hd0
            have e2 : ((xs[k].2 : Int) == (ys[k].2 : Int)) = false := by
              rw [beq_eq_false_iff_ne]
              intro e
              exact hx (Prod.ext ht (by omega))
            clear hx ht
            go_wp2
            go_quiet (fail)
            go_wp2
            go_ret
            exact ⟨ret_bool (by rw [eq_comm, decide_eq_false_iff_not]; exact ne_of_at xs ys k hlt hlt' HX.out), hd.step _⟩
          have e2 : ((xs[k].1 : Int) == (ys[k].1 : Int)) = false := by
            rw [beq_eq_false_iff_ne]
            exact ht
          clear hx ht
          go_wp2
          go_quiet (fail)
          go_wp2
          go_ret
          exact ⟨ret_bool (by rw [eq_comm, decide_eq_false_iff_not]; exact ne_of_at xs ys k hlt hlt' HX.out), hd.step _⟩
      · go_wp2
        go_ret
        exact ⟨ret_bool (by rw [eq_comm, decide_eq_true_iff]; exact take_eq_all xs ys k HL.out hlt HE.out), hd⟩
  · have hl1 : (((xs.length : Nat) : Int) != ((ys.length : Nat) : Int)) = true := by rw [bne_iff_ne]; omega
    have HL := Lib.hid hl
    clear hl
    go_enter Tryz.func10, Tryz.ntmps10
    go_wp2
    go_ret
    exact ⟨ret_bool (by rw [eq_comm, decide_eq_false_iff_not]; rintro rfl; exact HL.out rfl), Dr.refl _⟩

theorem CloneS_any (w : World) (b : Nat) (A : Option Addr) (n c : Nat) (zs : List (Int × Nat)) (hn : n = zs.length) (hm : n * 16 ≤ 140737488355328) (hr : Rd w b A (cS zs)) (hA : A = none → c = 0) :
    Calls Tryz.prog 6 #[.slice A n c] w fun e w' => ∃ b' A' c', e = .returned (.slice A' n c') ∧ Ow w' b' 27 2 A' n c' (cS zs) ∧ w.heap.size ≤ b' ∧ Nw w w' ∧ n ≤ c' := by
  subst hn
  cases A with
  | none =>
    obtain rfl : zs = [] := by
      rcases hr with h | ⟨o, h, _⟩
      · have := congrArg List.length h; rw [cS_length] at this; exact List.eq_nil_of_length_eq_zero (by simp at this; omega)
      · cases h
    obtain rfl := hA rfl
    have hnil := fun W => Lib.run_eql_slice_nil (P := Tryz.prog) W 22 27 none 0 0 0 0 Tryz.underlying22
    go_enter Tryz.func6, Tryz.ntmps6
    go_wp2
    go_ret
    exact ⟨w.heap.size, none, 0, rfl, Ow.nil _ _ _ _, Nat.le_refl _, Nw.refl w⟩
  | some ad =>
    have hnil := fun W => Lib.run_eql_slice_nil (P := Tryz.prog) W 22 27 (some ad) zs.length c 0 0 Tryz.underlying22
    go_enter Tryz.func6, Tryz.ntmps6
    go_wp2_with (at_builtin; refine wpList_app E_smp rfl (.tmp 5) (.tmp 6) rfl rfl (Ow.empty w _ _) rfl (hr.nw (Nw.alloc' (Nw.refl w) _)) (by rw [cS_length]; omega) (by intro h; cases h) (oc_S _) (by simp only [maxLen]; omega) (by omega) ?_; intro b' A' c' w' h1 h2 h3 _)
    go_ret
    rw [List.nil_append, Nat.zero_add] at h1
    refine ⟨b', A', c', by simp, h1, ?_, Kp.nw (Nw.alloc' (Nw.refl w) _) h3 (by simp) (by simp), h1.cap.1⟩
    have := (Nw.alloc' (Nw.refl w) (.cells #[] 27)).size
    rcases h2 with h2 | h2 <;> omega
end Go.Proofs.YtjepaneniodbpaaGreatDoor
