/- Lists of labels, of samples, of series compared: slices.Equal, Same, model.Equal and its reference. -/
import Derived.Test.YtoogadidbbpplaaGreatNeq
namespace Go.Proofs.YtoogadidbbpplaaGreat
open Go Go.RowKit Go.Sort

theorem drop_ends {α : Type} {l1 l2 : List α} {k : Nat} (hn : l1.length = l2.length) (h : l1.length ≤ k) : l1.drop k = l2.drop k := by
  rw [List.drop_eq_nil_of_le h, List.drop_eq_nil_of_le (by omega)]

/-- the call returns whether p holds -/
def Says (e : Ending) (p : Prop) : Prop := ∃ r : Bool, e = .returned (.bool r) ∧ (r = true ↔ p)
theorem Says.yes {p : Prop} (h : p) : Says (.returned (.bool true)) p := ⟨true, rfl, by simp [h]⟩
theorem Says.no {p : Prop} (h : ¬ p) : Says (.returned (.bool false)) p := ⟨false, rfl, by simp [h]⟩
set_option maxRecDepth 100000 in
set_option maxHeartbeats 1600000 in
theorem EqualL_any (w : World) (b1 b2 : Nat) (A1 A2 : Option Addr) (n1 c1 n2 c2 : Nat) (l1 l2 : List Lab) (hn1 : n1 = l1.length) (hn2 : n2 = l2.length) (hm1 : n1 ≤ 1000000) (hm2 : n2 ≤ 1000000) (hr1 : Rd w b1 A1 (cL l1)) (hr2 : Rd w b2 A2 (cL l2)) :
    Calls Tryz.prog 41 #[.slice A1 n1 c1, .slice A2 n2 c2] w fun e w' => Says e (l1 = l2) ∧ Gr w w' := by
  subst hn1 hn2
  have HR1 := Lib.hid hr1
  have HR2 := Lib.hid hr2
  clear hr1 hr2
  by_cases hlen : l1.length = l2.length
  · have HLN := Lib.hid hlen
    have hlI : ((l1.length : Int) != (l2.length : Int)) = false := by rw [bne_eq_false_iff_eq]; omega
    go_enter Tryz.func41, Tryz.ntmps41
    go_wp2
    go_loopw [13] (fun i wr => ∃ k : Nat, k ≤ l1.length ∧ i = .int .i64 k ∧ Hid (l1 = l2 ↔ l1.drop k = l2.drop k) ∧ Hid (Gr w wr)) (fun i _ => l1.length - (intOf i).toNat)
    case atStart => exact ⟨0, by omega, rfl, Lib.hid (by simp), Lib.hid (Gr.refl _)⟩
    case round =>
      obtain ⟨k, hk, rfl, HX, HD⟩ := hrel
      by_cases hlt : k < l1.length
      · have hltI : (k : Int) < (l1.length : Int) := by omega
        have hltJ : (k : Int) < (l2.length : Int) := by omega
        obtain ⟨o1, rfl, hb1, hc0, hc1⟩ := two_at (HR1.out.nw HD.out.nw) hlt
        obtain ⟨o2, rfl, hb2, hd0, hd1⟩ := two_at (HR2.out.nw HD.out.nw) (show k < l2.length by omega)
        have hX := HX.out
        rw [drop_cons hlt, drop_cons (show k < l2.length by omega)] at hX
        have HX2 := Lib.hid hX
        generalize l1[k] = x at *
        generalize l2[k] = y at *
        obtain ⟨a, d⟩ := x
        obtain ⟨p, r⟩ := y
        dsimp only at hc0 hc1 hd0 hd1
        have q0 : ∀ p' : Gp, (grow (wr.drewN p'.n) p'.os).cell? ⟨b1, o1 + k * 2, none⟩ = some (.string a) := cell_gr hb1 hc0
        have q1 : ∀ p' : Gp, (grow (wr.drewN p'.n) p'.os).cell? ⟨b1, o1 + k * 2 + 1, none⟩ = some (.string d) := cell_gr hb1 hc1
        have q2 : ∀ p' : Gp, (grow (wr.drewN p'.n) p'.os).cell? ⟨b2, o2 + k * 2, none⟩ = some (.string p) := cell_gr hb2 hd0
        have q3 : ∀ p' : Gp, (grow (wr.drewN p'.n) p'.os).cell? ⟨b2, o2 + k * 2 + 1, none⟩ = some (.string r) := cell_gr hb2 hd1
        have nq := fun W => neqLab a d p r W
        have gq := fun W => gdLab .neq (.tmp 19) (.tmp 23) #[.string a, .string d] #[.string p, .string r] W
        obtain ⟨B, hB⟩ : ∃ B, (a.toList == p.toList && d.toList == r.toList) = B := ⟨_, rfl⟩
        rw [hB] at nq
        have HB := Lib.hid hB
        clear hX HX hlen hB hc0 hc1 hd0 hd1
        cases B with
        | false =>
          have HNE := Lib.hid (show ¬ l1 = l2 from by
            intro h
            have h2 := HX2.out.1 h
            injection h2 with h2 _
            injection h2 with h3 h4
            have h5 := HB.out
            subst h3 h4
            simp at h5)
          go_wp2_with fail
          refine wp_region_gr (by kernel_rfl) (by kernel_rfl) ?_
          repeat (go_big_quiet_step (first | fail))
          refine wpQuiet_nil ?_
          rintro _ ⟨p', rfl⟩
          have HDz := Lib.hid (HD.out.trans (⟨p', rfl⟩ : Gr wr _))
          go_wp2_with fail
          go_ret
          exact ⟨Says.no HNE.out, HDz.out⟩
        | true =>
          have HEQ := Lib.hid (show l1 = l2 ↔ l1.drop (k + 1) = l2.drop (k + 1) from by
            have h5 := HB.out
            simp only [Bool.and_eq_true, beq_iff_eq] at h5
            obtain ⟨h3, h4⟩ := h5
            obtain rfl := bytes_ext h3
            obtain rfl := bytes_ext h4
            rw [HX2.out]
            simp)
          go_wp2_with fail
          refine wp_region_gr (by kernel_rfl) (by kernel_rfl) ?_
          repeat (go_big_quiet_step (first | fail))
          refine wpQuiet_nil ?_
          rintro _ ⟨p', rfl⟩
          have HDz := Lib.hid (HD.out.trans (⟨p', rfl⟩ : Gr wr _))
          go_wp2_with fail
          go_roundw
          case rel => exact ⟨k + 1, by omega, by go_num, HEQ, HDz⟩
          case measure => simp [intOf]; omega
      · have HEQ := Lib.hid (show l1 = l2 from HX.out.2 (drop_ends HLN.out (by omega)))
        have hltI : ¬ (k : Int) < (l1.length : Int) := by omega
        have hltJ : ¬ (k : Int) < (l2.length : Int) := by omega
        go_wp2
        go_ret
        exact ⟨Says.yes HEQ.out, HD.out⟩
  · have HLN := Lib.hid hlen
    have hlI : ((l1.length : Int) != (l2.length : Int)) = true := by rw [bne_iff_ne]; omega
    go_enter Tryz.func41, Tryz.ntmps41
    go_wp2
    go_ret
    exact ⟨Says.no fun h => HLN.out (by rw [h]), Gr.refl _⟩

set_option maxRecDepth 100000 in
set_option maxHeartbeats 1600000 in
theorem EqualS_any (w : World) (b1 b2 : Nat) (A1 A2 : Option Addr) (n1 c1 n2 c2 : Nat) (l1 l2 : List Smpl) (hn1 : n1 = l1.length) (hn2 : n2 = l2.length) (hm1 : n1 ≤ 1000000) (hm2 : n2 ≤ 1000000) (hr1 : Rd w b1 A1 (cS l1)) (hr2 : Rd w b2 A2 (cS l2)) :
    Calls Tryz.prog 42 #[.slice A1 n1 c1, .slice A2 n2 c2] w fun e w' => Says e (l1 = l2) ∧ Gr w w' := by
  subst hn1 hn2
  have HR1 := Lib.hid hr1
  have HR2 := Lib.hid hr2
  clear hr1 hr2
  by_cases hlen : l1.length = l2.length
  · have HLN := Lib.hid hlen
    have hlI : ((l1.length : Int) != (l2.length : Int)) = false := by rw [bne_eq_false_iff_eq]; omega
    go_enter Tryz.func42, Tryz.ntmps42
    go_wp2
    go_loopw [13] (fun i wr => ∃ k : Nat, k ≤ l1.length ∧ i = .int .i64 k ∧ Hid (l1 = l2 ↔ l1.drop k = l2.drop k) ∧ Hid (Gr w wr)) (fun i _ => l1.length - (intOf i).toNat)
    case atStart => exact ⟨0, by omega, rfl, Lib.hid (by simp), Lib.hid (Gr.refl _)⟩
    case round =>
      obtain ⟨k, hk, rfl, HX, HD⟩ := hrel
      by_cases hlt : k < l1.length
      · have hltI : (k : Int) < (l1.length : Int) := by omega
        have hltJ : (k : Int) < (l2.length : Int) := by omega
        obtain ⟨o1, rfl, hb1, hc0, hc1⟩ := two_at (HR1.out.nw HD.out.nw) hlt
        obtain ⟨o2, rfl, hb2, hd0, hd1⟩ := two_at (HR2.out.nw HD.out.nw) (show k < l2.length by omega)
        have hX := HX.out
        rw [drop_cons hlt, drop_cons (show k < l2.length by omega)] at hX
        have HX2 := Lib.hid hX
        generalize l1[k] = x at *
        generalize l2[k] = y at *
        obtain ⟨a, d⟩ := x
        obtain ⟨p, r⟩ := y
        dsimp only at hc0 hc1 hd0 hd1
        have q0 : ∀ p' : Gp, (grow (wr.drewN p'.n) p'.os).cell? ⟨b1, o1 + k * 2, none⟩ = some (.int .i64 a) := cell_gr hb1 hc0
        have q1 : ∀ p' : Gp, (grow (wr.drewN p'.n) p'.os).cell? ⟨b1, o1 + k * 2 + 1, none⟩ = some (.int .u64 (d : Int)) := cell_gr hb1 hc1
        have q2 : ∀ p' : Gp, (grow (wr.drewN p'.n) p'.os).cell? ⟨b2, o2 + k * 2, none⟩ = some (.int .i64 p) := cell_gr hb2 hd0
        have q3 : ∀ p' : Gp, (grow (wr.drewN p'.n) p'.os).cell? ⟨b2, o2 + k * 2 + 1, none⟩ = some (.int .u64 (r : Int)) := cell_gr hb2 hd1
        have nq := fun W => neqSmp a p d r W
        have gq := fun W => gdSmp .neq (.tmp 19) (.tmp 23) #[.int .i64 a, .int .u64 (d : Int)] #[.int .i64 p, .int .u64 (r : Int)] W
        obtain ⟨B, hB⟩ : ∃ B, (a == p && (d : Int) == (r : Int)) = B := ⟨_, rfl⟩
        rw [hB] at nq
        have HB := Lib.hid hB
        clear hX HX hlen hB hc0 hc1 hd0 hd1
        cases B with
        | false =>
          have HNE := Lib.hid (show ¬ l1 = l2 from by
            intro h
            have h2 := HX2.out.1 h
            injection h2 with h2 _
            injection h2 with h3 h4
            have h5 := HB.out
            subst h3 h4
            simp at h5)
          go_wp2_with fail
          refine wp_region_gr (by kernel_rfl) (by kernel_rfl) ?_
          repeat (go_big_quiet_step (first | fail))
          refine wpQuiet_nil ?_
          rintro _ ⟨p', rfl⟩
          have HDz := Lib.hid (HD.out.trans (⟨p', rfl⟩ : Gr wr _))
          go_wp2_with fail
          go_ret
          exact ⟨Says.no HNE.out, HDz.out⟩
        | true =>
          have HEQ := Lib.hid (show l1 = l2 ↔ l1.drop (k + 1) = l2.drop (k + 1) from by
            have h5 := HB.out
            simp only [Bool.and_eq_true, beq_iff_eq] at h5
            obtain ⟨rfl, h4⟩ := h5
            obtain rfl : d = r := by omega
            rw [HX2.out]
            simp)
          go_wp2_with fail
          refine wp_region_gr (by kernel_rfl) (by kernel_rfl) ?_
          repeat (go_big_quiet_step (first | fail))
          refine wpQuiet_nil ?_
          rintro _ ⟨p', rfl⟩
          have HDz := Lib.hid (HD.out.trans (⟨p', rfl⟩ : Gr wr _))
          go_wp2_with fail
          go_roundw
          case rel => exact ⟨k + 1, by omega, by go_num, HEQ, HDz⟩
          case measure => simp [intOf]; omega
      · have HEQ := Lib.hid (show l1 = l2 from HX.out.2 (drop_ends HLN.out (by omega)))
        have hltI : ¬ (k : Int) < (l1.length : Int) := by omega
        have hltJ : ¬ (k : Int) < (l2.length : Int) := by omega
        go_wp2
        go_ret
        exact ⟨Says.yes HEQ.out, HD.out⟩
  · have HLN := Lib.hid hlen
    have hlI : ((l1.length : Int) != (l2.length : Int)) = true := by rw [bne_iff_ne]; omega
    go_enter Tryz.func42, Tryz.ntmps42
    go_wp2
    go_ret
    exact ⟨Says.no fun h => HLN.out (by rw [h]), Gr.refl _⟩

set_option maxRecDepth 100000 in
set_option maxHeartbeats 1600000 in
theorem Same_any (w : World) (b1 b2 : Nat) (A1 A2 : Option Addr) (n1 c1 n2 c2 : Nat) (l1 l2 : List Smpl) (hn1 : n1 = l1.length) (hn2 : n2 = l2.length) (hm1 : n1 ≤ 1000000) (hm2 : n2 ≤ 1000000) (hr1 : Rd w b1 A1 (cS l1)) (hr2 : Rd w b2 A2 (cS l2)) :
    Calls Tryz.prog 33 #[.slice A1 n1 c1, .slice A2 n2 c2] w fun e w' => Says e (l1 = l2) ∧ Gr w w' := by
  subst hn1 hn2
  have HR1 := Lib.hid hr1
  have HR2 := Lib.hid hr2
  clear hr1 hr2
  by_cases hlen : l1.length = l2.length
  · have HLN := Lib.hid hlen
    have hlI : ((l1.length : Int) != (l2.length : Int)) = false := by rw [bne_eq_false_iff_eq]; omega
    go_enter Tryz.func33, Tryz.ntmps33
    go_wp2
    go_loopw [5] (fun i wr => ∃ k : Nat, k ≤ l1.length ∧ i = .int .i64 k ∧ Hid (l1 = l2 ↔ l1.drop k = l2.drop k) ∧ Hid (Gr w wr)) (fun i _ => l1.length - (intOf i).toNat)
    case atStart => exact ⟨0, by omega, rfl, Lib.hid (by simp), Lib.hid (Gr.refl _)⟩
    case round =>
      obtain ⟨k, hk, rfl, HX, HD⟩ := hrel
      by_cases hlt : k < l1.length
      · have hltI : (k : Int) < (l1.length : Int) := by omega
        have hltJ : (k : Int) < (l2.length : Int) := by omega
        obtain ⟨o1, rfl, hb1, hc0, hc1⟩ := two_at (HR1.out.nw HD.out.nw) hlt
        obtain ⟨o2, rfl, hb2, hd0, hd1⟩ := two_at (HR2.out.nw HD.out.nw) (show k < l2.length by omega)
        have hX := HX.out
        rw [drop_cons hlt, drop_cons (show k < l2.length by omega)] at hX
        have HX2 := Lib.hid hX
        generalize l1[k] = x at *
        generalize l2[k] = y at *
        obtain ⟨a, d⟩ := x
        obtain ⟨p, r⟩ := y
        dsimp only at hc0 hc1 hd0 hd1
        have q0 : ∀ p' : Gp, (grow (wr.drewN p'.n) p'.os).cell? ⟨b1, o1 + k * 2, none⟩ = some (.int .i64 a) := cell_gr hb1 hc0
        have q1 : ∀ p' : Gp, (grow (wr.drewN p'.n) p'.os).cell? ⟨b1, o1 + k * 2 + 1, none⟩ = some (.int .u64 (d : Int)) := cell_gr hb1 hc1
        have q2 : ∀ p' : Gp, (grow (wr.drewN p'.n) p'.os).cell? ⟨b2, o2 + k * 2, none⟩ = some (.int .i64 p) := cell_gr hb2 hd0
        have q3 : ∀ p' : Gp, (grow (wr.drewN p'.n) p'.os).cell? ⟨b2, o2 + k * 2 + 1, none⟩ = some (.int .u64 (r : Int)) := cell_gr hb2 hd1
        have nq := fun W => neqSmp a p d r W
        have gq := fun W => gdSmp .neq (.tmp 20) (.tmp 24) #[.int .i64 a, .int .u64 (d : Int)] #[.int .i64 p, .int .u64 (r : Int)] W
        obtain ⟨B, hB⟩ : ∃ B, (a == p && (d : Int) == (r : Int)) = B := ⟨_, rfl⟩
        rw [hB] at nq
        have HB := Lib.hid hB
        clear hX HX hlen hB hc0 hc1 hd0 hd1
        cases B with
        | false =>
          have HNE := Lib.hid (show ¬ l1 = l2 from by
            intro h
            have h2 := HX2.out.1 h
            injection h2 with h2 _
            injection h2 with h3 h4
            have h5 := HB.out
            subst h3 h4
            simp at h5)
          go_wp2_with fail
          refine wp_region_gr (by kernel_rfl) (by kernel_rfl) ?_
          repeat (go_big_quiet_step (first | fail))
          refine wpQuiet_nil ?_
          rintro _ ⟨p', rfl⟩
          have HDz := Lib.hid (HD.out.trans (⟨p', rfl⟩ : Gr wr _))
          go_wp2_with fail
          go_ret
          exact ⟨Says.no HNE.out, HDz.out⟩
        | true =>
          have HEQ := Lib.hid (show l1 = l2 ↔ l1.drop (k + 1) = l2.drop (k + 1) from by
            have h5 := HB.out
            simp only [Bool.and_eq_true, beq_iff_eq] at h5
            obtain ⟨rfl, h4⟩ := h5
            obtain rfl : d = r := by omega
            rw [HX2.out]
            simp)
          go_wp2_with fail
          refine wp_region_gr (by kernel_rfl) (by kernel_rfl) ?_
          repeat (go_big_quiet_step (first | fail))
          refine wpQuiet_nil ?_
          rintro _ ⟨p', rfl⟩
          have HDz := Lib.hid (HD.out.trans (⟨p', rfl⟩ : Gr wr _))
          go_wp2_with fail
          go_roundw
          case rel => exact ⟨k + 1, by omega, by go_num, HEQ, HDz⟩
          case measure => simp [intOf]; omega
      · have HEQ := Lib.hid (show l1 = l2 from HX.out.2 (drop_ends HLN.out (by omega)))
        have hltI : ¬ (k : Int) < (l1.length : Int) := by omega
        have hltJ : ¬ (k : Int) < (l2.length : Int) := by omega
        go_wp2
        go_ret
        exact ⟨Says.yes HEQ.out, HD.out⟩
  · have HLN := Lib.hid hlen
    have hlI : ((l1.length : Int) != (l2.length : Int)) = true := by rw [bne_iff_ne]; omega
    go_enter Tryz.func33, Tryz.ntmps33
    go_wp2
    go_ret
    exact ⟨Says.no fun h => HLN.out (by rw [h]), Gr.refl _⟩

end Go.Proofs.YtoogadidbbpplaaGreat
