/- The reference of runval: Split and Put. -/
import Derived.Test.YtjepaneniodbpaaGreatDoorRef6
import Derived.Test.YtjepaneniodbpaaGreatDoorRunLaw
import Derived.Test.YtjepaneniodbpaaGreatDoorEncode
namespace Go.Proofs.YtjepaneniodbpaaGreatDoor
open Go Go.RowKit

/-- a value more behind a list of runs -/
def bump (rs : List (Nat × Nat)) (x : Nat) : List (Nat × Nat) :=
  match rs.getLast? with
  | some r => if x = r.1 ∧ r.2 < 128 then rs.dropLast ++ [(r.1, r.2 + 1)] else rs ++ [(x, 1)]
  | none => [(x, 1)]
theorem runF_ne : ∀ (l : List Nat) (v c : Nat), runF v c l ≠ [] := by
  intro l
  induction l with
  | nil => intro v c; simp [runF]
  | cons x l ih => intro v c; unfold runF; split; exact ih _ _; simp
theorem bump_cons (r : Nat × Nat) (rs : List (Nat × Nat)) (x : Nat) (h : rs ≠ []) : bump (r :: rs) x = r :: bump rs x := by
  cases rs with
  | nil => exact (h rfl).elim
  | cons a rs =>
    unfold bump
    rw [List.getLast?_cons_cons]
    cases h2 : (a :: rs).getLast? with
    | none => simp at h2
    | some q => simp only []; split <;> simp
theorem runF_snoc : ∀ (l : List Nat) (v c x : Nat), runF v c (l ++ [x]) = bump (runF v c l) x := by
  intro l
  induction l with
  | nil =>
    intro v c x
    simp only [List.nil_append, runF, bump, List.getLast?_singleton]
    split <;> simp
  | cons y l ih =>
    intro v c x
    rw [List.cons_append]
    simp only [runF]
    split
    · exact ih _ _ _
    · rw [bump_cons _ _ _ (runF_ne _ _ _), ih]
theorem runs_snoc (l : List Nat) (x : Nat) : runs (l ++ [x]) = bump (runs l) x := by
  cases l with
  | nil => simp [runs, runF, bump]
  | cons v l => exact runF_snoc l v 1 x
theorem runF_len : ∀ (l : List Nat) (v c : Nat), (runF v c l).length ≤ l.length + 1 := by
  intro l
  induction l with
  | nil => intro v c; simp [runF]
  | cons x l ih =>
    intro v c
    unfold runF
    split
    · have := ih v (c + 1); simp; omega
    · have := ih x 1; simp; omega
theorem runs_len (l : List Nat) : (runs l).length ≤ l.length := by
  cases l with
  | nil => simp [runs]
  | cons v l => have := runF_len l v 1; simpa [runs] using this
theorem runF_count : ∀ (l : List Nat) (v c : Nat), 1 ≤ c → c ≤ 128 → ∀ r ∈ runF v c l, 1 ≤ r.2 ∧ r.2 ≤ 128 := by
  intro l
  induction l with
  | nil => intro v c h1 h2 r hr; simp [runF] at hr; subst hr; exact ⟨h1, h2⟩
  | cons x l ih =>
    intro v c h1 h2 r hr
    unfold runF at hr
    split at hr
    · exact ih v (c + 1) (by omega) (by omega) r hr
    · rcases List.mem_cons.1 hr with rfl | hr
      · exact ⟨h1, h2⟩
      · exact ih x 1 (by omega) (by omega) r hr
theorem runs_count (l : List Nat) : ∀ r ∈ runs l, 1 ≤ r.2 ∧ r.2 ≤ 128 := by
  cases l with
  | nil => intro r hr; simp [runs] at hr
  | cons v l => exact runF_count l v 1 (by omega) (by omega)
theorem runF_val : ∀ (l : List Nat) (v c : Nat), ∀ r ∈ runF v c l, r.1 = v ∨ r.1 ∈ l := by
  intro l
  induction l with
  | nil => intro v c r hr; simp [runF] at hr; subst hr; exact .inl rfl
  | cons x l ih =>
    intro v c r hr
    unfold runF at hr
    split at hr
    · rcases ih v (c + 1) r hr with h | h
      · exact .inl h
      · exact .inr (List.mem_cons_of_mem _ h)
    · rcases List.mem_cons.1 hr with rfl | hr
      · exact .inl rfl
      · rcases ih x 1 r hr with h | h
        · exact .inr (by rw [h]; exact List.mem_cons_self)
        · exact .inr (List.mem_cons_of_mem _ h)
theorem runs_val (l : List Nat) : ∀ r ∈ runs l, r.1 ∈ l := by
  cases l with
  | nil => intro r hr; simp [runs] at hr
  | cons v l =>
    intro r hr
    rcases runF_val l v 1 r hr with h | h
    · rw [h]; exact List.mem_cons_self
    · exact List.mem_cons_of_mem _ h

theorem E_int : ElemT Tryz.prog 144 3 (.int .i64 0) 1 8 := ElemT.mk' Tryz.underlying144 (by kernel_rfl) rfl (by omega)

/-- the runs of a list lie in two rows -/
def Spl (w wr : World) (rs : List (Nat × Nat)) (b1 : Nat) (A1 : Option Addr) (c1 : Nat) (b2 : Nat) (A2 : Option Addr) (c2 : Nat) : Prop :=
  Ow wr b1 25 1 A1 rs.length c1 (cN .u64 (rs.map (·.1))) ∧ Ow wr b2 3 1 A2 rs.length c2 (cN .i64 (rs.map (·.2))) ∧ (rs = [] → A1 = none ∧ c1 = 0 ∧ A2 = none ∧ c2 = 0) ∧ (rs ≠ [] → w.heap.size ≤ b1 ∧ w.heap.size ≤ b2 ∧ b1 ≠ b2) ∧ Nw w wr

theorem last_get {α : Type} {rs : List α} {r : α} (h : rs.getLast? = some r) : 0 < rs.length ∧ rs[rs.length - 1]? = some r := by
  have : rs ≠ [] := by rintro rfl; simp at h
  exact ⟨List.length_pos_iff.2 this, by rw [← h, List.getLast?_eq_getElem?]⟩
theorem bump_yes {rs : List (Nat × Nat)} {v c : Nat} (h : rs.getLast? = some (v, c)) (hc : c < 128) : bump rs v = rs.dropLast ++ [(v, c + 1)] := by
  unfold bump; rw [h]; simp [hc]
theorem bump_no {rs : List (Nat × Nat)} {x : Nat} (h : ∀ v c, rs.getLast? = some (v, c) → ¬ (x = v ∧ c < 128)) : bump rs x = rs ++ [(x, 1)] := by
  unfold bump
  cases e : rs.getLast? with
  | none => rw [List.getLast?_eq_none_iff.1 e]; rfl
  | some r => simp only []; rw [if_neg (h r.1 r.2 e)]
theorem set_last {α : Type} (rs : List α) (a : α) (h : 0 < rs.length) : rs.set (rs.length - 1) a = rs.dropLast ++ [a] := by
  have hne : rs ≠ [] := List.length_pos_iff.1 h
  obtain ⟨d, z, rfl⟩ : ∃ d z, rs = d ++ [z] := ⟨_, _, (List.dropLast_concat_getLast hne).symm⟩
  simp

theorem set_fst {rs : List (Nat × Nat)} {v c : Nat} (h : rs.getLast? = some (v, c)) (d : Nat) : (rs.set (rs.length - 1) (v, d)).map (·.1) = rs.map (·.1) := by
  have hne : rs ≠ [] := by rintro rfl; simp at h
  obtain ⟨e, z, rfl⟩ : ∃ e z, rs = e ++ [z] := ⟨_, _, (List.dropLast_concat_getLast hne).symm⟩
  obtain rfl : z = (v, c) := by simpa using h
  simp

set_option maxRecDepth 100000 in
set_option maxHeartbeats 1600000 in
theorem RSplit_any (w : World) (bl : Nat) (Al : Option Addr) (n cl : Nat) (l : List Nat) (hn : n = l.length) (hm : n ≤ 10000) (hr : Rd w bl Al (cN .u64 l)) (hx : ∀ x ∈ l, x < 18446744073709551616) :
    Calls Tryz.prog 81 #[.slice Al n cl] w fun e w' => ∃ b1 A1 c1 b2 A2 c2, e = .returned (.tuple #[.slice A1 (runs l).length c1, .slice A2 (runs l).length c2]) ∧ Spl w w' (runs l) b1 A1 c1 b2 A2 c2 := by
  subst hn
  have HR := Lib.hid hr
  have HX := Lib.hid fun (k v : Nat) (h : l[k]? = some v) => hx v (List.mem_of_getElem? h)
  clear hr hx
  go_enter Tryz.func81, Tryz.ntmps81
  go_wp2
  go_loopw [4, 5, 6] (fun s u i wr => ∃ k : Nat, k ≤ l.length ∧ i = .int .i64 k ∧ ∃ (rs : List (Nat × Nat)) (b1 : Nat) (A1 : Option Addr) (c1 b2 : Nat) (A2 : Option Addr) (c2 : Nat), s = .slice A1 rs.length c1 ∧ u = .slice A2 rs.length c2 ∧ Spl w wr rs b1 A1 c1 b2 A2 c2 ∧ Hid (rs = runs (l.take k))) (fun _ _ i _ => l.length - (intOf i).toNat)
  case atStart => exact ⟨0, by omega, rfl, [], w.heap.size, none, 0, w.heap.size, none, 0, rfl, rfl, ⟨Ow.nil _ _ _ _, Ow.nil _ _ _ _, fun _ => ⟨rfl, rfl, rfl, rfl⟩, by simp, Nw.refl w⟩, Lib.hid (by simp [runs])⟩
  case round =>
    obtain ⟨k, hk, rfl, rs, b1, A1, c1, b2, A2, c2, rfl, rfl, hS, hrs⟩ := hrel
    by_cases hlt : k < l.length
    · obtain ⟨hO1, hO2, hnil, hb12, hN⟩ := hS
      have hsz := hN.size
      have hlen : rs.length ≤ k := by
        have := runs_len (l.take k)
        rw [← hrs.out, List.length_take] at this
        omega
      obtain ⟨o, rfl, _, hc⟩ := (HR.out.nw hN).get (k := k) (by simpa using hlt)
      rw [List.getElem_map] at hc
      have HV := Lib.hid (List.getElem?_eq_getElem hlt)
      have HNX := Lib.hid (show runs (l.take (k + 1)) = bump rs l[k] from by rw [List.take_succ_eq_append_getElem hlt, runs_snoc, hrs.out])
      have HR1 := Lib.hid (show ∀ wz, Nw wr wz → wz.cell? ⟨bl, o + k, none⟩ = some (.int .u64 (l[k] : Int)) from fun wz h => cell_old h (by have := hN.size; omega) hc)
      generalize l[k] = x at *
      have hxx : x < 18446744073709551616 := HX.out k x HV.out
      cases hlast : rs.getLast? with
      | none =>
        have hrs0 : rs = [] := List.getLast?_eq_none_iff.1 hlast
        subst hrs0
        have hnx : runs (l.take (k + 1)) = [(x, 1)] := HNX.out
        have HNX2 := Lib.hid hnx.symm
        obtain ⟨rfl, rfl, rfl, rfl⟩ := hnil rfl
        clear hlast hO1 hO2 hnx HNX hrs hb12
        go_wp2_with fail
        refine wp_region_quiet_lit (by kernel_rfl) (by kernel_rfl) ?_
        repeat (with_reducible refine wpQuiet_step ?_; intro K hK; go_simp; refine hK _ ?_; clear hK K)
        with_reducible refine wpQuiet_nil ?_
        rintro _ ⟨nq, rfl⟩
        have hc' := HR1.out _ (Nw.drewN wr nq)
        have hNq := hN.trans (Nw.drewN wr nq)
        generalize World.drewN wr nq = wq at *
        clear hc hN
        go_wp2_with (first
          | (at_builtin; refine wpList_app1 E_u64 rfl (.tmp 43) (.tmp 48) rfl rfl (Ow.nil wq wq.heap.size _ _) rfl rfl (by omega) (by omega) ?_; intro b3 A3 c3 w3 h1 h2 h3 h4)
          | (at_builtin; refine wpList_app1 E_int rfl (.tmp 50) (.tmp 51) rfl rfl (Ow.nil w3 w3.heap.size _ _) rfl rfl (by omega) (by omega) ?_; intro b4 A4 c4 w4 h5 h6 h7 h8))
        go_roundw
        case rel =>
          have hn3 := (h4 rfl).1
          have hn4 := (h8 rfl).1
          have hl3 : b3 < w3.heap.size := h1.lt (by omega)
          have hs := hNq.size
          have := (h4 rfl).2
          have := (h8 rfl).2
          have := hn3.size
          exact ⟨k + 1, by omega, by go_num, [(x, 1)], b3, A3, c3, b4, A4, c4, rfl, rfl, ⟨h1.nw hn4, h5, by simp, fun _ => ⟨by omega, by omega, by omega⟩, (hNq.trans hn3).trans hn4⟩, HNX2⟩
        case measure => simp [intOf]; omega
      | some r =>
        obtain ⟨v, c⟩ := r
        obtain ⟨hl0, hlg⟩ := last_get hlast
        have hne : rs ≠ [] := List.length_pos_iff.1 hl0
        obtain ⟨hb1, hb2, hbb⟩ := hb12 hne
        obtain ⟨rfl, hb1w, hc1, _⟩ := hO1.at_ (j := rs.length - 1) (by omega)
        obtain ⟨rfl, hb2w, hc2, hf2⟩ := hO2.at_ (j := rs.length - 1) (by omega)
        rw [List.getElem?_map, List.getElem?_map, hlg] at hc1 hc2
        simp only [Option.map_some] at hc1 hc2
        have HO1 := Lib.hid hO1
        have HO2 := Lib.hid hO2
        have HNE := Lib.hid hne
        have HGL := Lib.hid hlast
        have i0 : (0 : Int) ≤ (rs.length : Int) - 1 := by omega
        have i1 : (rs.length : Int) - 1 < (rs.length : Int) := by omega
        have i2 : ((rs.length : Int) - 1).toNat = rs.length - 1 := by omega
        have i3 : (1 : Int) ≤ (rs.length : Int) := by omega
        have i4 : decide ((1 : Int) ≤ (rs.length : Int)) = true := by simp; omega
        have hcnt : c ≤ 128 := by
          have h := runs_count (l.take k) (v, c) (by rw [← hrs.out]; exact List.mem_of_getElem? hlg)
          exact h.2
        have HGG := Lib.hid hlg
        clear hnil hb12 hlast hlg hne hO1 hO2 hf2
        by_cases hvx : v = x
        · subst hvx
          have hvv : ((v : Int) == (v : Int)) = true := by simp
          by_cases hlt2 : c < 128
          · have hcI : (c : Int) < 128 := by omega
            have hcd : decide ((c : Int) < 128) = true := by simp; omega
            have HNX2 := Lib.hid (show rs.set (rs.length - 1) (v, c + 1) = runs (l.take (k + 1)) from by rw [HNX.out, bump_yes HGL.out hlt2, set_last _ _ hl0])
            go_wp2_with fail
            go_quiet (fail)
            have hNd := Nw.drewN wr nq
            have HW1 := Lib.hid (HO1.out.nw hNd)
            have HW2 := Lib.hid (HO2.out.nw hNd)
            have HNN := Lib.hid (hN.trans hNd)
            obtain ⟨_, _, hc2', hf2'⟩ := HW2.out.at_ (j := rs.length - 1) (by omega)
            rw [List.getElem?_map, List.getElem?_map, HGG.out] at hc2'
            simp only [Option.map_some] at hc2'
            clear hc hc1 hc2 hN
            generalize World.drewN wr nq = wq at *
            clear hNd
            go_wp2_with fail
            go_roundw
            case rel =>
              have hrl : rs.length = (rs.set (rs.length - 1) (v, c + 1)).length := by simp
              have k1 : Kp b2 b2 wq (wq.setCell ⟨b2, rs.length - 1, none⟩ (.int .i64 ((c : Int) + 1))) := (Kp.refl b2 b2 wq).setCell' (.inl rfl) _
              refine ⟨k + 1, by omega, by go_num, rs.set (rs.length - 1) (v, c + 1), b1, _, c1, b2, _, c2, by rw [← hrl], by rw [← hrl], ⟨?_, ?_, ?_, fun _ => ⟨hb1, hb2, hbb⟩, Kp.nw HNN.out k1 hb2 hb2⟩, HNX2⟩
              · have h := HW1.out.kp k1 hbb hbb
                rw [← hrl]
                rw [set_fst HGL.out]
                exact h
              · have h := HW2.out.set_ (rs.length - 1) (.int .i64 ((c : Int) + 1))
                rw [← hrl, List.map_set]
                unfold cN
                rw [List.map_set]
                exact h
              · intro h; exact absurd ((List.set_eq_nil_iff _ _).1 h) HNE.out
            case measure => simp [intOf]; omega
          · have hcd : decide ((c : Int) < 128) = false := by simp; omega
            have HNX2 := Lib.hid (show rs ++ [(v, 1)] = runs (l.take (k + 1)) from by rw [HNX.out, bump_no (by intro v' c' e h; rw [HGL.out] at e; injection e with e; injection e with e1 e2; omega)])
            go_wp2_with fail
            refine wp_region_quiet_lit (by kernel_rfl) (by kernel_rfl) ?_
            repeat (with_reducible refine wpQuiet_step ?_; intro K hK; go_simp; refine hK _ ?_; clear hK K)
            with_reducible refine wpQuiet_nil ?_
            rintro _ ⟨nq, rfl⟩
            have hNd := Nw.drewN wr nq
            have HW1 := Lib.hid (HO1.out.nw hNd)
            have HW2 := Lib.hid (HO2.out.nw hNd)
            have HNN := Lib.hid (hN.trans hNd)
            have hc' := HR1.out _ hNd
            have hsw := hNd.size
            have hsn := HNN.out.size
            clear hc hc1 hc2 hN
            generalize World.drewN wr nq = wq at *
            clear hNd
            go_wp2_with (first
              | (at_builtin; refine wpList_app1 E_u64 rfl (.tmp 43) (.tmp 48) rfl rfl HW1.out rfl rfl (by omega) (by omega) ?_; intro b3 A3 c3 w3 h1 h2 h3 h4; have HW3 := Lib.hid (HW2.out.kp h3 (Ne.symm hbb) (Ne.symm hbb)))
              | (at_builtin; refine wpList_app1 E_int rfl (.tmp 50) (.tmp 51) rfl rfl HW3.out rfl rfl (by omega) (by omega) ?_; intro b4 A4 c4 w4 h5 h6 h7 h8))
            go_roundw
            case rel =>
              have hl3 : b3 < w3.heap.size := h1.lt (by omega)
              have hs3 := h3.size
              refine ⟨k + 1, by omega, by go_num, rs ++ [(v, 1)], b3, A3, c3, b4, A4, c4, by rw [List.length_append]; rfl, by rw [List.length_append]; rfl, ⟨?_, ?_, by simp, fun _ => ⟨by omega, by omega, by omega⟩, Kp.nw (Kp.nw HNN.out h3 hb1 hb1) h7 hb2 hb2⟩, HNX2⟩
              · have h := h1.kp h7 (by omega) (by omega)
                rw [List.length_append, List.map_append]
                simpa using h
              · rw [List.length_append, List.map_append]
                simpa using h5
            case measure => simp [intOf]; omega
        · have hvv : ((v : Int) == (x : Int)) = false := by rw [beq_eq_false_iff_ne]; omega
          have HNX2 := Lib.hid (show rs ++ [(x, 1)] = runs (l.take (k + 1)) from by rw [HNX.out, bump_no (by intro v' c' e h; rw [HGL.out] at e; injection e with e; injection e with e1 e2; omega)])
          go_wp2_with fail
          refine wp_region_quiet_lit (by kernel_rfl) (by kernel_rfl) ?_
          repeat (with_reducible refine wpQuiet_step ?_; intro K hK; go_simp; refine hK _ ?_; clear hK K)
          with_reducible refine wpQuiet_nil ?_
          rintro _ ⟨nq, rfl⟩
          have hNd := Nw.drewN wr nq
          have HW1 := Lib.hid (HO1.out.nw hNd)
          have HW2 := Lib.hid (HO2.out.nw hNd)
          have HNN := Lib.hid (hN.trans hNd)
          have hc' := HR1.out _ hNd
          have hsw := hNd.size
          have hsn := HNN.out.size
          clear hc hc1 hc2 hN
          generalize World.drewN wr nq = wq at *
          clear hNd
          go_wp2_with (first
            | (at_builtin; refine wpList_app1 E_u64 rfl (.tmp 43) (.tmp 48) rfl rfl HW1.out rfl rfl (by omega) (by omega) ?_; intro b3 A3 c3 w3 h1 h2 h3 h4; have HW3 := Lib.hid (HW2.out.kp h3 (Ne.symm hbb) (Ne.symm hbb)))
            | (at_builtin; refine wpList_app1 E_int rfl (.tmp 50) (.tmp 51) rfl rfl HW3.out rfl rfl (by omega) (by omega) ?_; intro b4 A4 c4 w4 h5 h6 h7 h8))
          go_roundw
          case rel =>
            have hl3 : b3 < w3.heap.size := h1.lt (by omega)
            have hs3 := h3.size
            refine ⟨k + 1, by omega, by go_num, rs ++ [(x, 1)], b3, A3, c3, b4, A4, c4, by rw [List.length_append]; rfl, by rw [List.length_append]; rfl, ⟨?_, ?_, by simp, fun _ => ⟨by omega, by omega, by omega⟩, Kp.nw (Kp.nw HNN.out h3 hb1 hb1) h7 hb2 hb2⟩, HNX2⟩
            · have h := h1.kp h7 (by omega) (by omega)
              rw [List.length_append, List.map_append]
              simpa using h
            · rw [List.length_append, List.map_append]
              simpa using h5
          case measure => simp [intOf]; omega
    · obtain rfl : k = l.length := by omega
      go_wp2
      go_ret2
      obtain rfl : rs = runs l := by rw [hrs.out, List.take_length]
      exact ⟨b1, A1, c1, b2, A2, c2, rfl, hS⟩

theorem rbits_take {rs : List (Nat × Nat)} {k : Nat} {r : Nat × Nat} (h : rs[k]? = some r) : (rs.take (k + 1)).flatMap rbits = (rs.take k).flatMap rbits ++ (bitsOf r.1 64 ++ bitsOf (r.2 - 1) 7) := by
  obtain ⟨hlt, rfl⟩ := List.getElem?_eq_some_iff.1 h
  rw [List.take_succ_eq_append_getElem hlt, List.flatMap_append]
  simp [rbits]

set_option maxRecDepth 100000 in
set_option maxHeartbeats 1600000 in
theorem RRPut_any (w : World) (b bl : Nat) (A Al : Option Addr) (m c n cl : Nat) (bs : List Bool) (l : List Nat) (hO : Ow w b 4 1 A m c (cB bs)) (hn : n = l.length) (hm : n ≤ 10000) (hb : m ≤ 1000000000) (hbw : b < w.heap.size)
    (hr : Rd w bl Al (cN .u64 l)) (hx : ∀ x ∈ l, x < 18446744073709551616) :
    Calls Tryz.prog 50 #[.slice A m c, .slice Al n cl] w (AppR w b A m bs (rput l)) := by
  have HO := Lib.hid hO
  have HSp := Lib.hid (RSplit_any w bl Al n cl l hn hm hr hx)
  have hlen := runs_len l
  have HC := Lib.hid fun (k : Nat) (r : Nat × Nat) (h : (runs l)[k]? = some r) => runs_count l r (List.mem_of_getElem? h)
  have HV := Lib.hid fun (k : Nat) (r : Nat × Nat) (h : (runs l)[k]? = some r) => hx r.1 (runs_val l r (List.mem_of_getElem? h))
  have HRP := Lib.hid (show rput l = (runs l).flatMap rbits from rfl)
  generalize rput l = R at *
  generalize runs l = rs at *
  subst hn
  have hlen2 : rs.length ≤ 10000 := by omega
  clear hO hr hx hlen
  go_enter Tryz.func50, Tryz.ntmps50
  go_wp2_with (go_at_call 81; refine HSp.out.mono ?_; rintro e w1 ⟨b1, A1, c1, b2, A2, c2, rfl, hSp⟩)
  have HS := Lib.hid hSp
  have HSt := Lib.hid ((Bst.start HO.out).nw hSp.2.2.2.2)
  clear hSp
  go_loopw [0, 7] (fun s i wr => ∃ k : Nat, k ≤ rs.length ∧ i = .int .i64 k ∧ ∃ (M bk : Nat) (Ak : Option Addr) (ck : Nat), s = .slice Ak M ck ∧ Hid (Bst w1 b A m bs wr bk Ak M ck ((rs.take k).flatMap rbits))) (fun _ i _ => rs.length - (intOf i).toNat)
  case atStart => exact ⟨0, by omega, rfl, m, b, A, c, rfl, Lib.hid (Bst.start (HO.out.nw HS.out.2.2.2.2))⟩
  case round =>
    obtain ⟨k, hk, rfl, M, bk, Ak, ck, rfl, HT⟩ := hrel
    have hfl : ((rs.take k).flatMap rbits).length ≤ 71 * 10000 := by
      have : ∀ q : List (Nat × Nat), (q.flatMap rbits).length = 71 * q.length := by
        intro q
        induction q with
        | nil => rfl
        | cons a q ih => rw [List.flatMap_cons, List.length_append, ih]; simp [rbits, bitsOf_length]; omega
      rw [this, List.length_take]
      omega
    have hMb : M ≤ m + 710000 := by have := HT.out.len; omega
    clear hfl
    have hs1 := HS.out.2.2.2.2.size
    have hsk := HT.out.kp.size
    by_cases hlt : k < rs.length
    · have hne : rs ≠ [] := by rintro rfl; simp at hlt
      obtain ⟨hb1, hb2, hbb⟩ := HS.out.2.2.2.1 hne
      have hl1 := HS.out.1.lt (by omega)
      have hl2 := HS.out.2.1.lt (by omega)
      have hk1 := HT.out.kp
      have HG := Lib.hid (List.getElem?_eq_getElem hlt)
      obtain ⟨o1, rfl, _, hc1⟩ := (HS.out.1.rd.kp hk1 (by omega) (by omega)).get (k := k) (by simpa using hlt)
      obtain ⟨o2, e2, _, hc2⟩ := HS.out.2.1.rd.get (k := k) (by simpa using hlt)
      subst e2
      simp only [List.getElem_map] at hc1 hc2
      generalize hr : rs[k] = r at *
      obtain ⟨v, q⟩ := r
      simp only [] at hc1 hc2
      have hq := HC.out k _ HG.out
      have hv : v < 18446744073709551616 := HV.out k _ HG.out
      simp only [] at hq
      have HF := Lib.hid (rbits_take HG.out)
      have e1 : IntKind.u64.wrap ((q : Int) - 1) = ((q - 1 : Nat) : Int) := by rw [IntWalk.u64_in _ (by omega)]; omega
      have HC2 := Lib.hid fun (wz : World) (h : Kp b b w1 wz) => (World.cell?_of_block (a := ⟨b2, o2 + k, none⟩) (h.block b2 hl2 (by omega) (by omega))).trans hc2
      clear hc2 hk1
      clear hr hne
      go_wp2_with (first
        | (go_at_call 52; refine (HT3.out.write _ _ (q - 1) 7 rfl rfl (by omega) (by omega) (by omega)).mono ?_; rintro e w4 ⟨b4, A4, c4, rfl, h4⟩; have HT4 := Lib.hid h4; clear h4)
        | (go_at_call 52; refine (HT.out.write _ _ v 64 rfl rfl (by omega) hv (by omega)).mono ?_; rintro e w3 ⟨b3, A3, c3, rfl, h4⟩; have HT3 := Lib.hid h4; have hc2 := HC2.out _ h4.kp; clear h4))
      go_roundw
      case rel => exact ⟨k + 1, Nat.succ_le_of_lt hlt, by go_num, _, b4, A4, c4, rfl, by rw [HF.out, ← List.append_assoc]; exact HT4⟩
      case measure => simp [intOf]; omega
    · obtain rfl : k = rs.length := by omega
      go_wp2
      go_ret
      have h := HT.out
      rw [List.take_length, ← HRP.out] at h
      obtain ⟨b', A', c', h1, h2, h3, h4, h5⟩ := h.done
      exact ⟨b', A', c', h1, h2, by omega, (HS.out.2.2.2.2.kp b b).trans h4 (.inl rfl) (.inl rfl), fun e => ⟨HS.out.2.2.2.2.trans (h5 e).1, by rcases (h5 e).2 with h | h; exact .inl (by omega); exact .inr h⟩⟩
end Go.Proofs.YtjepaneniodbpaaGreatDoor
