/- DictvalForgetsOrder: the dictionary and the size do not depend on the order of the values. No condition. -/
import Derived.Test.YtbdpimnbjonhlaaLawIn
import Derived.Test.YtbdpimnbjonhlaaDvAll
import Derived.Test.YtbdpimnbjonhlaaRev
import Derived.Test.YtbdpimnbjonhlaaConcat
import Derived.Deep.RegionWith
namespace Go.Proofs.Ytbdpimnbjonhlaa
open Go Go.RowKit

theorem dict_perm {a b : List Nat} (h : ∀ x, x ∈ a ↔ x ∈ b) : dict a = dict b :=
  dict_eq b (dict a) (dict_asc a) fun x => by rw [dict_mem, h]

theorem cell_one_at (w : World) {cs : Array Value} {t : TypeId} {u : Value} (j : Nat) (h : cs[j]? = some u) : ((w.alloc (.cells cs t)).drew).cell? ⟨w.heap.size, j, none⟩ = some u := by
  show (w.alloc (.cells cs t)).cell? _ = _
  simp only [World.cell?, heap_alloc_new]
  exact h
theorem rd_drop {w : World} {b o i : Nat} {xs : List Value} (h : Rd w b (some ⟨b, o, none⟩) xs) : Rd w b (some ⟨b, o + i, none⟩) (xs.drop i) := by
  rcases h with rfl | ⟨o', e, hlt, hc⟩
  · exact .inl (by simp)
  · injection e with e
    injection e with _ e _
    subst e
    refine .inr ⟨o + i, rfl, hlt, fun j u hu => ?_⟩
    rw [Nat.add_assoc]
    exact hc _ u (by rw [← hu, List.getElem?_drop])
theorem szOf_perm {a b : List Nat} (hd : dict a = dict b) (hl : a.length = b.length) : szOf a = szOf b := by unfold szOf; rw [hd, hl]

set_option maxRecDepth 100000 in
set_option maxHeartbeats 3200000 in
theorem DictvalForgetsOrder_walk (a0 : Option Addr) (len0 cap0 : Nat) (z0 : List Int) (a1 : Int) (w : World) (w0 : IsRow .u64 w a0 len0 cap0 z0) (w1 : (Lit.int .u16 a1).wf = true) :
    Calls Try.prog 8 #[.slice a0 len0 cap0, .int .u16 a1] w fun e w' => e = .returned (.bool true) ∧ Below w.heap.size w w' := by
  obtain ⟨b, l, hI, hx⟩ := InRow.u64 w0
  obtain ⟨hc0, hc1⟩ := bounds_u16 w1
  clear w0 w1
  by_cases hbig : 400 < len0
  · go_enter Try.func8, Try.ntmps8
    go_wp2_with (go_at_call 9; refine (alive_any _).mono ?_; rintro e w1 ⟨rfl, hN⟩)
    go_ret
    exact ⟨rfl, hN⟩
  · by_cases hz : len0 = 0
    · have hz2 : ((len0 : Int) == 0) = true := by rw [beq_iff_eq]; omega
      clear hz
      go_enter Try.func8, Try.ntmps8
      go_wp2_with (go_at_call 9; refine (alive_any _).mono ?_; rintro e w1 ⟨rfl, hN⟩)
      go_ret
      exact ⟨rfl, hN⟩
    · have hz2 : ((len0 : Int) == 0) = false := by rw [beq_eq_false_iff_ne]; omega
      have hz3 : (0 : Int) < (len0 : Int) := by omega
      have hlen := hI.len
      have hcap := hI.cap
      have hcm := hI.max
      have hrd := hI.rd
      have hnil := hI.nil
      have hlpos : 0 < l.length := by omega
      obtain ⟨m, rfl⟩ : ∃ m : Nat, a1 = (m : Int) := ⟨a1.toNat, by omega⟩
      obtain ⟨i, hi, hil⟩ : ∃ i : Nat, (m : Int) % (len0 : Int) = (i : Int) ∧ i < len0 := ⟨m % len0, by simp, Nat.mod_lt _ (by omega)⟩
      obtain ⟨o, rfl, hbl, _⟩ := hrd.get (k := 0) (by simpa [cN] using hlpos)
      have HI := Lib.hid (And.intro hI hx)
      have HL := Lib.hid hlen
      have HM := Lib.hid hi
      have i1 : (i : Int) < (len0 : Int) := by omega
      have i2 : ¬ cap0 = i := by omega
      have i3 : (i : Int) ≤ (cap0 : Int) := by omega
      clear hI hx hlen hrd hnil hi hz
      have hN1 : Nw w (w.alloc (.cells #[.slice (some ⟨b, o + i, none⟩) (len0 - i) (cap0 - i), .slice (some ⟨b, o, none⟩) i cap0] 22)).drew := Nw.trans ((Nw.refl w).alloc' _) (Nw.drew1 _)
      have hCt := Concat_any (w.alloc (.cells #[.slice (some ⟨b, o + i, none⟩) (len0 - i) (cap0 - i), .slice (some ⟨b, o, none⟩) i cap0] 22)).drew w.heap.size b (some ⟨b, o + i, none⟩) (some ⟨b, o, none⟩) (len0 - i) i (cap0 - i) cap0 (l.drop i) (l.take i)
        (cell_one_at w 0 rfl) (cell_one_at w 1 rfl) (by show w.heap.size < (w.alloc _).heap.size; simp) (by rw [List.length_drop, HL.out]) (by rw [List.length_take, ← HL.out]; omega) (by omega)
        (by have h := (rd_drop (i := i) (HI.out.1.rd)).nw hN1; rwa [← List.map_drop] at h) (by have h := (HI.out.1.rd.take i).nw hN1; rwa [← List.map_take] at h) (fun h => by cases h) (fun h => by cases h)
      rw [Nat.sub_add_cancel (Nat.le_of_lt hil)] at hCt
      have HCt := Lib.hid hCt
      have hmem : ∀ x, x ∈ l.drop i ++ l.take i ↔ x ∈ l := by
        intro x
        rw [List.mem_append, Or.comm, ← List.mem_append, List.take_append_drop]
      have hmlen : (l.drop i ++ l.take i).length = len0 := by rw [List.length_append, List.length_drop, List.length_take, HL.out]; omega
      generalize l.drop i ++ l.take i = M at *
      have HMM := Lib.hid (And.intro hmem hmlen)
      clear hCt hmem hmlen
      go_enter Try.func8, Try.ntmps8
      go_wp2_with fail
      rw [HM.out]
      go_region_with (go_at_call 32; refine HCt.out.mono ?_; rintro e w1 ⟨b1, A1, c1, rfl, hO1, hb1, hN11⟩)
      have hN2 := hN1.trans hN11
      have hs1 := hN1.size
      have hs2 := hN11.size
      obtain ⟨rfl, hb1l, _⟩ := hO1.at_ (j := 0) (by omega)
      have hDv : Dv w1 b1 c1 M.toArray := by
        unfold Dv
        rw [List.size_toArray, HMM.out.2]
        exact hO1
      have hRv := Reverse_any w1 b1 c1 M.toArray hDv (by rw [List.size_toArray, HMM.out.2]; omega)
      rw [List.size_toArray, HMM.out.2] at hRv
      have HRv := Lib.hid hRv
      clear hRv hDv hO1 HCt
      go_wp2_with fail
      refine HRv.out.mono ?_
      rintro e w2 ⟨rfl, d', hD2, hs', hP2, hK2⟩
      have hN3 : Nw w w2 := Kp.nw hN2 hK2 (by omega) (by omega)
      have hO2 : Ow w2 b1 25 1 (some ⟨b1, 0, none⟩) len0 c1 (cN .u64 d'.toList) := by
        unfold Dv at hD2
        rwa [hs'] at hD2
      have hmem2 : ∀ x, x ∈ d'.toList ↔ x ∈ l := fun x => by rw [hP2.mem_iff]; exact HMM.out.1 x
      have hlen2 : d'.toList.length = len0 := by rw [Array.length_toList, hs']
      generalize d'.toList = T at *
      have HT := Lib.hid (And.intro hmem2 hlen2)
      have HO2 := Lib.hid hO2
      have HDT := Lib.hid (dict_perm hmem2)
      have HST := Lib.hid (szOf_perm (dict_perm hmem2) (by rw [hlen2, HL.out]))
      have HD := Lib.hid (Dictionary_any w2 b (some ⟨b, o, none⟩) len0 cap0 l HL.out (by omega) (HI.out.1.rd.nw hN3) HI.out.2)
      have hdlen := dict_length l
      have hdl4 : (dict l).length ≤ 400 := by have := HL.out; omega
      clear hD2 hs' hP2 hmem2 hlen2 hO2 HRv HMM hdlen
      go_wp2_with fail
      refine HD.out.mono ?_
      rintro e w3 ⟨b3, c3, rfl, hO3, hb3, hN23⟩
      have HO3 := Lib.hid hO3
      have hN4 := hN3.trans hN23
      have HDM := Lib.hid (dict_mem l)
      clear hO3 HD
      generalize hdd : dict l = D at *
      have HDD := Lib.hid hdd
      clear hdd
      go_wp2_with fail
      go_loop [38] (fun v => ∃ k : Nat, k ≤ len0 ∧ v = .int .i64 k) (fun v => len0 - (intOf v).toNat)
      case atStart => exact ⟨0, by omega, rfl⟩
      case round =>
        obtain ⟨k, hk, rfl⟩ := hrel
        by_cases hlt : k < len0
        · have hkl : k < l.length := by have := HL.out; omega
          obtain ⟨o', ho', _, hck⟩ := (HI.out.1.rd.nw hN4).get (k := k) (by simpa [cN] using hkl)
          injection ho' with ho'
          injection ho' with _ ho' _
          subst ho'
          rw [List.getElem_map] at hck
          have hct := Contains_any w3 b3 (some ⟨b3, 0, none⟩) D.length c3 D l[k] rfl (by omega) HO3.out.rd
          rw [decide_eq_true ((HDM.out _).2 (List.getElem_mem hkl))] at hct
          have HCn := Lib.hid hct
          have hkl2 : (k : Int) < (len0 : Int) := by omega
          clear hct
          go_wp2_with (go_at_call 34; refine HCn.out.mono ?_; rintro e w' ⟨rfl, hw'⟩; subst hw')
          go_round
          case rel => exact ⟨k + 1, by omega, by go_num⟩
          case measure => simp [intOf]; omega
        · obtain rfl : k = len0 := by omega
          go_wp2_with fail
          refine (alive_any _).mono ?_
          rintro e w4 ⟨rfl, hN34⟩
          have hD4 := Dictionary_any w4 b1 (some ⟨b1, 0, none⟩) k c1 T HT.out.2.symm (by omega) ((HO2.out.nw hN23).nw hN34).rd (fun x hx => HI.out.2 x ((HT.out.1 x).1 hx))
          rw [HDT.out] at hD4
          have HD4 := Lib.hid hD4
          clear hD4
          go_wp2_with fail
          refine HD4.out.mono ?_
          rintro e w5 ⟨b5, c5, rfl, hO5, hb5, hN45⟩
          have HE := Lib.hid (Equal_same w5 b3 b5 (some ⟨b3, 0, none⟩) (some ⟨b5, 0, none⟩) D.length c3 D.length c5 D rfl rfl (by omega) ((HO3.out.nw hN34).nw hN45).rd hO5.rd)
          have hN5 := (hN4.trans hN34).trans hN45
          have hN35 := hN34.trans hN45
          clear hO5
          go_wp2_with fail
          refine HE.out.mono ?_
          rintro e w6 ⟨rfl, hD6⟩
          have HS1 := Lib.hid (Size_any w6 b (some ⟨b, o, none⟩) k cap0 l HL.out (by omega) ((HI.out.1.rd.nw hN5).nw hD6.nw) HI.out.2)
          go_wp2_with fail
          refine HS1.out.mono ?_
          rintro e w7 ⟨rfl, hN67⟩
          have hS2 := Size_any w7 b1 (some ⟨b1, 0, none⟩) k c1 T HT.out.2.symm (by omega) ((((HO2.out.nw hN23).nw hN35).nw hD6.nw).nw hN67).rd (fun x hx => HI.out.2 x ((HT.out.1 x).1 hx))
          rw [HST.out] at hS2
          have HS2 := Lib.hid hS2
          clear hS2
          go_wp2_with fail
          refine HS2.out.mono ?_
          rintro e w8 ⟨rfl, hN78⟩
          have HIS := Lib.hid (IsSorted_any w8 b3 (some ⟨b3, 0, none⟩) D.length c3 D rfl (by omega) ((((HO3.out.nw hN35).nw hD6.nw).nw hN67).nw hN78).rd (by rw [← HDD.out]; exact dict_asc l))
          go_wp2_with fail
          refine HIS.out.mono ?_
          rintro e w9 ⟨rfl, hD9⟩
          go_wp2
          go_ret
          exact ⟨rfl, (((hN5.trans hD6.nw).trans hN67).trans hN78).trans hD9.nw⟩

open Go.ChangeShapes Go.WideShapes Go.ChangeAt Go.RowKit in
open Go.ChangeMaps (open_string shut_string) in
set_option linter.unusedVariables false in
set_option maxRecDepth 100000 in
theorem DictvalForgetsOrder_lifted (os : Os) (started : os.Started) (H : Type) (enc : TypeId × Value → H) :
    ReturnsInHanded {} Try.checked os 8 .any (Rows.dictvalForgetsOrderSpec.pre6 enc Try.prog Try.f8 Rows.dictvalForgetsOrderRow.domain false) (Rows.dictvalForgetsOrderSpec.post enc Try.prog Try.f8 false true false false) := by
  refine returnsInHanded_of_change (C := Try.checked) (by kernel_rfl) started (by kernel_rfl) Try.func8
    (ChangeSpec.witness6 (enc := enc) (C := Try.checked) false ⟨#[], #[.slice none 0 0, .int .u16 0], []⟩ 8 (by kernel_rfl) (by kernel_rfl) (by kernel_rfl) (by kernel_rfl)) ?_
  intro W base args ds gs before hval0 hW hcnd _
  have hval : ∀ (j : Nat) t v, Try.f8.params[j]? = some t → args[j]? = some v → Value.okWide Try.prog W .any base t v := hval0
  have hW' := hW
  obtain ⟨p, q, hA0, hV, rfl, hfz, hnd⟩ := hW
  have hA : DataW.TrodAll enc Try.prog W 0 (fun _ => true) true Try.f8.params.toList args.toList ds p := hA0
  rw [Try.params8] at hA hval
  obtain ⟨v0, vs0, d0, ds0, p0, q0, hargs, rfl, rfl, h0, r0⟩ := trodAll_cons hA
  obtain ⟨v1, vs1, d1, ds1, p1, q1, rfl, rfl, rfl, h1, r1⟩ := trodAll_cons r0
  obtain ⟨rfl, rfl, rfl⟩ := trodAll_nil r1
  obtain rfl : args = #[v0, v1] := by cases args; simp_all
  obtain ⟨rfl, rfl⟩ := trodVars_none hV
  obtain ⟨a0, len0, cap0, rfl⟩ := okWide_slice Try.underlying22 (hval 0 22 v0 rfl rfl)
  have k0 := h0
  have lt0 : ∀ x ∈ p0, x.block < W.heap.size := by obtain ⟨m, hm⟩ := k0; exact DataW.trod_lt m _ _ _ hm
  obtain ⟨z0, w0⟩ : ∃ zs, IsRow .u64 W a0 len0 cap0 zs := by
    obtain ⟨fuel, hf⟩ := h0
    rcases open_ints Try.underlying22 Try.underlying25 (by kernel_rfl) hf with ⟨hcs, _⟩ | ⟨x, l, c, zs, hcs, _, hl, hm, hz, _, hcell, hwz⟩
    · simp [Value.cells] at hcs
      obtain ⟨rfl, rfl, rfl⟩ := hcs
      exact ⟨[], .inl ⟨rfl, rfl, rfl, rfl⟩⟩
    · simp [Value.cells] at hcs
      obtain ⟨rfl, rfl, rfl⟩ := hcs
      exact ⟨zs, .inr ⟨_, rfl, hl, hm, by simpa using hz, hcell, hwz⟩⟩
  obtain ⟨a1, rfl, rfl, rfl, w1⟩ := open_int Try.underlying58 (hval 1 58 v1 rfl rfl) h1
  clear hA0 hval0
  refine (DictvalForgetsOrder_walk a0 len0 cap0 z0 a1 W w0 w1).mono fun e W' ⟨he, bel⟩ => ?_
  subst he
  exact ⟨_, rfl, _, _, _, [], _, [], hW', trodAll_mk1 (shut_bool Try.underlying4 _), (trodAll_cons_mk (Below.trod (by kernel_rfl) (by kernel_rfl) (of_decide_eq_true (by kernel_rfl)) k0 bel lt0) (trodAll_cons_mk (shut_int Try.underlying58 w1) trodAll_mk0)), rfl, bel.frame _, fun h => by cases h⟩

/-- the statement -/
theorem DictvalForgetsOrder_holds : Rows.DictvalForgetsOrderSaid :=
  OpenClaim.holds_of_wide 8 Try.f8 rfl rfl rfl rfl rfl rfl rfl ⟨rfl, rfl, rfl, rfl, rfl⟩ rfl rfl rfl rfl rfl (by kernel_rfl) Try.func8 (by kernel_rfl)
    (of_decide_eq_true (by kernel_rfl)) (by unfold Func.isWrapper; first | (rw [if_pos (by decide +kernel)]; kernel_rfl) | (rw [if_neg (by decide +kernel)]; exact ⟨rfl, rfl⟩))
    (fun os started H enc _ => DictvalForgetsOrder_lifted os started H enc)
#print axioms DictvalForgetsOrder_holds
end Go.Proofs.Ytbdpimnbjonhlaa
