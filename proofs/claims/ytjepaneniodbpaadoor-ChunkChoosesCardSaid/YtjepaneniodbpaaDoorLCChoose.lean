/- ChunkChooses: for every list of up to 200 values, Sizes and Choose answer as the reference. No condition. -/
import Derived.Test.YtjepaneniodbpaaDoorLaidIn
import Derived.Test.YtjepaneniodbpaaDoorAliveC
import Derived.Test.YtjepaneniodbpaaDoorRef9
import Derived.Test.YtjepaneniodbpaaDoorTie
import Derived.Test.YtjepaneniodbpaaDoorCards
import Derived.Deep.RegionHeld3
import Derived.ChangeKeysEq
import Derived.Laws.StructEq
import Derived.SevenTiedAt
import Derived.Stop.Joined
namespace Go.Proofs.YtjepaneniodbpaaDoor
open Go Go.RowKit

theorem three_eq (W : World) (s1 s2 s3 : Int) : (binOp .eql 25 (.agg #[.int .i64 s1, .int .i64 s2, .int .i64 s3]) (.agg #[.int .i64 s1, .int .i64 s2, .int .i64 s3])).run Tryd.prog W = .ok (.bool true) W := by
  obtain ⟨i, hi, _⟩ := E_int.info
  have hc : Tryd.prog.cellsOf 3 = 1 := by kernel_rfl
  have p0 : (part 3 #[.int .i64 s1, .int .i64 s2, .int .i64 s3] 0).run Tryd.prog W = .ok (.int .i64 s1) W := by kernel_rfl
  have p1 : (part 3 #[.int .i64 s1, .int .i64 s2, .int .i64 s3] 1).run Tryd.prog W = .ok (.int .i64 s2) W := by kernel_rfl
  have p2 : (part 3 #[.int .i64 s1, .int .i64 s2, .int .i64 s3] 2).run Tryd.prog W = .ok (.int .i64 s3) W := by kernel_rfl
  have he := fun a b : Int => run_equalIn_int (P := Tryd.prog) W 9998 3 .i64 .i64 a b Tryd.underlying3
  rw [run_eql_struct, show (10000 : Nat) = 9999 + 1 from rfl, run_equalIn_array W 9999 _ _ Tryd.underlying25 hi, hc, show List.range 3 = [0, 1, 2] from rfl]
  simp only [Op.eqItems, Sem.run_bind, Nat.mul_one, p0, p1, p2, Result.andThen_ok, he, beq_self_eq_true, Bool.not_true, Bool.false_eq_true, if_false, Sem.run_pure]

theorem two_blocks {w : World} (hG : Gl w) (b : Nat) : ∃ g, g < w.heap.size ∧ b ≠ g := by
  have := hG.lt
  by_cases h : b = 0
  · exact ⟨1, by omega, by omega⟩
  · exact ⟨0, by omega, h⟩

set_option maxRecDepth 100000 in
set_option maxHeartbeats 3200000 in
theorem ChunkChooses_walk (a0 : Option Addr) (len0 cap0 : Nat) (z0 : List Int) (w : World) (hG : Gl w) (w0 : IsRow .u64 w a0 len0 cap0 z0) :
    Calls Tryd.prog 3 #[.slice a0 len0 cap0] w fun e w' => e = .returned (.bool true) ∧ Below w.heap.size w w' := by
  obtain ⟨b, l, hI, hx⟩ := InRow.u64 w0
  have HG := Lib.hid hG
  have HI := Lib.hid (And.intro hI hx)
  have HAl := Lib.hid fun (W : World) (hN : Nw w W) => aliveC_any W (hG.nw hN)
  clear hG w0 hI hx
  by_cases hbig : 200 < len0
  · go_enter Tryd.func3, Tryd.ntmps3
    go_wp2_with (go_at_call 7; refine (HAl.out _ (Nw.refl _)).mono ?_; rintro e w1 ⟨rfl, hN⟩)
    go_ret
    exact ⟨rfl, hN⟩
  have hL := HI.out.1.len
  have HR : Hid (∀ W, Nw w W → ∀ tag : Nat, 1 ≤ tag ∧ tag ≤ 3 → Calls Tryd.prog 8 #[.int .i64 (tag : Int), .slice a0 len0 cap0] W fun e w' => e = .returned (.int .i64 (sizeT tag l)) ∧ Nw W w') :=
    Lib.hid fun W hN tag ht => RSize_any W b a0 len0 cap0 tag l ht (two_blocks (HG.out.nw hN) b) hL (by omega) (HI.out.1.rd.nw hN) HI.out.2
  have HC : Hid (∀ W, Nw w W → Calls Tryd.prog 11 #[.slice a0 len0 cap0] W fun e w' => e = .returned (.int .i64 (tagOf l : Int)) ∧ Nw W w') :=
    Lib.hid fun W hN => RChoose_any W b a0 len0 cap0 l (two_blocks (HG.out.nw hN) b) hL (by omega) (HI.out.1.rd.nw hN) HI.out.2
  have hbw : l = [] ∨ b < w.heap.size := by
    rcases HI.out.1.rd with h | ⟨_, _, h, _⟩
    · left; simpa using h
    · exact .inr h
  obtain ⟨b', hb', hr'⟩ : ∃ b', b' < w.heap.size ∧ Rd w b' a0 (cN .u64 l) := by
    rcases hbw with rfl | h
    · exact ⟨0, by have := HG.out.lt; omega, Rd.nil _ _ _⟩
    · exact ⟨b, h, HI.out.1.rd⟩
  have HSz : Hid (∀ W, Nw w W → Calls Tryd.prog 9 #[.slice a0 len0 cap0] W fun e w' => e = .returned (.agg #[.int .i64 (sizeT 1 l), .int .i64 (sizeT 2 l), .int .i64 (sizeT 3 l)]) ∧ Nw W w') :=
    Lib.hid fun W hN => Sizes_any W b' a0 len0 cap0 l hL (by omega) (hr'.nw hN) (Nat.lt_of_lt_of_le hb' hN.size) HI.out.2 (HG.out.nw hN)
  have HCh : Hid (∀ W, Nw w W → Calls Tryd.prog 10 #[.slice a0 len0 cap0] W fun e w' => e = .returned (.int .i64 (tagOf l : Int)) ∧ Nw W w') :=
    Lib.hid fun W hN => Choose_any W b' a0 len0 cap0 l hL (by omega) (hr'.nw hN) (Nat.lt_of_lt_of_le hb' hN.size) HI.out.2 (HG.out.nw hN)
  have H1 := Lib.hid fun W hN => HR.out W hN 1 (by omega)
  have H2 := Lib.hid fun W hN => HR.out W hN 2 (by omega)
  have H3 := Lib.hid fun W hN => HR.out W hN 3 (by omega)
  clear HR HI HG hbw hb' hr' hL
  generalize sizeT 1 l = s1 at *
  generalize sizeT 2 l = s2 at *
  generalize sizeT 3 l = s3 at *
  generalize tagOf l = t at *
  have eqs := fun W => three_eq W s1 s2 s3
  go_enter Tryd.func3, Tryd.ntmps3
  go_wp2_with fail
  refine (H1.out _ (Nw.refl _)).mono ?_
  rintro e w1 ⟨rfl, hN1⟩
  go_wp2_with fail
  refine (H2.out _ hN1).mono ?_
  rintro e w2 ⟨rfl, hN2'⟩
  have hN2 := hN1.trans hN2'
  go_wp2_with fail
  refine (H3.out _ hN2).mono ?_
  rintro e w3 ⟨rfl, hN3'⟩
  have hN3 := hN2.trans hN3'
  clear hN1 hN2 hN2' hN3'
  go_wp2_with fail
  generalize hwq : w3.alloc (.cells #[.int .i64 s1, .int .i64 s2, .int .i64 s3] 25) = wq
  have hNq : Nw w wq := by rw [← hwq]; exact hN3.alloc' _
  have hb : wq.heap[w3.heap.size]? = some (.cells #[.int .i64 s1, .int .i64 s2, .int .i64 s3] 25 (0, 0)) := by rw [← hwq]; exact heap_alloc_new _ _
  generalize w3.heap.size = g at *
  have hgl := lt_of_block hb
  have HN := Lib.hid hNq
  have H0 : Hid (∀ W, Nw wq W → W.cell? ⟨g, 0, none⟩ = some (.int .i64 s1) ∧ W.cell? ⟨g, 1, none⟩ = some (.int .i64 s2) ∧ W.cell? ⟨g, 2, none⟩ = some (.int .i64 s3)) := by
    refine Lib.hid fun W hN => ?_
    have h := (hN.block g hgl).trans hb
    exact ⟨by simp [World.cell?, h], by simp [World.cell?, h], by simp [World.cell?, h]⟩
  have hlift : ∀ (f : FuncId) (args : Array Value) (v : Value), (∀ W, Nw w W → Calls Tryd.prog f args W fun e w' => e = .returned v ∧ Nw W w') →
      ∀ W, ((W.cell? ⟨g, 0, none⟩ = some (.int .i64 s1) ∧ W.cell? ⟨g, 1, none⟩ = some (.int .i64 s2) ∧ W.cell? ⟨g, 2, none⟩ = some (.int .i64 s3)) ∧ Nw wq W) →
        Calls Tryd.prog f args W fun e w' => e = .returned v ∧ ((w'.cell? ⟨g, 0, none⟩ = some (.int .i64 s1) ∧ w'.cell? ⟨g, 1, none⟩ = some (.int .i64 s2) ∧ w'.cell? ⟨g, 2, none⟩ = some (.int .i64 s3)) ∧ Nw wq w') := by
    intro f args v h W hS
    refine (h W (HN.out.trans hS.2)).mono ?_
    rintro e w' ⟨rfl, hN⟩
    exact ⟨rfl, H0.out _ (hS.2.trans hN), hS.2.trans hN⟩
  have A1 := Lib.hid (hlift _ _ _ HAl.out)
  have A2 := Lib.hid (hlift _ _ _ HSz.out)
  have A3 := Lib.hid (hlift _ _ _ HCh.out)
  have A4 := Lib.hid (hlift _ _ _ HC.out)
  have E0 : Hid ((wq.cell? ⟨g, 0, none⟩ = some (.int .i64 s1) ∧ wq.cell? ⟨g, 1, none⟩ = some (.int .i64 s2) ∧ wq.cell? ⟨g, 2, none⟩ = some (.int .i64 s3)) ∧ Nw wq wq) := Lib.hid ⟨H0.out _ (Nw.refl _), Nw.refl _⟩
  clear hN3 hwq hNq hb H1 H2 H3 hlift HAl HSz HCh HC
  go_region_held3 (fun w' => (w'.cell? ⟨g, 0, none⟩ = some (.int .i64 s1) ∧ w'.cell? ⟨g, 1, none⟩ = some (.int .i64 s2) ∧ w'.cell? ⟨g, 2, none⟩ = some (.int .i64 s3)) ∧ Nw wq w')
    (first | exact ⟨H0.out _ (Nw.drew1 _), Nw.drew1 _⟩ | exact E0.out | exact hS)
    (first
      | (go_at_call 7; refine (A1.out _ (by assumption)).mono ?_; rintro e w5 ⟨rfl, hS⟩)
      | (go_at_call 9; refine (A2.out _ (by assumption)).mono ?_; rintro e w6 ⟨rfl, hS⟩)
      | (go_at_call 10; refine (A3.out _ (by assumption)).mono ?_; rintro e w7 ⟨rfl, hS⟩)
      | (go_at_call 11; refine (A4.out _ (by assumption)).mono ?_; rintro e w8 ⟨rfl, hS⟩))
  all_goals
    go_wp2
    go_ret
    exact ⟨rfl, HN.out.trans hS.2⟩

open Go.ChangeShapes Go.WideShapes Go.ChangeAt Go.RowKit in
set_option linter.unusedVariables false in
set_option maxRecDepth 100000 in
theorem ChunkChooses_lifted (os : Os) (started : os.Started) (H : Type) (enc : TypeId × Value → H) :
    ReturnsInHanded {} Tryd.checked os 3 .any (fun w args => (Rows.chunkChoosesSpec.pre enc Tryd.prog Tryd.f3 [] false w args ∧ laidMetH Tryd.prog laid2 w) ∧ sizedMet enc Tryd.prog Tryd.f3 (OpenSpec.ofChange Rows.chunkChoosesSpec) false w args)
      (Rows.chunkChoosesSpec.post enc Tryd.prog Tryd.f3 false true false false) := by
  refine returnsInHanded_of_change_and (C := Tryd.checked) (X := fun w _ => laidMetH Tryd.prog laid2 w) (fun _ _ _ hh h => h.of_heap hh) own started (by kernel_rfl) Tryd.func3
    (ChangeSpec.witness_shaped (enc := enc) (C := Tryd.checked) (os := os) (X := fun w _ => laidMetH Tryd.prog laid2 w) false (World.doorLaid Tryd.prog 400 os) #[.slice none 0 0] 8 rfl (World.shaped_of_RefB (by kernel_rfl) (by kernel_rfl)) (by kernel_rfl) (by kernel_rfl) (by kernel_rfl) (door_met os _)) ?_
  intro W base args ds gs before hval0 hW _ _ hL _
  have hval : ∀ (j : Nat) t v, Tryd.f3.params[j]? = some t → args[j]? = some v → Value.okWide Tryd.prog W .any base t v := hval0
  have hW' := hW
  obtain ⟨p, q, hA0, hV, rfl, hfz, hnd⟩ := hW
  have hA : DataW.TrodAll enc Tryd.prog W 0 (fun _ => true) true Tryd.f3.params.toList args.toList ds p := hA0
  rw [Tryd.params3] at hA hval
  obtain ⟨v0, vs0, d0, ds0, p0, q0, hargs, rfl, rfl, h0, r0⟩ := trodAll_cons hA
  obtain ⟨rfl, rfl, rfl⟩ := trodAll_nil r0
  obtain rfl : args = #[v0] := by cases args; simp_all
  obtain ⟨rfl, rfl⟩ := trodVars_none hV
  obtain ⟨a0, len0, cap0, rfl⟩ := okWide_slice Tryd.underlying22 (hval 0 22 v0 rfl rfl)
  have k0 := h0
  have lt0 : ∀ x ∈ p0, x.block < W.heap.size := by obtain ⟨m, hm⟩ := k0; exact DataW.trod_lt m _ _ _ hm
  obtain ⟨z0, w0⟩ : ∃ zs, IsRow .u64 W a0 len0 cap0 zs := by
    obtain ⟨fuel, hf⟩ := h0
    rcases open_ints Tryd.underlying22 Tryd.underlying37 (by kernel_rfl) hf with ⟨hcs, _⟩ | ⟨x, l, c, zs, hcs, _, hl, hm, hz, _, hcell, hwz⟩
    · simp [Value.cells] at hcs
      obtain ⟨rfl, rfl, rfl⟩ := hcs
      exact ⟨[], .inl ⟨rfl, rfl, rfl, rfl⟩⟩
    · simp [Value.cells] at hcs
      obtain ⟨rfl, rfl, rfl⟩ := hcs
      exact ⟨zs, .inr ⟨_, rfl, hl, hm, by simpa using hz, hcell, hwz⟩⟩
  clear hA0 hval0
  refine (ChunkChooses_walk a0 len0 cap0 z0 W (gl_of_laid hL) w0).mono fun e W' ⟨he, bel⟩ => ?_
  subst he
  exact ⟨_, rfl, _, _, _, [], _, [], hW', trodAll_mk1 (shut_bool Tryd.underlying4 _), (trodAll_cons_mk (Below.trod (by kernel_rfl) (by kernel_rfl) (of_decide_eq_true (by kernel_rfl)) k0 bel lt0) trodAll_mk0), rfl, bel.frame _, fun h => by cases h⟩

/-- the row's statement -/
theorem ChunkChooses_holds : Rows.ChunkChoosesSaid :=
  OpenClaim.holds_of_wide 3 Tryd.f3 rfl rfl rfl rfl rfl rfl rfl ⟨rfl, rfl, rfl, rfl, rfl⟩ rfl rfl rfl rfl rfl (by kernel_rfl) Tryd.func3 (by kernel_rfl)
    (of_decide_eq_true (by kernel_rfl)) (by unfold Func.isWrapper; first | (rw [if_pos (by decide +kernel)]; kernel_rfl) | (rw [if_neg (by decide +kernel)]; exact ⟨rfl, rfl⟩))
    (fun os started H enc _ => ChunkChooses_lifted os started H enc)

/-- the card: the same, with what the two variables hold tied to the program's text -/
theorem ChunkChooses_card : Rows.ChunkChoosesCardSaid :=
  Claim7.holds_tied_plain_at .later [] [.data, .data] true (true, "d850849d56096a613cd1da5de40daa37d392cd3535a8b6dec4eac43994b83435") false
    ChunkChooses_holds (fun _ h => by cases h) (by kernel_rfl) (fun _ h => by cases h) chunkChooses_row_tie rfl ⟨rfl, rfl⟩ (by kernel_rfl) rfl
    (fun f fn hf hfn => by
      obtain rfl : f = 3 := Option.some.inj ((show Tryd.prog.funcNamed "tsblock/tsblocklaw09.ChunkChooses" = some 3 by kernel_rfl).symm.trans hf) |>.symm
      obtain rfl : fn = Tryd.f3 := (Option.some.inj (Tryd.func3.symm.trans hfn)).symm
      exact ⟨by kernel_rfl, fun j t ht => by
        rw [Tryd.params3] at ht
        have hm : t ∈ [22] := by simpa using Array.mem_of_getElem? ht
        have hall : ([22].all fun u => !Tryd.prog.wantsStandIn u) = true := by kernel_rfl
        exact (show Tryd.prog.wantsStandIn t = false by simpa using List.all_eq_true.1 hall t hm)⟩)
    (by kernel_rfl)
#print axioms ChunkChooses_card
end Go.Proofs.YtjepaneniodbpaaDoor
