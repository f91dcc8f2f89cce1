/- The examples of the chapter hold: alive of layer 12. -/
import Derived.Test.YtoogadidbbpplaaGreatAlvLaw
import Derived.Test.YtoogadidbbpplaaGreatSyms
import Derived.Test.YtoogadidbbpplaaGreatModChk
namespace Go.Proofs.YtoogadidbbpplaaGreat
open Go Go.RowKit Go.Sort Go.Shelf Go.Lib

theorem e1_l : e1.toList = [49] := by rw [ByteArray.toList_eq]; rfl
theorem e2_l : e2.toList = [50] := by rw [ByteArray.toList_eq]; rfl
theorem tbl_four : (tbl (strsOf [la, lb])).length = 4 := by
  have hb : bys (strsOf [la, lb]) = [[97], [49], [98], [50]] := by
    show [eA.toList, e1.toList, eB.toList, e2.toList] = _
    rw [eA_l, eB_l, e1_l, e2_l]
  have hs : ([[97], [49], [98], [50]] : List (List UInt8)).mergeSort (fun x y => decide (x ≤ y)) = [[49], [50], [97], [98]] := by
    refine List.Perm.eq_of_pairwise (le := fun a b => a ≤ b) ?_ ?_ ?_ ?_
    · intro a b _ _ h1 h2; exact List.le_antisymm h1 h2
    · have := List.pairwise_mergeSort (le := fun (x y : List UInt8) => decide (x ≤ y)) (by intro a b c; simp; exact fun h1 h2 => List.le_trans h1 h2) (by intro a b; simp; exact List.le_total a b) [[97], [49], [98], [50]]
      simpa using this
    · decide
    · exact (List.mergeSort_perm _ _).trans (by decide)
  unfold tbl
  rw [hb, hs]
  rfl
/-- a series whose lists lie in two blocks -/
theorem ok_lit {W : World} {b1 bs : Nat} (l : List Lab) (hl : W.heap[b1]? = some (.cells (cL l).toArray 47 (0, 0))) (hs : W.heap[bs]? = some (.cells #[.int .i64 1, .int .u64 0] 41 (0, 0))) (hsm : ∀ x ∈ l, x.1.size ≤ 10 ∧ x.2.size ≤ 10) (hlen : l.length ≤ 10) :
    SerOk W ⟨l, [(1, 0)], b1, some ⟨b1, 0, none⟩, l.length, bs, some ⟨bs, 0, none⟩, 1⟩ := by
  have h1 := Ow.of_heap (size := 2) (n := l.length) hl (by rw [List.size_toArray, show (cL l).length = 2 * l.length from c2_length l]; omega) (by omega)
  have h2 := Ow.of_heap (size := 2) (n := 1) hs rfl (by omega)
  refine ⟨⟨by simpa using h1.rd, rfl, (fun h => by cases h), Nat.le_refl _, by dsimp only; omega, fun x hx => ?_⟩, ⟨h2.rd, rfl, ?_, (fun h => by cases h), Nat.le_refl _, by dsimp only; omega⟩⟩
  · have := hsm x hx
    omega
  · intro z hz
    obtain rfl := List.mem_singleton.1 hz
    exact ⟨⟨by decide, by decide⟩, by decide⟩
/-- series whose cells lie in a block -/
theorem in_lit {W : World} {b : Nat} (l : List Ser) (hl : W.heap[b]? = some (.cells (cR l).toArray 37 (0, 0))) (hlen : l.length ≤ 10) (hok : ∀ s ∈ l, SerOk W s) : InSer W b (some ⟨b, 0, none⟩) l.length l.length l := by
  have h1 := Ow.of_heap (size := 2) (n := l.length) hl (by rw [List.size_toArray, show (cR l).length = 2 * l.length from c2_length l]; omega) (by omega)
  exact ⟨by simpa using h1.rd, rfl, (fun h => by cases h), Nat.le_refl _, by omega, hok⟩
theorem heap_at {W W' : World} {k : Nat} {o : Obj} (hN : Nw W W') (h : W.heap[k]? = some o) : W'.heap[k]? = some o := (hN.block k (Array.getElem?_eq_some_iff.1 h).1).trans h

set_option maxRecDepth 100000 in
set_option maxHeartbeats 1600000 in
theorem alive_any (w : World) : Calls Tryz.prog 6 #[] w fun e w' => e = .returned (.bool true) ∧ Nw w w' := by
  go_enter Tryz.func6, Tryz.ntmps6
  go_wp2_with fail
  obtain ⟨oS, hoS⟩ : ∃ o, o = Obj.cells #[Value.int .i64 1, .int .u64 0] 41 := ⟨_, rfl⟩
  obtain ⟨oA, hoA⟩ : ∃ o, o = Obj.cells #[Value.string { data := #[97] }, .string { data := #[49] }] 47 := ⟨_, rfl⟩
  obtain ⟨oB, hoB⟩ : ∃ o, o = Obj.cells #[Value.string { data := #[98] }, .string { data := #[50] }] 47 := ⟨_, rfl⟩
  obtain ⟨oX, hoX⟩ : ∃ o, o = Obj.cells #[Value.string { data := #[97] }, .string { data := #[49] }, .string { data := #[98] }, .string { data := #[50] }] 47 := ⟨_, rfl⟩
  obtain ⟨oY, hoY⟩ : ∃ o, o = Obj.cells #[Value.string { data := #[98] }, .string { data := #[50] }, .string { data := #[97] }, .string { data := #[49] }] 47 := ⟨_, rfl⟩
  rw [← hoS, ← hoA, ← hoB, ← hoX, ← hoY]
  obtain ⟨n0, hn0⟩ : ∃ n0, w.heap.size = n0 := ⟨_, rfl⟩
  rw [hn0]
  obtain ⟨oR, hoR⟩ : ∃ o, o = Obj.cells #[.slice (some ⟨n0 + 1 + 1 + 1, 0, none⟩) 2 2, .slice (some ⟨n0, 0, none⟩) 1 1, .slice (some ⟨n0 + 1 + 1 + 1 + 1, 0, none⟩) 2 2, .slice (some ⟨n0, 0, none⟩) 1 1] 37 := ⟨_, rfl⟩
  rw [← hoR]
  have hN0 : Nw w ((((((w.alloc oS).alloc oA).alloc oB).alloc oX).alloc oY).alloc oR) := ((((((Nw.refl w).alloc' _).alloc' _).alloc' _).alloc' _).alloc' _).alloc' _
  have t0 : ((((((w.alloc oS).alloc oA).alloc oB).alloc oX).alloc oY).alloc oR).heap[n0]? = some oS := heap_at ((((((Nw.refl _).alloc' _).alloc' _).alloc' _).alloc' _).alloc' _) (by rw [← hn0]; exact heap_alloc_new _ _)
  have t1 : ((((((w.alloc oS).alloc oA).alloc oB).alloc oX).alloc oY).alloc oR).heap[n0 + 1]? = some oA := heap_at (((((Nw.refl _).alloc' _).alloc' _).alloc' _).alloc' _) (by rw [← hn0]; simpa using heap_alloc_new (w.alloc oS) oA)
  have t2 : ((((((w.alloc oS).alloc oA).alloc oB).alloc oX).alloc oY).alloc oR).heap[n0 + 1 + 1]? = some oB := heap_at ((((Nw.refl _).alloc' _).alloc' _).alloc' _) (by rw [← hn0]; simpa using heap_alloc_new ((w.alloc oS).alloc oA) oB)
  have t3 : ((((((w.alloc oS).alloc oA).alloc oB).alloc oX).alloc oY).alloc oR).heap[n0 + 1 + 1 + 1]? = some oX := heap_at (((Nw.refl _).alloc' _).alloc' _) (by rw [← hn0]; simpa using heap_alloc_new (((w.alloc oS).alloc oA).alloc oB) oX)
  have t4 : ((((((w.alloc oS).alloc oA).alloc oB).alloc oX).alloc oY).alloc oR).heap[n0 + 1 + 1 + 1 + 1]? = some oY := heap_at ((Nw.refl _).alloc' _) (by rw [← hn0]; simpa using heap_alloc_new ((((w.alloc oS).alloc oA).alloc oB).alloc oX) oY)
  have t5 : ((((((w.alloc oS).alloc oA).alloc oB).alloc oX).alloc oY).alloc oR).heap[n0 + 1 + 1 + 1 + 1 + 1]? = some oR := by rw [← hn0]; simpa using heap_alloc_new (((((w.alloc oS).alloc oA).alloc oB).alloc oX).alloc oY) oR
  generalize (((((w.alloc oS).alloc oA).alloc oB).alloc oX).alloc oY).alloc oR = wA at *
  have hI : InSer wA (n0 + 1 + 1 + 1 + 1 + 1) (some ⟨n0 + 1 + 1 + 1 + 1 + 1, 0, none⟩) 2 2 [⟨[la, lb], [(1, 0)], n0 + 1 + 1 + 1, some ⟨n0 + 1 + 1 + 1, 0, none⟩, 2, n0, some ⟨n0, 0, none⟩, 1⟩, ⟨[lb, la], [(1, 0)], n0 + 1 + 1 + 1 + 1, some ⟨n0 + 1 + 1 + 1 + 1, 0, none⟩, 2, n0, some ⟨n0, 0, none⟩, 1⟩] := by
    refine in_lit [⟨[la, lb], [(1, 0)], n0 + 1 + 1 + 1, some ⟨n0 + 1 + 1 + 1, 0, none⟩, 2, n0, some ⟨n0, 0, none⟩, 1⟩, ⟨[lb, la], [(1, 0)], n0 + 1 + 1 + 1 + 1, some ⟨n0 + 1 + 1 + 1 + 1, 0, none⟩, 2, n0, some ⟨n0, 0, none⟩, 1⟩] (by rw [t5, hoR]; rfl) (by show 2 ≤ 10; omega) ?_
    intro s hs
    rcases List.mem_cons.1 hs with rfl | hs
    · exact ok_lit [la, lb] (by rw [t3, hoX]; rfl) (by rw [t0, hoS]) (by decide) (by decide)
    · obtain rfl := List.mem_singleton.1 hs
      exact ok_lit [lb, la] (by rw [t4, hoY]; rfl) (by rw [t0, hoS]) (by decide) (by decide)
  refine (NormM_any wA _ _ 2 2 _ hI (by show 1 + (1 + 0) ≤ 100000; omega) (by omega) (by
    intro s hs
    rcases List.mem_cons.1 hs with rfl | hs
    · exact ⟨by show 2 ≤ 100000; omega, by show 1 ≤ 100000; omega⟩
    · obtain rfl := List.mem_singleton.1 hs
      exact ⟨by show 2 ≤ 100000; omega, by show 1 ≤ 100000; omega⟩)).mono ?_
  rintro e w1 ⟨hN1, E, r, hT, hcase⟩
  obtain rfl := listTo_two hT
  rcases hcase with ⟨_, rfl⟩ | ⟨h, _⟩
  · have u0 := heap_at hN1 t0
    have u1 := heap_at hN1 t1
    have u2 := heap_at hN1 t2
    have HNW := Lib.hid (hN0.trans hN1)
    clear hI hT hN0 hN1 t0 t1 t2 t3 t4 t5 hn0 hoX hoR
    rw [hoA] at u1
    rw [hoB] at u2
    have a0 := cell_at (k := 0) u1
    have a1 := cell_at (k := 1) u1
    have b0 := cell_at (k := 0) u2
    have b1 := cell_at (k := 1) u2
    have U0 := Lib.hid u0
    clear u0 u1 u2 hoA hoB
    go_wp2_with fail
    rw [← hoY]
    obtain ⟨n1, hn1⟩ : ∃ n1, w1.heap.size = n1 := ⟨_, rfl⟩
    rw [hn1]
    obtain ⟨oR, hoR⟩ : ∃ o, o = Obj.cells #[.slice (some ⟨n1, 0, none⟩) 2 2, .slice (some ⟨n0, 0, none⟩) 1 1] 37 := ⟨_, rfl⟩
    rw [← hoR]
    have hN1 : Nw w1 ((w1.alloc oY).alloc oR) := ((Nw.refl _).alloc' _).alloc' _
    have t0 := heap_at hN1 U0.out
    have t4 : ((w1.alloc oY).alloc oR).heap[n1]? = some oY := heap_at ((Nw.refl _).alloc' _) (by rw [← hn1]; exact heap_alloc_new _ _)
    have t5 : ((w1.alloc oY).alloc oR).heap[n1 + 1]? = some oR := by rw [← hn1]; simpa using heap_alloc_new (w1.alloc oY) oR
    generalize (w1.alloc oY).alloc oR = wB at *
    have hI : InSer wB (n1 + 1) (some ⟨n1 + 1, 0, none⟩) 1 1 [⟨[lb, la], [(1, 0)], n1, some ⟨n1, 0, none⟩, 2, n0, some ⟨n0, 0, none⟩, 1⟩] := by
      refine in_lit [⟨[lb, la], [(1, 0)], n1, some ⟨n1, 0, none⟩, 2, n0, some ⟨n0, 0, none⟩, 1⟩] (by rw [t5, hoR]; rfl) (by show 1 ≤ 10; omega) ?_
      intro s hs
      obtain rfl := List.mem_singleton.1 hs
      exact ok_lit [lb, la] (by rw [t4, hoY]; rfl) (by rw [t0, hoS]) (by decide) (by decide)
    refine (NormM_any wB _ _ 1 1 _ hI (by show 1 + 0 ≤ 100000; omega) (by omega) (by
      intro s hs
      obtain rfl := List.mem_singleton.1 hs
      exact ⟨by show 2 ≤ 100000; omega, by show 1 ≤ 100000; omega⟩)).mono ?_
    rintro e w2 ⟨hN2, E, r, hT, hcase⟩
    obtain ⟨rfl, rfl⟩ := listTo_one hT
    rcases hcase with ⟨h, _⟩ | ⟨_, g, l', rfl, hv, hl, hg, hO, hok⟩
    · exact (h rfl).elim
    · match l', hl, hv with
      | [s0], _, hv =>
        have hv0 : valS s0 = v0 := by simpa using hv
        have hI2 : InSer w2 g (some ⟨g, 0, none⟩) 1 1 [s0] := ⟨hO.rd, rfl, (fun h => by cases h), Nat.le_refl _, by omega, hok⟩
        have hlb : s0.labs = [la, lb] := by injection hv0
        have hsm : s0.smps = [(1, 0)] := by injection hv0
        have HW2 := Lib.hid ((HNW.out.trans hN1).trans hN2)
        have HI := Lib.hid hI2
        have HV := Lib.hid hv0
        have HLB := Lib.hid hlb
        have HSM := Lib.hid hsm
        have HCl := Lib.hid fun W (hN : Nw w2 W) => Clone_any W g (some ⟨g, 0, none⟩) 1 1 [s0] (hI2.nw hN) (fun s h => by obtain rfl := List.mem_singleton.1 h; exact ⟨by rw [hlb]; decide, by rw [hsm]; decide⟩) (by omega)
        have hsum : smpSum [s0] = 1 := by show s0.smps.length + 0 = 1; rw [hsm]; rfl
        have HCk := Lib.hid fun W (hN : Nw w2 W) => Check_any W g (some ⟨g, 0, none⟩) 1 1 [s0] (hI2.nw hN) (by omega) (by omega) (fun s h => by obtain rfl := List.mem_singleton.1 h; rw [hlb]; decide)
        have hblk : blkE [s0] = 0 := by
          show (if serE s0 ≠ 0 then serE s0 else 0) = 0
          rw [serE_val, hv0, val_0]; decide
        rw [hblk] at HCk
        have HSa := Lib.hid fun W (hN : Nw w2 W) => Samples_any W g (some ⟨g, 0, none⟩) 1 1 [s0] (hI2.nw hN) (by omega) (by omega)
        rw [hsum] at HSa
        have hlo : labsOf [s0] = [la, lb] := by show s0.labs ++ [] = _; rw [hlb]; rfl
        have HSy := Lib.hid fun W (hN : Nw w2 W) => Symbols_any W g (some ⟨g, 0, none⟩) 1 1 [s0] (hI2.nw hN) (by rw [hlo]; decide) (by omega)
        rw [hlo, tbl_four] at HSy
        clear hI hT hN1 hN2 t0 t4 t5 hn1 hoR hoY hoS hv hv0 hl hO hok hI2 hlb hsm hsum hblk hlo a0 a1 b0 b1 HNW U0 hg
        go_wp2_with fail
        obtain ⟨oz, hoz⟩ : ∃ o, o = Obj.cells #[Value.slice none 0 0, .slice none 0 0] 37 := ⟨_, rfl⟩
        rw [← hoz]
        have hNz : Nw w2 (w2.alloc oz) := (Nw.refl _).alloc' _
        have hz : (w2.alloc oz).heap[w2.heap.size]? = some oz := heap_alloc_new _ _
        have hIz : InSer (w2.alloc oz) w2.heap.size (some ⟨w2.heap.size, 0, none⟩) 1 1 [⟨[], [], 0, none, 0, 0, none, 0⟩] := by
          refine in_lit [⟨[], [], 0, none, 0, 0, none, 0⟩] (by rw [hz, hoz]; rfl) (by decide) ?_
          intro s hs
          obtain rfl := List.mem_singleton.1 hs
          exact ⟨⟨Rd.nil _ _ _, rfl, fun _ => rfl, Nat.le_refl _, by decide, by simp⟩, ⟨Rd.nil _ _ _, rfl, (fun z h => by cases h), fun _ => rfl, Nat.le_refl _, by decide⟩⟩
        have HZ := Lib.hid (Check_any _ _ _ 1 1 _ hIz (by decide) (by omega) (by intro s hs; obtain rfl := List.mem_singleton.1 hs; decide))
        have HNz := Lib.hid hNz
        clear hIz hz hNz hoz
        refine HZ.out.mono ?_
        rintro e w3 ⟨rfl, hN3⟩
        have H3 := Lib.hid (HNz.out.trans hN3)
        have hb : blkE [⟨[], [], 0, none, 0, 0, none, 0⟩] = 21 := by decide
        rw [hb]
        clear hN3 hb HZ
        go_wp2_with fail
        refine (HCk.out _ H3.out).mono ?_
        rintro e w4 ⟨rfl, hN4⟩
        have H4 := Lib.hid (H3.out.trans hN4)
        clear hN4 HCk
        go_wp2_with fail
        refine (HSa.out _ H4.out).mono ?_
        rintro e w5 ⟨rfl, hN5⟩
        have H5 := Lib.hid (H4.out.trans hN5)
        clear hN5 HSa
        go_wp2_with fail
        refine (HSy.out _ H5.out).mono ?_
        rintro e w6 ⟨g6, A6, c6, rfl, _, hN6⟩
        have H6 := Lib.hid (H5.out.trans hN6)
        clear hN6 HSy
        go_wp2_with fail
        refine (HCl.out _ H6.out).mono ?_
        rintro e w7 ⟨l7, rfl, hv7, hO7, hC7, _, hN7⟩
        have H7 := Lib.hid (H6.out.trans hN7)
        have hs0 : ∀ W, Nw w2 W → ∀ s ∈ [s0], SerOk W s ∧ Small s := fun W hN s h => by
          obtain rfl := List.mem_singleton.1 h
          exact ⟨((HI.out.ok s List.mem_cons_self)).nw hN, by rw [HLB.out]; decide, by rw [HSM.out]; decide⟩
        have hl7 : l7.length = 1 := by have := congrArg List.length hv7; simpa using this
        have hs7 : ∀ s ∈ l7, SerOk w7 s ∧ Small s := fun s h => by
          refine ⟨(hC7 s h).ok, ?_⟩
          have : valS s ∈ l7.map valS := List.mem_map_of_mem h
          rw [hv7] at this
          have h9 := List.mem_singleton.1 (show valS s ∈ [valS s0] from this)
          rw [HV.out] at h9
          have e1 : s.labs = [la, lb] := by injection h9
          have e2 : s.smps = [(1, 0)] := by injection h9
          exact ⟨by rw [e1]; decide, by rw [e2]; decide⟩
        have HE7 := Lib.hid (EqM_any w7 g w6.heap.size (some ⟨g, 0, none⟩) (some ⟨w6.heap.size, 0, none⟩) 1 1 1 1 [s0] l7 rfl hl7.symm (by omega) (by omega) (HI.out.rd.nw H7.out) hO7.rd (hs0 _ H7.out) hs7)
        have HV7 := Lib.hid hv7
        have HE8 := Lib.hid fun W (hN : Nw w2 W) => EqM_any W g 0 (some ⟨g, 0, none⟩) none 1 1 0 0 [s0] [] rfl rfl (by omega) (by omega) (HI.out.rd.nw hN) (Rd.nil _ _ _) (hs0 _ hN) (by simp)
        clear hs0 hl7 hs7 hO7 hC7 hN7 hv7 HCl
        go_wp2_with fail
        refine HE7.out.mono ?_
        rintro e w8 ⟨he, hN8⟩
        obtain rfl := he.tt HV7.out.symm
        have H8 := Lib.hid (H7.out.trans hN8)
        clear he hN8 HE7
        go_wp2_with fail
        refine (HE8.out _ H8.out).mono ?_
        rintro e w9 ⟨he, hN9⟩
        obtain rfl := he.ff (by simp)
        have H9 := Lib.hid (H8.out.trans hN9)
        clear he hN9 HE8
        go_wp2_with fail
        go_ret
        exact ⟨rfl, HW2.out.trans H9.out⟩
  · cases h
end Go.Proofs.YtoogadidbbpplaaGreat
