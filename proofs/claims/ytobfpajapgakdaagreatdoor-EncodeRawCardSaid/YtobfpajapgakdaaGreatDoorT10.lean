/- Laws that the last text builds on. -/
import Derived.Test.YtobfpajapgakdaaGreatDoorT9
namespace Go.Proofs.YtobfpajapgakdaaGreatDoor
open Go.Lib(hid)
section
open Go Go.RowKit Go.Lib
def toc (a0 a1 a2 a3:Nat):List Nat:=vint a0++vint a1++vint a2++vint a3
def hd0:List Nat:=[84,83,66,75,1]
def file1 (l0:List Nat):List Nat:=hd0++frame 1 l0
def file2 (l0 l1:List Nat):List Nat:=file1 l0++frame 2 l1
def file3 (l0 l1 l2:List Nat):List Nat:=file2 l0 l1++frame 3 l2
def file4 (l0 l1 l2 l3:List Nat):List Nat:=file3 l0 l1 l2++frame 4 l3
def file5 (l0 l1 l2 l3:List Nat):List Nat:=file4 l0 l1 l2 l3++frame 5 (toc hd0.length (file1 l0).length (file2 l0 l1).length (file3 l0 l1 l2).length)
def fileOf (l0 l1 l2 l3:List Nat):List Nat:=addCrc (file5 l0 l1 l2 l3)++[75,66,83,84]
theorem toc_lt (a0 a1 a2 a3:Nat):∀ x∈toc a0 a1 a2 a3,x < 256:=by
 intro x hx;simp only [toc,List.mem_append] at hx;rcases hx with ((hx | hx) | hx) | hx<;>exact vint_lt _ x hx
theorem hd0_lt:∀ x∈hd0,x < 256:=by decide
theorem frame_len {id:Nat} {l:List Nat} (h:l.length≤100000000):(frame id l).length≤100000020:=by
 unfold frame lenB;rw [addCrc_length,List.length_cons,List.length_append];have:=vint_len l.length (by omega);omega
theorem lt_append {a b:List Nat} (h:∀ x∈a,x < 256) (k:∀ x∈b,x < 256):∀ x∈a++b,x < 256:=by
 intro x hx;rcases List.mem_append.1 hx with hx | hx
 ·exact h x hx
 ·exact k x hx
structure InB (w:World) (b:Nat) (A:Option Addr) (n c:Nat) (l:List Nat):Prop where
 rd:Rd w b A (cN .u8 l)
 len:n=l.length
 small:n≤100000000
 byte:∀ x∈l,x < 256
theorem InB.nw {w w':World} {b n c:Nat} {A:Option Addr} {l:List Nat} (h:InB w b A n c l) (hN:Nw w w'):InB w' b A n c l:=⟨h.rd.nw hN,h.len,h.small,h.byte⟩
set_option maxRecDepth 100000 in
theorem contents_any (w:World) (a0 a1 a2 a3 a4:Nat) (h0:a0≤1000000000000) (h1:a1≤1000000000000) (h2:a2≤1000000000000) (h3:a3≤1000000000000) :
  Calls Tryz.prog 58 #[.agg #[.int .i64 (a0:Int),.int .i64 (a1:Int),.int .i64 (a2:Int),.int .i64 (a3:Int),.int .i64 (a4:Int)]] w (NewB w (toc a0 a1 a2 a3)):=by
 have hb:(w.alloc (.cells #[.int .i64 (a0:Int),.int .i64 (a1:Int),.int .i64 (a2:Int),.int .i64 (a3:Int),.int .i64 (a4:Int)] 99)).heap[w.heap.size]? = some (.cells #[.int .i64 (a0:Int),.int .i64 (a1:Int),.int .i64 (a2:Int),.int .i64 (a3:Int),.int .i64 (a4:Int)] 99):=heap_alloc_new _ _;have hN:Nw w (w.alloc (.cells #[.int .i64 (a0:Int),.int .i64 (a1:Int),.int .i64 (a2:Int),.int .i64 (a3:Int),.int .i64 (a4:Int)] 99)):=(Nw.refl w).alloc' _;have hlt:w.heap.size < (w.alloc (.cells #[.int .i64 (a0:Int),.int .i64 (a1:Int),.int .i64 (a2:Int),.int .i64 (a3:Int),.int .i64 (a4:Int)] 99)).heap.size:=by simp
 have HL0:=hid (vint_len a0 (by omega));have HL1:=hid (vint_len a1 (by omega));have HL2:=hid (vint_len a2 (by omega));have HL3:=hid (vint_len a3 (by omega));have HT:=hid (show toc a0 a1 a2 a3=vint a0++vint a1++vint a2++vint a3 from rfl);have u0:IntKind.u64.wrap (a0:Int)=(a0:Int):=IntWalk.u64_in _ (by omega);have u1:IntKind.u64.wrap (a1:Int)=(a1:Int):=IntWalk.u64_in _ (by omega);have u2:IntKind.u64.wrap (a2:Int)=(a2:Int):=IntWalk.u64_in _ (by omega);have u3:IntKind.u64.wrap (a3:Int)=(a3:Int):=IntWalk.u64_in _ (by omega);have HV0:=hid fun W b A n c xs hO hn=>VAppend_any W b A n c xs a0 hO (by omega) hn
 have HV1:=hid fun W b A n c xs hO hn=>VAppend_any W b A n c xs a1 hO (by omega) hn
 have HV2:=hid fun W b A n c xs hO hn=>VAppend_any W b A n c xs a2 hO (by omega) hn
 have HV3:=hid fun W b A n c xs hO hn=>VAppend_any W b A n c xs a3 hO (by omega) hn
 obtain ⟨V0,hV0⟩:∃ V,vint a0=V:=⟨_,rfl⟩;obtain ⟨V1,hV1⟩:∃ V,vint a1=V:=⟨_,rfl⟩;obtain ⟨V2,hV2⟩:∃ V,vint a2=V:=⟨_,rfl⟩;obtain ⟨V3,hV3⟩:∃ V,vint a3=V:=⟨_,rfl⟩;rw [hV0] at HV0 HL0 HT;rw [hV1] at HV1 HL1 HT;rw [hV2] at HV2 HL2 HT;rw [hV3] at HV3 HL3 HT;clear hV0 hV1 hV2 hV3;go_enter Tryz.func58,Tryz.ntmps58
 go_wp2;refine wp_loop_rounds 5 ?_;generalize w.alloc (.cells #[.int .i64 (a0:Int),.int .i64 (a1:Int),.int .i64 (a2:Int),.int .i64 (a3:Int),.int .i64 (a4:Int)] 99)=W0 at *;have HO0:=hid (show Ow W0 0 5 1 none 0 0 (cN .u8 []) from Ow.nil W0 0 5 1);have HB0:=hid hb;have HN0:=hid hN;clear hb hN;have HLT0:=hid (show ∀ k∈[w.heap.size],k < W0.heap.size from fun k hk=>by obtain rfl:=List.mem_singleton.1 hk;exact hlt);clear hlt;rw [rounds_succ];have hl0:=HL0.out;have hc0:W0.cell? ⟨w.heap.size,0,none⟩=some (.int .i64 (a0:Int)):=by simp [World.cell?,HB0.out]
 go_wp2_with fail;refine (HV0.out W0 _ _ _ _ _ HO0.out (by omega)).mono ?_;rintro e W1 hA0;obtain ⟨b1,A1,c1,rfl,hO1,hp1,hN1,hK1,hlt1⟩:=hA0.own [w.heap.size] HN0.out (.inr rfl) HLT0.out;simp only [Nat.zero_add,List.nil_append] at hO1;have HB1:=hid ((hK1 _ List.mem_cons_self).trans HB0.out);have HLT1:=hid hlt1;have HO1:=hid hO1;have HN1:=hid hN1;have HP1:=hid hp1;clear hO1 hN1 hp1 hK1 hlt1 hc0 hA0 HB0 HO0;go_wp2_with fail;rw [rounds_succ];have hl1:=HL1.out;have hc1:W1.cell? ⟨w.heap.size,1,none⟩=some (.int .i64 (a1:Int)):=by simp [World.cell?,HB1.out]
 go_wp2_with fail;refine (HV1.out W1 _ _ _ _ _ HO1.out (by omega)).mono ?_;rintro e W2 hA1;obtain ⟨b2,A2,c2,rfl,hO2,hp2,hN2,hK2,hlt2⟩:=hA1.own [w.heap.size] HN1.out HP1.out HLT1.out;have HB2:=hid ((hK2 _ List.mem_cons_self).trans HB1.out);have HLT2:=hid hlt2;have HO2:=hid hO2;have HN2:=hid hN2;have HP2:=hid hp2;clear hO2 hN2 hp2 hK2 hlt2 hc1 hA1 HB1 HO1;go_wp2_with fail;rw [rounds_succ];have hl2:=HL2.out;have hc2:W2.cell? ⟨w.heap.size,2,none⟩=some (.int .i64 (a2:Int)):=by simp [World.cell?,HB2.out]
 go_wp2_with fail;refine (HV2.out W2 _ _ _ _ _ HO2.out (by omega)).mono ?_;rintro e W3 hA2;obtain ⟨b3,A3,c3,rfl,hO3,hp3,hN3,hK3,hlt3⟩:=hA2.own [w.heap.size] HN2.out HP2.out HLT2.out;have HB3:=hid ((hK3 _ List.mem_cons_self).trans HB2.out);have HLT3:=hid hlt3;have HO3:=hid hO3;have HN3:=hid hN3;have HP3:=hid hp3;clear hO3 hN3 hp3 hK3 hlt3 hc2 hA2 HB2 HO2;go_wp2_with fail;rw [rounds_succ];have hl3:=HL3.out;have hc3:W3.cell? ⟨w.heap.size,3,none⟩=some (.int .i64 (a3:Int)):=by simp [World.cell?,HB3.out]
 go_wp2_with fail;refine (HV3.out W3 _ _ _ _ _ HO3.out (by omega)).mono ?_;rintro e W4 hA3;obtain ⟨b4,A4,c4,rfl,hO4,hp4,hN4,hK4,hlt4⟩:=hA3.own [w.heap.size] HN3.out HP3.out HLT3.out;have HB4:=hid ((hK4 _ List.mem_cons_self).trans HB3.out);have HLT4:=hid hlt4;have HO4:=hid hO4;have HN4:=hid hN4;have HP4:=hid hp4;clear hO4 hN4 hp4 hK4 hlt4 hc3 hA3 HB3 HO3;go_wp2_with fail;rw [rounds_succ];go_wp2_with fail;go_ret;have hl:(toc a0 a1 a2 a3).length=V0.length+V1.length+V2.length+V3.length:=by rw [HT.out];simp only [List.length_append]
 have hO:=HO4.out;rcases HP4.out with h | h
 ·exact ⟨b4,A4,c4,by rw [hl];rfl,by rw [hl,HT.out];exact hO,h.1,HN4.out⟩
 ·refine ⟨w.heap.size,A4,c4,by rw [hl];rfl,?_,Nat.le_refl _,HN4.out⟩;rw [hl,HT.out];rcases hO with ⟨p,q⟩ | ⟨p,_⟩
  ·exact .inl ⟨p,q⟩
  ·rw [h] at p;cases p
set_option maxRecDepth 100000 in
set_option maxHeartbeats 400000 in
theorem Rcontents_any (w:World) (a0 a1 a2 a3 a4:Nat) (h0:a0≤1000000000000) (h1:a1≤1000000000000) (h2:a2≤1000000000000) (h3:a3≤1000000000000) :
  Calls Tryz.prog 61 #[.agg #[.int .i64 (a0:Int),.int .i64 (a1:Int),.int .i64 (a2:Int),.int .i64 (a3:Int),.int .i64 (a4:Int)]] w (NewB w (toc a0 a1 a2 a3)):=by
 have hb:(w.alloc (.cells #[.int .i64 (a0:Int),.int .i64 (a1:Int),.int .i64 (a2:Int),.int .i64 (a3:Int),.int .i64 (a4:Int)] 99)).heap[w.heap.size]? = some (.cells #[.int .i64 (a0:Int),.int .i64 (a1:Int),.int .i64 (a2:Int),.int .i64 (a3:Int),.int .i64 (a4:Int)] 99):=heap_alloc_new _ _;have hN:Nw w (w.alloc (.cells #[.int .i64 (a0:Int),.int .i64 (a1:Int),.int .i64 (a2:Int),.int .i64 (a3:Int),.int .i64 (a4:Int)] 99)):=(Nw.refl w).alloc' _;have hlt:w.heap.size < (w.alloc (.cells #[.int .i64 (a0:Int),.int .i64 (a1:Int),.int .i64 (a2:Int),.int .i64 (a3:Int),.int .i64 (a4:Int)] 99)).heap.size:=by simp
 have HL0:=hid (vint_len a0 (by omega));have HL1:=hid (vint_len a1 (by omega));have HL2:=hid (vint_len a2 (by omega));have HL3:=hid (vint_len a3 (by omega));have HT:=hid (show toc a0 a1 a2 a3=vint a0++vint a1++vint a2++vint a3 from rfl);have u0:IntKind.u64.wrap (a0:Int)=(a0:Int):=IntWalk.u64_in _ (by omega);have HV0:=hid fun W=>REncode2_any a0 W a0 (Nat.le_refl _) (by omega)
 have u1:IntKind.u64.wrap (a1:Int)=(a1:Int):=IntWalk.u64_in _ (by omega);have HV1:=hid fun W=>REncode2_any a1 W a1 (Nat.le_refl _) (by omega)
 have u2:IntKind.u64.wrap (a2:Int)=(a2:Int):=IntWalk.u64_in _ (by omega);have HV2:=hid fun W=>REncode2_any a2 W a2 (Nat.le_refl _) (by omega)
 have u3:IntKind.u64.wrap (a3:Int)=(a3:Int):=IntWalk.u64_in _ (by omega);have HV3:=hid fun W=>REncode2_any a3 W a3 (Nat.le_refl _) (by omega)
 obtain ⟨V0,hV0⟩:∃ V,vint a0=V:=⟨_,rfl⟩;rw [hV0] at HV0 HL0 HT;obtain ⟨V1,hV1⟩:∃ V,vint a1=V:=⟨_,rfl⟩;rw [hV1] at HV1 HL1 HT;obtain ⟨V2,hV2⟩:∃ V,vint a2=V:=⟨_,rfl⟩;rw [hV2] at HV2 HL2 HT;obtain ⟨V3,hV3⟩:∃ V,vint a3=V:=⟨_,rfl⟩;rw [hV3] at HV3 HL3 HT;clear hV0 hV1 hV2 hV3;go_enter Tryz.func61,Tryz.ntmps61
 go_wp2;refine wp_loop_rounds 5 ?_;generalize w.alloc (.cells #[.int .i64 (a0:Int),.int .i64 (a1:Int),.int .i64 (a2:Int),.int .i64 (a3:Int),.int .i64 (a4:Int)] 99)=W0 at *;have HO0:=hid (show Ow W0 0 5 1 none 0 0 (cN .u8 []) from Ow.nil W0 0 5 1);have HB0:=hid hb;have HN0:=hid hN;have HLT0:=hid (show ∀ k∈[w.heap.size],k < W0.heap.size from fun k hk=>by obtain rfl:=List.mem_singleton.1 hk;exact hlt);clear hb hN hlt;rw [rounds_succ];have hl0:=HL0.out;have hc0:W0.cell? ⟨w.heap.size,0,none⟩=some (.int .i64 (a0:Int)):=by simp [World.cell?,HB0.out]
 go_wp2_with fail;refine (HV0.out W0).mono ?_;rintro e X0 ⟨d0,D0,e0,rfl,hD0,hd0,hX0⟩;have HD0:=hid hD0;have HOk:=hid (HO0.out.nw hX0);have hnil:=hD0.nilc;have HX0:=hid (HN0.out.trans hX0);have HBX:=hid ((hX0.block _ (HLT0.out _ List.mem_cons_self)).trans HB0.out);have HLX:=hid fun k hk=>Nat.lt_of_lt_of_le (HLT0.out k hk) hX0.size
 clear hD0 hX0 hc0;go_wp2_with (at_builtin;refine wpList_app E_u8 rfl (.tmp 9) (.tmp 14) rfl rfl HOk.out rfl HD0.out.rd (by rw [List.length_map,Nat.mul_one]) hnil (u8_lit _) (by simp only [maxLen];omega) (by omega) ?_;intro b1 A1 c1 W1 q1 q2 q3 q4;have HA:=hid (AppB.of_app q1 q2 q3 q4);clear q1 q2 q3 q4)
 obtain ⟨b',A',c',he,hO1,hp1,hN1,hK1,hlt1⟩:=HA.out.own [w.heap.size] HX0.out (.inr rfl) HLX.out;injection he with he
 injection he with e1 e2 e3
 subst e1 e3;simp only [Nat.zero_add,List.nil_append] at hO1;have HB1:=hid ((hK1 _ List.mem_cons_self).trans HBX.out);have HLT1:=hid hlt1;have HO1:=hid hO1;have HN1:=hid hN1;have HP1:=hid hp1;clear hO1 hN1 hp1 hK1 hlt1 HA HD0 HOk HX0 HBX HLX HB0 HO0 HN0 HLT0 hnil e2;go_wp2_with fail;rw [rounds_succ];have hl1:=HL1.out;have hc1:W1.cell? ⟨w.heap.size,1,none⟩=some (.int .i64 (a1:Int)):=by simp [World.cell?,HB1.out]
 go_wp2_with fail;refine (HV1.out W1).mono ?_;rintro e X1 ⟨d1,D1,e1,rfl,hD1,hd1,hX1⟩;have HD1:=hid hD1;have HOk:=hid (HO1.out.nw hX1);have hnil:=hD1.nilc;have HX1:=hid (HN1.out.trans hX1);have HBX:=hid ((hX1.block _ (HLT1.out _ List.mem_cons_self)).trans HB1.out);have HLX:=hid fun k hk=>Nat.lt_of_lt_of_le (HLT1.out k hk) hX1.size
 clear hD1 hX1 hc1;go_wp2_with (at_builtin;refine wpList_app E_u8 rfl (.tmp 9) (.tmp 14) rfl rfl HOk.out rfl HD1.out.rd (by rw [List.length_map,Nat.mul_one]) hnil (u8_lit _) (by simp only [maxLen];omega) (by omega) ?_;intro b2 A2 c2 W2 q1 q2 q3 q4;have HA:=hid (AppB.of_app q1 q2 q3 q4);clear q1 q2 q3 q4)
 obtain ⟨b',A',c',he,hO2,hp2,hN2,hK2,hlt2⟩:=HA.out.own [w.heap.size] HX1.out HP1.out HLX.out;injection he with he
 injection he with e1 e2 e3
 subst e1 e3;have HB2:=hid ((hK2 _ List.mem_cons_self).trans HBX.out);have HLT2:=hid hlt2;have HO2:=hid hO2;have HN2:=hid hN2;have HP2:=hid hp2;clear hO2 hN2 hp2 hK2 hlt2 HA HD1 HOk HX1 HBX HLX HB1 HO1 HN1 HLT1 hnil e2;go_wp2_with fail;rw [rounds_succ];have hl2:=HL2.out;have hc2:W2.cell? ⟨w.heap.size,2,none⟩=some (.int .i64 (a2:Int)):=by simp [World.cell?,HB2.out]
 go_wp2_with fail;refine (HV2.out W2).mono ?_;rintro e X2 ⟨d2,D2,e2,rfl,hD2,hd2,hX2⟩;have HD2:=hid hD2;have HOk:=hid (HO2.out.nw hX2);have hnil:=hD2.nilc;have HX2:=hid (HN2.out.trans hX2);have HBX:=hid ((hX2.block _ (HLT2.out _ List.mem_cons_self)).trans HB2.out);have HLX:=hid fun k hk=>Nat.lt_of_lt_of_le (HLT2.out k hk) hX2.size
 clear hD2 hX2 hc2;go_wp2_with (at_builtin;refine wpList_app E_u8 rfl (.tmp 9) (.tmp 14) rfl rfl HOk.out rfl HD2.out.rd (by rw [List.length_map,Nat.mul_one]) hnil (u8_lit _) (by simp only [maxLen];omega) (by omega) ?_;intro b3 A3 c3 W3 q1 q2 q3 q4;have HA:=hid (AppB.of_app q1 q2 q3 q4);clear q1 q2 q3 q4)
 obtain ⟨b',A',c',he,hO3,hp3,hN3,hK3,hlt3⟩:=HA.out.own [w.heap.size] HX2.out HP2.out HLX.out;injection he with he
 injection he with e1 e2 e3
 subst e1 e3;have HB3:=hid ((hK3 _ List.mem_cons_self).trans HBX.out);have HLT3:=hid hlt3;have HO3:=hid hO3;have HN3:=hid hN3;have HP3:=hid hp3;clear hO3 hN3 hp3 hK3 hlt3 HA HD2 HOk HX2 HBX HLX HB2 HO2 HN2 HLT2 hnil e2;go_wp2_with fail;rw [rounds_succ];have hl3:=HL3.out;have hc3:W3.cell? ⟨w.heap.size,3,none⟩=some (.int .i64 (a3:Int)):=by simp [World.cell?,HB3.out]
 go_wp2_with fail;refine (HV3.out W3).mono ?_;rintro e X3 ⟨d3,D3,e3,rfl,hD3,hd3,hX3⟩;have HD3:=hid hD3;have HOk:=hid (HO3.out.nw hX3);have hnil:=hD3.nilc;have HX3:=hid (HN3.out.trans hX3);have HBX:=hid ((hX3.block _ (HLT3.out _ List.mem_cons_self)).trans HB3.out);have HLX:=hid fun k hk=>Nat.lt_of_lt_of_le (HLT3.out k hk) hX3.size
 clear hD3 hX3 hc3;go_wp2_with (at_builtin;refine wpList_app E_u8 rfl (.tmp 9) (.tmp 14) rfl rfl HOk.out rfl HD3.out.rd (by rw [List.length_map,Nat.mul_one]) hnil (u8_lit _) (by simp only [maxLen];omega) (by omega) ?_;intro b4 A4 c4 W4 q1 q2 q3 q4;have HA:=hid (AppB.of_app q1 q2 q3 q4);clear q1 q2 q3 q4)
 obtain ⟨b',A',c',he,hO4,hp4,hN4,hK4,hlt4⟩:=HA.out.own [w.heap.size] HX3.out HP3.out HLX.out;injection he with he
 injection he with e1 e2 e3
 subst e1 e3;have HB4:=hid ((hK4 _ List.mem_cons_self).trans HBX.out);have HLT4:=hid hlt4;have HO4:=hid hO4;have HN4:=hid hN4;have HP4:=hid hp4;clear hO4 hN4 hp4 hK4 hlt4 HA HD3 HOk HX3 HBX HLX HB3 HO3 HN3 HLT3 hnil e2;go_wp2_with fail;rw [rounds_succ];go_wp2_with fail;go_ret;have hl:(toc a0 a1 a2 a3).length=V0.length+V1.length+V2.length+V3.length:=by rw [HT.out];simp only [List.length_append]
 have hO:=HO4.out;rcases HP4.out with h | h
 ·exact ⟨b',_,_,by rw [hl];rfl,by rw [hl,HT.out];exact hO,h.1,HN4.out⟩
 ·refine ⟨w.heap.size,_,_,by rw [hl];rfl,?_,Nat.le_refl _,HN4.out⟩;rw [hl,HT.out];rcases hO with ⟨p,q⟩ | ⟨p,_⟩
  ·exact .inl ⟨p,q⟩
  ·rw [h] at p;cases p
theorem file_lens (l0 l1 l2:List Nat):(file1 l0).length=5+(frame 1 l0).length∧(file2 l0 l1).length=5+(frame 1 l0).length+(frame 2 l1).length∧(file3 l0 l1 l2).length=5+(frame 1 l0).length+(frame 2 l1).length+(frame 3 l2).length:=by
 simp only [file3,file2,file1,List.length_append];exact ⟨rfl,rfl,rfl⟩
theorem fileOf_eq (l0 l1 l2 l3:List Nat):fileOf l0 l1 l2 l3=addCrc (hd0++frame 1 l0++frame 2 l1++frame 3 l2++frame 4 l3++frame 5 (toc 5 (5+(frame 1 l0).length) (5+(frame 1 l0).length+(frame 2 l1).length) (5+(frame 1 l0).length+(frame 2 l1).length+(frame 3 l2).length)))++[75,66,83,84]:=by
 obtain ⟨h1,h2,h3⟩:=file_lens l0 l1 l2;unfold fileOf file5;rw [h1,h2,h3];rfl
theorem toc_len {a0 a1 a2 a3:Nat} (h0:a0≤1000000000000) (h1:a1≤1000000000000) (h2:a2≤1000000000000) (h3:a3≤1000000000000):(toc a0 a1 a2 a3).length≤40:=by
 simp only [toc,List.length_append];have:=vint_len a0 (by omega);have:=vint_len a1 (by omega);have:=vint_len a2 (by omega);have:=vint_len a3 (by omega);omega
theorem set_at {W:World} {g k:Nat} {cs:Array Value} {t:TypeId} (v:Value) (h:W.heap[g]? = some (.cells cs t (0,0))):(W.setCell ⟨g,k,none⟩ v).heap[g]? = some (.cells (cs.setIfInBounds k v) t (0,0)):=by
 simp [World.setCell,Array.getElem?_modify,h]
theorem at_freeL {W:World} {g k:Nat} {cs:Array Value} {t:TypeId} (h:W.heap[g]? = some (.cells cs t (0,0))):W.frozen? ⟨g,k,none⟩=false:=by simp [World.frozen?,h]
set_option maxRecDepth 100000 in
set_option maxHeartbeats 1600000 in
theorem Assemble_any (w:World) (b0 b1 b2 b3:Nat) (A0 A1 A2 A3:Option Addr) (n0 n1 n2 n3 c0 c1 c2 c3:Nat) (l0 l1 l2 l3:List Nat) (h0:InB w b0 A0 n0 c0 l0) (h1:InB w b1 A1 n1 c1 l1) (h2:InB w b2 A2 n2 c2 l2) (h3:InB w b3 A3 n3 c3 l3) (hG:Gl w) :
  Calls Tryz.prog 25 #[.agg #[.slice A0 n0 c0,.slice A1 n1 c1,.slice A2 n2 c2,.slice A3 n3 c3]] w (NewB w (fileOf l0 l1 l2 l3)):=by
 have hN:Nw w (((w.alloc (.cells #[.slice A0 n0 c0,.slice A1 n1 c1,.slice A2 n2 c2,.slice A3 n3 c3] 34)).alloc (.cells #[.int .u8 84,.int .u8 83,.int .u8 66,.int .u8 75,.int .u8 1] 5 (5,6))).alloc (.cells #[.int .i64 0,.int .i64 0,.int .i64 0,.int .i64 0,.int .i64 0] 99)):=(((Nw.refl w).alloc' _).alloc' _).alloc' _;have hB:(((w.alloc (.cells #[.slice A0 n0 c0,.slice A1 n1 c1,.slice A2 n2 c2,.slice A3 n3 c3] 34)).alloc (.cells #[.int .u8 84,.int .u8 83,.int .u8 66,.int .u8 75,.int .u8 1] 5 (5,6))).alloc (.cells #[.int .i64 0,.int .i64 0,.int .i64 0,.int .i64 0,.int .i64 0] 99)).heap[w.heap.size+1+1]? = some (.cells #[.int .i64 0,.int .i64 0,.int .i64 0,.int .i64 0,.int .i64 0] 99 (0,0)):=by
  have:=heap_alloc_new ((w.alloc (.cells #[.slice A0 n0 c0,.slice A1 n1 c1,.slice A2 n2 c2,.slice A3 n3 c3] 34)).alloc (.cells #[.int .u8 84,.int .u8 83,.int .u8 66,.int .u8 75,.int .u8 1] 5 (5,6))) (.cells #[.int .i64 0,.int .i64 0,.int .i64 0,.int .i64 0,.int .i64 0] 99);simpa using this
 have hX:(((w.alloc (.cells #[.slice A0 n0 c0,.slice A1 n1 c1,.slice A2 n2 c2,.slice A3 n3 c3] 34)).alloc (.cells #[.int .u8 84,.int .u8 83,.int .u8 66,.int .u8 75,.int .u8 1] 5 (5,6))).alloc (.cells #[.int .i64 0,.int .i64 0,.int .i64 0,.int .i64 0,.int .i64 0] 99)).heap[w.heap.size]? = some (.cells #[.slice A0 n0 c0,.slice A1 n1 c1,.slice A2 n2 c2,.slice A3 n3 c3] 34 (0,0)) :=
  (heap_alloc_old _ _ (by simp;omega)).trans ((heap_alloc_old _ _ (by simp)).trans (heap_alloc_new _ _))
 have hO:Apx (((w.alloc (.cells #[.slice A0 n0 c0,.slice A1 n1 c1,.slice A2 n2 c2,.slice A3 n3 c3] 34)).alloc (.cells #[.int .u8 84,.int .u8 83,.int .u8 66,.int .u8 75,.int .u8 1] 5 (5,6))).alloc (.cells #[.int .i64 0,.int .i64 0,.int .i64 0,.int .i64 0,.int .i64 0] 99)) (w.heap.size+1) 5 (some ⟨w.heap.size+1,0,none⟩) 5 5 (cN .u8 hd0):=by
  refine .inr ⟨.inr ⟨0,rfl,by simp,fun j u hu=>?_⟩,rfl,rfl,by omega⟩;have hh:(((w.alloc (.cells #[.slice A0 n0 c0,.slice A1 n1 c1,.slice A2 n2 c2,.slice A3 n3 c3] 34)).alloc (.cells #[.int .u8 84,.int .u8 83,.int .u8 66,.int .u8 75,.int .u8 1] 5 (5,6))).alloc (.cells #[.int .i64 0,.int .i64 0,.int .i64 0,.int .i64 0,.int .i64 0] 99)).heap[w.heap.size+1]? = some (.cells #[.int .u8 84,.int .u8 83,.int .u8 66,.int .u8 75,.int .u8 1] 5 (5,6)):=by
   refine (heap_alloc_old _ _ (by simp)).trans ?_;have:=heap_alloc_new (w.alloc (.cells #[.slice A0 n0 c0,.slice A1 n1 c1,.slice A2 n2 c2,.slice A3 n3 c3] 34)) (.cells #[.int .u8 84,.int .u8 83,.int .u8 66,.int .u8 75,.int .u8 1] 5 (5,6))
   rwa [World.size_alloc] at this
  have hc:∀ k,World.cell? (((w.alloc (.cells #[.slice A0 n0 c0,.slice A1 n1 c1,.slice A2 n2 c2,.slice A3 n3 c3] 34)).alloc (.cells #[.int .u8 84,.int .u8 83,.int .u8 66,.int .u8 75,.int .u8 1] 5 (5,6))).alloc (.cells #[.int .i64 0,.int .i64 0,.int .i64 0,.int .i64 0,.int .i64 0] 99)) ⟨w.heap.size+1,k,none⟩=(#[.int .u8 84,.int .u8 83,.int .u8 66,.int .u8 75,.int .u8 1]:Array Value)[k]?:=fun k=>by simp only [World.cell?,hh];rfl
  have hcn:(cN .u8 hd0)[j]? = (#[.int .u8 84,.int .u8 83,.int .u8 66,.int .u8 75,.int .u8 1]:Array Value)[j]?:=by
   rw [← Array.getElem?_toList];rfl
  rw [Nat.zero_add];exact (hc j).trans (hcn.symm.trans hu)
 have hLT:∀ k∈[w.heap.size,w.heap.size+1+1],k < (((w.alloc (.cells #[.slice A0 n0 c0,.slice A1 n1 c1,.slice A2 n2 c2,.slice A3 n3 c3] 34)).alloc (.cells #[.int .u8 84,.int .u8 83,.int .u8 66,.int .u8 75,.int .u8 1] 5 (5,6))).alloc (.cells #[.int .i64 0,.int .i64 0,.int .i64 0,.int .i64 0,.int .i64 0] 99)).heap.size:=by
  intro k hk;simp at hk ⊢;omega
 have hP:(w.heap.size≤w.heap.size+1∧w.heap.size+1 ∉ [w.heap.size,w.heap.size+1+1]):=⟨by omega,by simp⟩;have i0:∀ W,(Instr.index 34 (.agg #[.slice A0 n0 c0,.slice A1 n1 c1,.slice A2 n2 c2,.slice A3 n3 c3]) (.int .i64 0)).run Tryz.prog W=.ok (.slice A0 n0 c0) W:=fun _=>by kernel_rfl
 have i1:∀ W,(Instr.index 34 (.agg #[.slice A0 n0 c0,.slice A1 n1 c1,.slice A2 n2 c2,.slice A3 n3 c3]) (.int .i64 1)).run Tryz.prog W=.ok (.slice A1 n1 c1) W:=fun _=>by kernel_rfl
 have i2:∀ W,(Instr.index 34 (.agg #[.slice A0 n0 c0,.slice A1 n1 c1,.slice A2 n2 c2,.slice A3 n3 c3]) (.int .i64 2)).run Tryz.prog W=.ok (.slice A2 n2 c2) W:=fun _=>by kernel_rfl
 have i3:∀ W,(Instr.index 34 (.agg #[.slice A0 n0 c0,.slice A1 n1 c1,.slice A2 n2 c2,.slice A3 n3 c3]) (.int .i64 3)).run Tryz.prog W=.ok (.slice A3 n3 c3) W:=fun _=>by kernel_rfl
 have HF0:=hid (frame_len (id:=1) (l:=l0) (by have:=h0.small;have:=h0.len;omega));have HS0:=hid fun W (hN:Nw w W) b A n c xs hO hn=>AppendSection_any W b A n c xs 1 b0 A0 n0 c0 l0 hO hn (by omega) (h0.rd.nw hN) h0.len (by have:=h0.small;omega) h0.byte (hG.nw hN)
 have HF1:=hid (frame_len (id:=2) (l:=l1) (by have:=h1.small;have:=h1.len;omega));have HS1:=hid fun W (hN:Nw w W) b A n c xs hO hn=>AppendSection_any W b A n c xs 2 b1 A1 n1 c1 l1 hO hn (by omega) (h1.rd.nw hN) h1.len (by have:=h1.small;omega) h1.byte (hG.nw hN)
 have HF2:=hid (frame_len (id:=3) (l:=l2) (by have:=h2.small;have:=h2.len;omega));have HS2:=hid fun W (hN:Nw w W) b A n c xs hO hn=>AppendSection_any W b A n c xs 3 b2 A2 n2 c2 l2 hO hn (by omega) (h2.rd.nw hN) h2.len (by have:=h2.small;omega) h2.byte (hG.nw hN)
 have HF3:=hid (frame_len (id:=4) (l:=l3) (by have:=h3.small;have:=h3.len;omega));have HS3:=hid fun W (hN:Nw w W) b A n c xs hO hn=>AppendSection_any W b A n c xs 4 b3 A3 n3 c3 l3 hO hn (by omega) (h3.rd.nw hN) h3.len (by have:=h3.small;omega) h3.byte (hG.nw hN)
 have kc:(convert 25 25 (.slice (some ⟨w.heap.size+1,0,none⟩) 5 5)).run Tryz.prog ((w.alloc (.cells #[.slice A0 n0 c0,.slice A1 n1 c1,.slice A2 n2 c2,.slice A3 n3 c3] 34)).alloc (.cells #[.int .u8 84,.int .u8 83,.int .u8 66,.int .u8 75,.int .u8 1] 5))=.ok (.slice (some ⟨w.heap.size+1,0,none⟩) 5 5) ((w.alloc (.cells #[.slice A0 n0 c0,.slice A1 n1 c1,.slice A2 n2 c2,.slice A3 n3 c3] 34)).alloc (.cells #[.int .u8 84,.int .u8 83,.int .u8 66,.int .u8 75,.int .u8 1] 5 (5,6))):=by
  have:=Lib.run_convert_bytes_const (P:=Tryz.prog) (w.alloc (.cells #[.slice A0 n0 c0,.slice A1 n1 c1,.slice A2 n2 c2,.slice A3 n3 c3] 34)) 25 5 #[.int .u8 84,.int .u8 83,.int .u8 66,.int .u8 75,.int .u8 1] 5 5 Tryz.underlying25 Tryz.underlying5;rw [World.size_alloc] at this;exact this
 have HE:=hid (fileOf_eq l0 l1 l2 l3);have HBy:=hid (show ∀ x∈hd0++frame 1 l0++frame 2 l1++frame 3 l2++frame 4 l3,x < 256 from lt_append (lt_append (lt_append (lt_append hd0_lt (frame_lt (by omega) h0.byte)) (frame_lt (by omega) h1.byte)) (frame_lt (by omega) h2.byte)) (frame_lt (by omega) h3.byte));obtain ⟨F0,hF0⟩:∃ F,frame 1 l0=F:=⟨_,rfl⟩;rw [hF0] at HF0 HE HBy;simp only [hF0] at HS0;obtain ⟨F1,hF1⟩:∃ F,frame 2 l1=F:=⟨_,rfl⟩;rw [hF1] at HF1 HE HBy;simp only [hF1] at HS1;obtain ⟨F2,hF2⟩:∃ F,frame 3 l2=F:=⟨_,rfl⟩;rw [hF2] at HF2 HE HBy;simp only [hF2] at HS2;obtain ⟨F3,hF3⟩:∃ F,frame 4 l3=F:=⟨_,rfl⟩;rw [hF3] at HF3 HE HBy;simp only [hF3] at HS3;have HG:=hid hG;clear h0 h1 h2 h3 hF0 hF1 hF2 hF3 hG;go_enter Tryz.func25,Tryz.ntmps25
 go_wp2;generalize ((w.alloc (.cells #[.slice A0 n0 c0,.slice A1 n1 c1,.slice A2 n2 c2,.slice A3 n3 c3] 34)).alloc (.cells #[.int .u8 84,.int .u8 83,.int .u8 66,.int .u8 75,.int .u8 1] 5 (5,6))).alloc (.cells #[.int .i64 0,.int .i64 0,.int .i64 0,.int .i64 0,.int .i64 0] 99)=W0 at *;have HN0:=hid hN;have HB0:=hid hB;have HX0:=hid hX;have HO0:=hid hO;have HLT0:=hid hLT;have HP0:=hid (show _∨(some (⟨w.heap.size+1,0,none⟩:Addr))=none from .inl hP);clear hN hB hX hO hLT hP;refine wp_loop_rounds 5 ?_;have hw0:(5:Nat)≤5:=Nat.le_refl _;rw [rounds_succ];have hf:=HF0.out;have ca:W0.cell? ⟨w.heap.size+1+1,0,none⟩=some (.int .i64 0):=by simp [World.cell?,HB0.out]
 have cf:W0.frozen? ⟨w.heap.size+1+1,0,none⟩=false:=at_freeL HB0.out;have hset:Kp (w.heap.size+1+1) (w.heap.size+1+1) W0 (W0.setCell ⟨w.heap.size+1+1,0,none⟩ (.int .i64 (5:Int))):=(Kp.refl _ _ _).setCell' (p:=⟨w.heap.size+1+1,0,none⟩) (.inl rfl) _;have HNs:=hid (HN0.out.setCell' (p:=⟨w.heap.size+1+1,0,none⟩) (show w.heap.size≤w.heap.size+1+1 by omega) (.int .i64 (5:Int)));have HOs:=hid (HO0.out.kp hset (by rcases HP0.out with h | h;exact .inl (fun e=>h.2 (List.mem_cons_of_mem _ (List.mem_singleton.2 e)));exact .inr h));have HBs:=hid (set_at (k:=0) (.int .i64 (5:Int)) HB0.out);have HXs:=hid ((hset.block w.heap.size (HLT0.out _ (by simp)) (by omega) (by omega)).trans HX0.out);have HLs:=hid fun k hk=>Nat.lt_of_lt_of_le (HLT0.out k hk) hset.size
 clear hset HN0 HO0 HB0 HX0 HLT0;go_wp2_with fail;clear ca cf;generalize W0.setCell ⟨w.heap.size+1+1,0,none⟩ (.int .i64 (5:Int))=X0 at *;refine (HS0.out X0 HNs.out _ _ _ _ _ HOs.out (by omega)).mono ?_;rintro e W1 hA;have HA:=hid hA;clear hA;obtain ⟨b1',A1',c1',rfl,hO,hp,hN,hK,hlt⟩:=HA.out.own [w.heap.size,w.heap.size+1+1] HNs.out HP0.out HLs.out;have HB1:=hid ((hK (w.heap.size+1+1) (by simp)).trans HBs.out);have HX1:=hid ((hK w.heap.size (by simp)).trans HXs.out);have HLT1:=hid hlt;have HN1:=hid hN;have HP1:=hid hp;obtain ⟨M1,hM⟩:∃ M,5+F0.length=M:=⟨_,rfl⟩;have hM1:M1≤100000025:=by omega
 have HM1:=hid hM;rw [hM] at hO ⊢;have HO1:=hid (show Apx W1 b1' 5 A1' M1 c1' (cN .u8 (hd0++F0)) from .inl hO);clear hO hN hp hK hlt hM HA;go_wp2_with fail;rw [rounds_succ];have hf:=HF1.out;have ca:W1.cell? ⟨w.heap.size+1+1,1,none⟩=some (.int .i64 0):=by simp [World.cell?,HB1.out]
 have cf:W1.frozen? ⟨w.heap.size+1+1,1,none⟩=false:=at_freeL HB1.out;have hset:Kp (w.heap.size+1+1) (w.heap.size+1+1) W1 (W1.setCell ⟨w.heap.size+1+1,1,none⟩ (.int .i64 (M1:Int))):=(Kp.refl _ _ _).setCell' (p:=⟨w.heap.size+1+1,1,none⟩) (.inl rfl) _;have HNs:=hid (HN1.out.setCell' (p:=⟨w.heap.size+1+1,1,none⟩) (show w.heap.size≤w.heap.size+1+1 by omega) (.int .i64 (M1:Int)));have HOs:=hid (HO1.out.kp hset (by rcases HP1.out with h | h;exact .inl (fun e=>h.2 (List.mem_cons_of_mem _ (List.mem_singleton.2 e)));exact .inr h));have HBs:=hid (set_at (k:=1) (.int .i64 (M1:Int)) HB1.out);have HXs:=hid ((hset.block w.heap.size (HLT1.out _ (by simp)) (by omega) (by omega)).trans HX1.out);have HLs:=hid fun k hk=>Nat.lt_of_lt_of_le (HLT1.out k hk) hset.size
 clear hset HN1 HO1 HB1 HX1 HLT1;go_wp2_with fail;clear ca cf;generalize W1.setCell ⟨w.heap.size+1+1,1,none⟩ (.int .i64 (M1:Int))=X1 at *;refine (HS1.out X1 HNs.out _ _ _ _ _ HOs.out (by omega)).mono ?_;rintro e W2 hA;have HA:=hid hA;clear hA;obtain ⟨b2',A2',c2',rfl,hO,hp,hN,hK,hlt⟩:=HA.out.own [w.heap.size,w.heap.size+1+1] HNs.out HP1.out HLs.out;have HB2:=hid ((hK (w.heap.size+1+1) (by simp)).trans HBs.out);have HX2:=hid ((hK w.heap.size (by simp)).trans HXs.out);have HLT2:=hid hlt;have HN2:=hid hN;have HP2:=hid hp;obtain ⟨M2,hM⟩:∃ M,M1+F1.length=M:=⟨_,rfl⟩;have hM2:M2≤200000045:=by omega
 have HM2:=hid hM;rw [hM] at hO ⊢;have HO2:=hid (show Apx W2 b2' 5 A2' M2 c2' (cN .u8 (hd0++F0++F1)) from .inl hO);clear hO hN hp hK hlt hM HA;go_wp2_with fail;rw [rounds_succ];have hf:=HF2.out;have ca:W2.cell? ⟨w.heap.size+1+1,2,none⟩=some (.int .i64 0):=by simp [World.cell?,HB2.out]
 have cf:W2.frozen? ⟨w.heap.size+1+1,2,none⟩=false:=at_freeL HB2.out;have hset:Kp (w.heap.size+1+1) (w.heap.size+1+1) W2 (W2.setCell ⟨w.heap.size+1+1,2,none⟩ (.int .i64 (M2:Int))):=(Kp.refl _ _ _).setCell' (p:=⟨w.heap.size+1+1,2,none⟩) (.inl rfl) _;have HNs:=hid (HN2.out.setCell' (p:=⟨w.heap.size+1+1,2,none⟩) (show w.heap.size≤w.heap.size+1+1 by omega) (.int .i64 (M2:Int)));have HOs:=hid (HO2.out.kp hset (by rcases HP2.out with h | h;exact .inl (fun e=>h.2 (List.mem_cons_of_mem _ (List.mem_singleton.2 e)));exact .inr h));have HBs:=hid (set_at (k:=2) (.int .i64 (M2:Int)) HB2.out);have HXs:=hid ((hset.block w.heap.size (HLT2.out _ (by simp)) (by omega) (by omega)).trans HX2.out);have HLs:=hid fun k hk=>Nat.lt_of_lt_of_le (HLT2.out k hk) hset.size
 clear hset HN2 HO2 HB2 HX2 HLT2;go_wp2_with fail;clear ca cf;generalize W2.setCell ⟨w.heap.size+1+1,2,none⟩ (.int .i64 (M2:Int))=X2 at *;refine (HS2.out X2 HNs.out _ _ _ _ _ HOs.out (by omega)).mono ?_;rintro e W3 hA;have HA:=hid hA;clear hA;obtain ⟨b3',A3',c3',rfl,hO,hp,hN,hK,hlt⟩:=HA.out.own [w.heap.size,w.heap.size+1+1] HNs.out HP2.out HLs.out;have HB3:=hid ((hK (w.heap.size+1+1) (by simp)).trans HBs.out);have HX3:=hid ((hK w.heap.size (by simp)).trans HXs.out);have HLT3:=hid hlt;have HN3:=hid hN;have HP3:=hid hp;obtain ⟨M3,hM⟩:∃ M,M2+F2.length=M:=⟨_,rfl⟩;have hM3:M3≤300000065:=by omega
 have HM3:=hid hM;rw [hM] at hO ⊢;have HO3:=hid (show Apx W3 b3' 5 A3' M3 c3' (cN .u8 (hd0++F0++F1++F2)) from .inl hO);clear hO hN hp hK hlt hM HA;go_wp2_with fail;rw [rounds_succ];have hf:=HF3.out;have ca:W3.cell? ⟨w.heap.size+1+1,3,none⟩=some (.int .i64 0):=by simp [World.cell?,HB3.out]
 have cf:W3.frozen? ⟨w.heap.size+1+1,3,none⟩=false:=at_freeL HB3.out;have hset:Kp (w.heap.size+1+1) (w.heap.size+1+1) W3 (W3.setCell ⟨w.heap.size+1+1,3,none⟩ (.int .i64 (M3:Int))):=(Kp.refl _ _ _).setCell' (p:=⟨w.heap.size+1+1,3,none⟩) (.inl rfl) _;have HNs:=hid (HN3.out.setCell' (p:=⟨w.heap.size+1+1,3,none⟩) (show w.heap.size≤w.heap.size+1+1 by omega) (.int .i64 (M3:Int)));have HOs:=hid (HO3.out.kp hset (by rcases HP3.out with h | h;exact .inl (fun e=>h.2 (List.mem_cons_of_mem _ (List.mem_singleton.2 e)));exact .inr h));have HBs:=hid (set_at (k:=3) (.int .i64 (M3:Int)) HB3.out);have HXs:=hid ((hset.block w.heap.size (HLT3.out _ (by simp)) (by omega) (by omega)).trans HX3.out);have HLs:=hid fun k hk=>Nat.lt_of_lt_of_le (HLT3.out k hk) hset.size
 clear hset HN3 HO3 HB3 HX3 HLT3;go_wp2_with fail;clear ca cf;generalize W3.setCell ⟨w.heap.size+1+1,3,none⟩ (.int .i64 (M3:Int))=X3 at *;refine (HS3.out X3 HNs.out _ _ _ _ _ HOs.out (by omega)).mono ?_;rintro e W4 hA;have HA:=hid hA;clear hA;obtain ⟨b4',A4',c4',rfl,hO,hp,hN,hK,hlt⟩:=HA.out.own [w.heap.size,w.heap.size+1+1] HNs.out HP3.out HLs.out;have HB4:=hid ((hK (w.heap.size+1+1) (by simp)).trans HBs.out);have HX4:=hid ((hK w.heap.size (by simp)).trans HXs.out);have HLT4:=hid hlt;have HN4:=hid hN;have HP4:=hid hp;obtain ⟨M4,hM⟩:∃ M,M3+F3.length=M:=⟨_,rfl⟩;have hM4:M4≤400000085:=by omega
 have HM4:=hid hM;rw [hM] at hO ⊢;have HO4:=hid (show Apx W4 b4' 5 A4' M4 c4' (cN .u8 (hd0++F0++F1++F2++F3)) from .inl hO);clear hO hN hp hK hlt hM HA;go_wp2_with fail;rw [rounds_succ];have z0:W4.cell? ⟨w.heap.size+1+1,0,none⟩=some (.int .i64 5):=by simp [World.cell?,HB4.out]
 have z1:W4.cell? ⟨w.heap.size+1+1,1,none⟩=some (.int .i64 (M1:Int)):=by simp [World.cell?,HB4.out]
 have z2:W4.cell? ⟨w.heap.size+1+1,2,none⟩=some (.int .i64 (M2:Int)):=by simp [World.cell?,HB4.out]
 have z3:W4.cell? ⟨w.heap.size+1+1,3,none⟩=some (.int .i64 (M3:Int)):=by simp [World.cell?,HB4.out]
 have z4:W4.cell? ⟨w.heap.size+1+1,4,none⟩=some (.int .i64 0):=by simp [World.cell?,HB4.out]
 have HC:Hid (Calls Tryz.prog 58 #[.agg #[.int .i64 5,.int .i64 (M1:Int),.int .i64 (M2:Int),.int .i64 (M3:Int),.int .i64 0]] W4 (NewB W4 (toc 5 M1 M2 M3))):=hid (contents_any W4 5 M1 M2 M3 0 (by omega) (by omega) (by omega) (by omega));have hTl:=toc_len (a0:=5) (a1:=M1) (a2:=M2) (a3:=M3) (by omega) (by omega) (by omega) (by omega);have HTb:=hid (toc_lt 5 M1 M2 M3);have HE2:Hid (fileOf l0 l1 l2 l3=addCrc (hd0++F0++F1++F2++F3++frame 5 (toc 5 M1 M2 M3))++[75,66,83,84]):=by
  have h:=HE.out;have e1:=HM1.out;have e2:=HM2.out;have e3:=HM3.out;rw [← e1] at e2;rw [← e2] at e3;rw [e1] at h;rw [e1] at e2 e3;rw [e2] at h;rw [e2] at e3;rw [e3] at h;exact hid h
 obtain ⟨T,hT⟩:∃ T,toc 5 M1 M2 M3=T:=⟨_,rfl⟩;rw [hT] at HC hTl HTb HE2;clear hT HE HM1 HM2 HM3 HM4;go_wp2_with fail;refine HC.out.mono ?_;rintro e W5 ⟨b5,A5,c5,rfl,hO5,hb5,hN5⟩;clear z0 z1 z2 z3 z4;have HO5:=hid hO5.rd;have HOk:=hid (HO4.out.nw hN5);have HNk:=hid (HN4.out.trans hN5);have HLk:=hid fun k hk=>Nat.lt_of_lt_of_le (HLT4.out k hk) hN5.size
 have hFl:=frame_len (id:=5) (l:=T) (by omega);clear hO5;have HS5:=hid (AppendSection_any W5 _ _ _ _ _ 5 b5 A5 T.length c5 T HOk.out (by omega) (by omega) HO5.out rfl (by omega) HTb.out (HG.out.nw HNk.out));have HBy5:=hid (lt_append HBy.out (frame_lt (id:=5) (by omega) HTb.out));obtain ⟨F5,hF5⟩:∃ F,frame 5 T=F:=⟨_,rfl⟩;rw [hF5] at HS5 hFl HE2 HBy5;clear hF5;go_wp2_with fail;refine HS5.out.mono ?_;rintro e W6 hA;obtain ⟨b6,A6,c6,rfl,hO,hp,hN,_,_⟩:=hA.own [w.heap.size,w.heap.size+1+1] HNk.out HP4.out HLk.out;clear hA;obtain ⟨M6,hM6⟩:∃ M,M4+F5.length=M:=⟨_,rfl⟩;have hM6l:M6≤1000000000:=by omega
 have hlen:(hd0++F0++F1++F2++F3++F5).length=M6:=by
  have:=hO.len;rw [List.length_map] at this;omega
 rw [hM6] at hO ⊢;have HCA:=hid (CrcAppend_any W6 _ _ M6 _ _ hlen.symm (by omega) hO.rd hO.nilc HBy5.out (HG.out.nw hN));have hCl:(addCrc (hd0++F0++F1++F2++F3++F5)).length=M6+4:=by rw [addCrc_length,hlen]
 have HN6:=hid hN;obtain ⟨Z,hZ⟩:∃ Z,addCrc (hd0++F0++F1++F2++F3++F5)=Z:=⟨_,rfl⟩;rw [hZ] at HCA hCl HE2;clear hZ hO hp hN hM6 hlen;go_wp2_with fail;refine HCA.out.mono ?_;rintro e W7 ⟨b7,A7,c7,rfl,hO7,hb7,hN7⟩;obtain ⟨ZL,hZL⟩:∃ L,Z.length=L:=⟨_,rfl⟩;rw [hZL] at hO7 ⊢;have hZl:ZL≤1000000004:=by omega
 have HZL:=hid hZL;have HO7:=hid hO7;have HN7:=hid (HN6.out.trans hN7);have hb7':w.heap.size≤b7:=by have:=HN6.out.size;omega
 clear hZL hCl hO7 hN7;go_wp2_with (at_builtin;refine wpList_appS E_u8 Tryz.underlying9 rfl (.tmp 32) (.const (.string ⟨#[75,66,83,84]⟩)) rfl rfl HO7.out rfl (by show ZL+4≤_;omega) ?_;intro b8 A8 c8 W8 q1 q2 q3 q4;have Q1:=hid q1;have Q2:=hid q2;have Q3:=hid q3;have Q4:=hid q4;clear q1 q2 q3 q4)
 go_ret;have hl:(fileOf l0 l1 l2 l3).length=ZL+4:=by rw [HE2.out,List.length_append,HZL.out];rfl
 have hN8:Nw w W8:=Kp.nw HN7.out Q3.out hb7' hb7';have h:Ow W8 b8 5 1 A8 (ZL+4) c8 (cN .u8 (fileOf l0 l1 l2 l3)):=by
  rw [HE2.out];have h:=Q1.out;unfold cN at h ⊢;rw [List.map_append];exact h
 rcases Q2.out with ⟨h',_⟩ | h' | h'
 ·exact ⟨b8,A8,c8,by rw [hl];rfl,by rw [hl];exact h,by omega,hN8⟩
 ·exact ⟨b8,A8,c8,by rw [hl];rfl,by rw [hl];exact h,by have:=HN7.out.size;omega,hN8⟩
 ·refine ⟨w.heap.size,A8,c8,by rw [hl];rfl,?_,Nat.le_refl _,hN8⟩;rw [hl];rcases h with ⟨p,q⟩ | ⟨p,_⟩
  ·exact .inl ⟨p,q⟩
  ·rw [h'] at p;cases p
set_option maxRecDepth 100000 in
set_option maxHeartbeats 1600000 in
theorem RAssemble_any (w:World) (b0 b1 b2 b3:Nat) (A0 A1 A2 A3:Option Addr) (n0 n1 n2 n3 c0 c1 c2 c3:Nat) (l0 l1 l2 l3:List Nat) (h0:InB w b0 A0 n0 c0 l0) (h1:InB w b1 A1 n1 c1 l1) (h2:InB w b2 A2 n2 c2 l2) (h3:InB w b3 A3 n3 c3 l3) :
  Calls Tryz.prog 26 #[.agg #[.slice A0 n0 c0,.slice A1 n1 c1,.slice A2 n2 c2,.slice A3 n3 c3]] w (NewB w (fileOf l0 l1 l2 l3)):=by
 have hN:Nw w (((w.alloc (.cells #[.slice A0 n0 c0,.slice A1 n1 c1,.slice A2 n2 c2,.slice A3 n3 c3] 33)).alloc (.cells #[.int .u8 84,.int .u8 83,.int .u8 66,.int .u8 75,.int .u8 1] 5 (5,6))).alloc (.cells #[.int .i64 0,.int .i64 0,.int .i64 0,.int .i64 0,.int .i64 0] 99)):=(((Nw.refl w).alloc' _).alloc' _).alloc' _;have hB:(((w.alloc (.cells #[.slice A0 n0 c0,.slice A1 n1 c1,.slice A2 n2 c2,.slice A3 n3 c3] 33)).alloc (.cells #[.int .u8 84,.int .u8 83,.int .u8 66,.int .u8 75,.int .u8 1] 5 (5,6))).alloc (.cells #[.int .i64 0,.int .i64 0,.int .i64 0,.int .i64 0,.int .i64 0] 99)).heap[w.heap.size+1+1]? = some (.cells #[.int .i64 0,.int .i64 0,.int .i64 0,.int .i64 0,.int .i64 0] 99 (0,0)):=by
  have:=heap_alloc_new ((w.alloc (.cells #[.slice A0 n0 c0,.slice A1 n1 c1,.slice A2 n2 c2,.slice A3 n3 c3] 33)).alloc (.cells #[.int .u8 84,.int .u8 83,.int .u8 66,.int .u8 75,.int .u8 1] 5 (5,6))) (.cells #[.int .i64 0,.int .i64 0,.int .i64 0,.int .i64 0,.int .i64 0] 99);simpa using this
 have hX:(((w.alloc (.cells #[.slice A0 n0 c0,.slice A1 n1 c1,.slice A2 n2 c2,.slice A3 n3 c3] 33)).alloc (.cells #[.int .u8 84,.int .u8 83,.int .u8 66,.int .u8 75,.int .u8 1] 5 (5,6))).alloc (.cells #[.int .i64 0,.int .i64 0,.int .i64 0,.int .i64 0,.int .i64 0] 99)).heap[w.heap.size]? = some (.cells #[.slice A0 n0 c0,.slice A1 n1 c1,.slice A2 n2 c2,.slice A3 n3 c3] 33 (0,0)) :=
  (heap_alloc_old _ _ (by simp;omega)).trans ((heap_alloc_old _ _ (by simp)).trans (heap_alloc_new _ _))
 have hO:Apx (((w.alloc (.cells #[.slice A0 n0 c0,.slice A1 n1 c1,.slice A2 n2 c2,.slice A3 n3 c3] 33)).alloc (.cells #[.int .u8 84,.int .u8 83,.int .u8 66,.int .u8 75,.int .u8 1] 5 (5,6))).alloc (.cells #[.int .i64 0,.int .i64 0,.int .i64 0,.int .i64 0,.int .i64 0] 99)) (w.heap.size+1) 5 (some ⟨w.heap.size+1,0,none⟩) 5 5 (cN .u8 hd0):=by
  refine .inr ⟨.inr ⟨0,rfl,by simp,fun j u hu=>?_⟩,rfl,rfl,by omega⟩;have hh:(((w.alloc (.cells #[.slice A0 n0 c0,.slice A1 n1 c1,.slice A2 n2 c2,.slice A3 n3 c3] 33)).alloc (.cells #[.int .u8 84,.int .u8 83,.int .u8 66,.int .u8 75,.int .u8 1] 5 (5,6))).alloc (.cells #[.int .i64 0,.int .i64 0,.int .i64 0,.int .i64 0,.int .i64 0] 99)).heap[w.heap.size+1]? = some (.cells #[.int .u8 84,.int .u8 83,.int .u8 66,.int .u8 75,.int .u8 1] 5 (5,6)):=by
   refine (heap_alloc_old _ _ (by simp)).trans ?_;have:=heap_alloc_new (w.alloc (.cells #[.slice A0 n0 c0,.slice A1 n1 c1,.slice A2 n2 c2,.slice A3 n3 c3] 33)) (.cells #[.int .u8 84,.int .u8 83,.int .u8 66,.int .u8 75,.int .u8 1] 5 (5,6))
   rwa [World.size_alloc] at this
  have hc:∀ k,World.cell? (((w.alloc (.cells #[.slice A0 n0 c0,.slice A1 n1 c1,.slice A2 n2 c2,.slice A3 n3 c3] 33)).alloc (.cells #[.int .u8 84,.int .u8 83,.int .u8 66,.int .u8 75,.int .u8 1] 5 (5,6))).alloc (.cells #[.int .i64 0,.int .i64 0,.int .i64 0,.int .i64 0,.int .i64 0] 99)) ⟨w.heap.size+1,k,none⟩=(#[.int .u8 84,.int .u8 83,.int .u8 66,.int .u8 75,.int .u8 1]:Array Value)[k]?:=fun k=>by simp only [World.cell?,hh];rfl
  have hcn:(cN .u8 hd0)[j]? = (#[.int .u8 84,.int .u8 83,.int .u8 66,.int .u8 75,.int .u8 1]:Array Value)[j]?:=by
   rw [← Array.getElem?_toList];rfl
  rw [Nat.zero_add];exact (hc j).trans (hcn.symm.trans hu)
 have hLT:∀ k∈[w.heap.size,w.heap.size+1+1],k < (((w.alloc (.cells #[.slice A0 n0 c0,.slice A1 n1 c1,.slice A2 n2 c2,.slice A3 n3 c3] 33)).alloc (.cells #[.int .u8 84,.int .u8 83,.int .u8 66,.int .u8 75,.int .u8 1] 5 (5,6))).alloc (.cells #[.int .i64 0,.int .i64 0,.int .i64 0,.int .i64 0,.int .i64 0] 99)).heap.size:=by
  intro k hk;simp at hk ⊢;omega
 have hP:(w.heap.size≤w.heap.size+1∧w.heap.size+1 ∉ [w.heap.size,w.heap.size+1+1]):=⟨by omega,by simp⟩;have HF0:=hid (frame_len (id:=1) (l:=l0) (by have:=h0.small;have:=h0.len;omega));have HS0:=hid fun W (hN:Nw w W)=>RFrame_any W 1 b0 A0 n0 c0 l0 (by omega) (h0.rd.nw hN) h0.len (by have:=h0.small;omega) h0.byte
 have HF1:=hid (frame_len (id:=2) (l:=l1) (by have:=h1.small;have:=h1.len;omega));have HS1:=hid fun W (hN:Nw w W)=>RFrame_any W 2 b1 A1 n1 c1 l1 (by omega) (h1.rd.nw hN) h1.len (by have:=h1.small;omega) h1.byte
 have HF2:=hid (frame_len (id:=3) (l:=l2) (by have:=h2.small;have:=h2.len;omega));have HS2:=hid fun W (hN:Nw w W)=>RFrame_any W 3 b2 A2 n2 c2 l2 (by omega) (h2.rd.nw hN) h2.len (by have:=h2.small;omega) h2.byte
 have HF3:=hid (frame_len (id:=4) (l:=l3) (by have:=h3.small;have:=h3.len;omega));have HS3:=hid fun W (hN:Nw w W)=>RFrame_any W 4 b3 A3 n3 c3 l3 (by omega) (h3.rd.nw hN) h3.len (by have:=h3.small;omega) h3.byte
 have kc:(convert 25 25 (.slice (some ⟨w.heap.size+1,0,none⟩) 5 5)).run Tryz.prog ((w.alloc (.cells #[.slice A0 n0 c0,.slice A1 n1 c1,.slice A2 n2 c2,.slice A3 n3 c3] 33)).alloc (.cells #[.int .u8 84,.int .u8 83,.int .u8 66,.int .u8 75,.int .u8 1] 5))=.ok (.slice (some ⟨w.heap.size+1,0,none⟩) 5 5) ((w.alloc (.cells #[.slice A0 n0 c0,.slice A1 n1 c1,.slice A2 n2 c2,.slice A3 n3 c3] 33)).alloc (.cells #[.int .u8 84,.int .u8 83,.int .u8 66,.int .u8 75,.int .u8 1] 5 (5,6))):=by
  have:=Lib.run_convert_bytes_const (P:=Tryz.prog) (w.alloc (.cells #[.slice A0 n0 c0,.slice A1 n1 c1,.slice A2 n2 c2,.slice A3 n3 c3] 33)) 25 5 #[.int .u8 84,.int .u8 83,.int .u8 66,.int .u8 75,.int .u8 1] 5 5 Tryz.underlying25 Tryz.underlying5;rw [World.size_alloc] at this;exact this
 have HE:=hid (fileOf_eq l0 l1 l2 l3);have HBy:=hid (show ∀ x∈hd0++frame 1 l0++frame 2 l1++frame 3 l2++frame 4 l3,x < 256 from lt_append (lt_append (lt_append (lt_append hd0_lt (frame_lt (by omega) h0.byte)) (frame_lt (by omega) h1.byte)) (frame_lt (by omega) h2.byte)) (frame_lt (by omega) h3.byte));obtain ⟨F0,hF0⟩:∃ F,frame 1 l0=F:=⟨_,rfl⟩;have HFp0:=hid (frame_pos 1 l0);rw [hF0] at HF0 HE HBy HFp0;simp only [hF0] at HS0;obtain ⟨F1,hF1⟩:∃ F,frame 2 l1=F:=⟨_,rfl⟩;have HFp1:=hid (frame_pos 2 l1);rw [hF1] at HF1 HE HBy HFp1;simp only [hF1] at HS1;obtain ⟨F2,hF2⟩:∃ F,frame 3 l2=F:=⟨_,rfl⟩;have HFp2:=hid (frame_pos 3 l2);rw [hF2] at HF2 HE HBy HFp2;simp only [hF2] at HS2;obtain ⟨F3,hF3⟩:∃ F,frame 4 l3=F:=⟨_,rfl⟩;have HFp3:=hid (frame_pos 4 l3);rw [hF3] at HF3 HE HBy HFp3;simp only [hF3] at HS3;clear h0 h1 h2 h3 hF0 hF1 hF2 hF3;go_enter Tryz.func26,Tryz.ntmps26
 go_wp2;generalize ((w.alloc (.cells #[.slice A0 n0 c0,.slice A1 n1 c1,.slice A2 n2 c2,.slice A3 n3 c3] 33)).alloc (.cells #[.int .u8 84,.int .u8 83,.int .u8 66,.int .u8 75,.int .u8 1] 5 (5,6))).alloc (.cells #[.int .i64 0,.int .i64 0,.int .i64 0,.int .i64 0,.int .i64 0] 99)=W0 at *;have HN0:=hid hN;have HB0:=hid hB;have HX0:=hid hX;have HO0:=hid hO;have HLT0:=hid hLT;have HP0:=hid (show _∨(some (⟨w.heap.size+1,0,none⟩:Addr))=none from .inl hP);clear hN hB hX hO hLT hP;refine wp_loop_rounds 5 ?_;have hw0:(5:Nat)≤5:=Nat.le_refl _;rw [rounds_succ];have hf:=HF0.out;have ca:W0.cell? ⟨w.heap.size+1+1,0,none⟩=some (.int .i64 0):=by simp [World.cell?,HB0.out]
 have cf:W0.frozen? ⟨w.heap.size+1+1,0,none⟩=false:=at_freeL HB0.out;have cx:(W0.setCell ⟨w.heap.size+1+1,0,none⟩ (.int .i64 (5:Int))).cell? ⟨w.heap.size,0,none⟩=some (.slice A0 n0 c0):=by
  rw [World.cell?_setCell_other _ _ _ _ (by intro h;injection h with h;omega)];simp [World.cell?,HX0.out]
 have hset:Kp (w.heap.size+1+1) (w.heap.size+1+1) W0 (W0.setCell ⟨w.heap.size+1+1,0,none⟩ (.int .i64 (5:Int))):=(Kp.refl _ _ _).setCell' (p:=⟨w.heap.size+1+1,0,none⟩) (.inl rfl) _;have HNs:=hid (HN0.out.setCell' (p:=⟨w.heap.size+1+1,0,none⟩) (show w.heap.size≤w.heap.size+1+1 by omega) (.int .i64 (5:Int)));have HOs:=hid (HO0.out.kp hset (by rcases HP0.out with h | h;exact .inl (fun e=>h.2 (List.mem_cons_of_mem _ (List.mem_singleton.2 e)));exact .inr h));have HBs:=hid (set_at (k:=0) (.int .i64 (5:Int)) HB0.out);have HXs:=hid ((hset.block w.heap.size (HLT0.out _ (by simp)) (by omega) (by omega)).trans HX0.out);have HLs:=hid fun k hk=>Nat.lt_of_lt_of_le (HLT0.out k hk) hset.size
 clear hset HN0 HO0 HB0 HX0 HLT0;go_wp2_with fail;clear ca cf;clear cx;generalize W0.setCell ⟨w.heap.size+1+1,0,none⟩ (.int .i64 (5:Int))=X0 at *;refine (HS0.out X0 HNs.out).mono ?_;rintro e Y0 ⟨d0,D0,e0,rfl,hD,_,hY⟩;have HD:=hid hD.rd;have HOk:=hid (HOs.out.nw hY);have HNy:=hid (HNs.out.trans hY);have HBy2:=hid ((hY.block _ (HLs.out _ (by simp))).trans HBs.out);have HXy:=hid ((hY.block _ (HLs.out _ (by simp))).trans HXs.out);have HLy:=hid fun k hk=>Nat.lt_of_lt_of_le (HLs.out k hk) hY.size
 clear hD hY HOs HNs HBs HXs HLs;go_wp2_with (at_builtin;refine wpList_appX E_u8 rfl (.tmp 16) (.tmp 23) rfl rfl HOk.out rfl HD.out (by rw [List.length_map]) (by have:=HFp0.out;omega) (u8_lit _) (by omega) (by omega) ?_;intro b1' A1' c1' W1 q1 q2 q3 q4;have HA:=hid (AppB.of_appX q1 q2 q3 q4);clear q1 q2 q3 q4)
 obtain ⟨b',A',c',he,hO,hp,hN,hK,hlt⟩:=HA.out.own [w.heap.size,w.heap.size+1+1] HNy.out HP0.out HLy.out;injection he with he
 injection he with e1 e2 e3
 subst e1 e3;have HB1:=hid ((hK (w.heap.size+1+1) (by simp)).trans HBy2.out);have HX1:=hid ((hK w.heap.size (by simp)).trans HXy.out);have HLT1:=hid hlt;have HN1:=hid hN;have HP1:=hid hp;obtain ⟨M1,hM⟩:∃ M,5+F0.length=M:=⟨_,rfl⟩;have hM1:M1≤100000025:=by omega
 have HM1:=hid hM;rw [hM] at hO ⊢;have HO1:=hid (show Apx W1 b' 5 A1' M1 c1' (cN .u8 (hd0++F0)) from .inl hO);clear hO hN hp hK hlt hM HA;go_wp2_with fail;rw [rounds_succ];have hf:=HF1.out;have ca:W1.cell? ⟨w.heap.size+1+1,1,none⟩=some (.int .i64 0):=by simp [World.cell?,HB1.out]
 have cf:W1.frozen? ⟨w.heap.size+1+1,1,none⟩=false:=at_freeL HB1.out;have cx:(W1.setCell ⟨w.heap.size+1+1,1,none⟩ (.int .i64 (M1:Int))).cell? ⟨w.heap.size,1,none⟩=some (.slice A1 n1 c1):=by
  rw [World.cell?_setCell_other _ _ _ _ (by intro h;injection h with h;omega)];simp [World.cell?,HX1.out]
 have hset:Kp (w.heap.size+1+1) (w.heap.size+1+1) W1 (W1.setCell ⟨w.heap.size+1+1,1,none⟩ (.int .i64 (M1:Int))):=(Kp.refl _ _ _).setCell' (p:=⟨w.heap.size+1+1,1,none⟩) (.inl rfl) _;have HNs:=hid (HN1.out.setCell' (p:=⟨w.heap.size+1+1,1,none⟩) (show w.heap.size≤w.heap.size+1+1 by omega) (.int .i64 (M1:Int)));have HOs:=hid (HO1.out.kp hset (by rcases HP1.out with h | h;exact .inl (fun e=>h.2 (List.mem_cons_of_mem _ (List.mem_singleton.2 e)));exact .inr h));have HBs:=hid (set_at (k:=1) (.int .i64 (M1:Int)) HB1.out);have HXs:=hid ((hset.block w.heap.size (HLT1.out _ (by simp)) (by omega) (by omega)).trans HX1.out);have HLs:=hid fun k hk=>Nat.lt_of_lt_of_le (HLT1.out k hk) hset.size
 clear hset HN1 HO1 HB1 HX1 HLT1;go_wp2_with fail;clear ca cf;clear cx;generalize W1.setCell ⟨w.heap.size+1+1,1,none⟩ (.int .i64 (M1:Int))=X1 at *;refine (HS1.out X1 HNs.out).mono ?_;rintro e Y1 ⟨d1,D1,e1,rfl,hD,_,hY⟩;have HD:=hid hD.rd;have HOk:=hid (HOs.out.nw hY);have HNy:=hid (HNs.out.trans hY);have HBy2:=hid ((hY.block _ (HLs.out _ (by simp))).trans HBs.out);have HXy:=hid ((hY.block _ (HLs.out _ (by simp))).trans HXs.out);have HLy:=hid fun k hk=>Nat.lt_of_lt_of_le (HLs.out k hk) hY.size
 clear hD hY HOs HNs HBs HXs HLs;go_wp2_with (at_builtin;refine wpList_appX E_u8 rfl (.tmp 16) (.tmp 23) rfl rfl HOk.out rfl HD.out (by rw [List.length_map]) (by have:=HFp1.out;omega) (u8_lit _) (by omega) (by omega) ?_;intro b2' A2' c2' W2 q1 q2 q3 q4;have HA:=hid (AppB.of_appX q1 q2 q3 q4);clear q1 q2 q3 q4)
 obtain ⟨b',A',c',he,hO,hp,hN,hK,hlt⟩:=HA.out.own [w.heap.size,w.heap.size+1+1] HNy.out HP1.out HLy.out;injection he with he
 injection he with e1 e2 e3
 subst e1 e3;have HB2:=hid ((hK (w.heap.size+1+1) (by simp)).trans HBy2.out);have HX2:=hid ((hK w.heap.size (by simp)).trans HXy.out);have HLT2:=hid hlt;have HN2:=hid hN;have HP2:=hid hp;obtain ⟨M2,hM⟩:∃ M,M1+F1.length=M:=⟨_,rfl⟩;have hM2:M2≤200000045:=by omega
 have HM2:=hid hM;rw [hM] at hO ⊢;have HO2:=hid (show Apx W2 b' 5 A2' M2 c2' (cN .u8 (hd0++F0++F1)) from .inl hO);clear hO hN hp hK hlt hM HA;go_wp2_with fail;rw [rounds_succ];have hf:=HF2.out;have ca:W2.cell? ⟨w.heap.size+1+1,2,none⟩=some (.int .i64 0):=by simp [World.cell?,HB2.out]
 have cf:W2.frozen? ⟨w.heap.size+1+1,2,none⟩=false:=at_freeL HB2.out;have cx:(W2.setCell ⟨w.heap.size+1+1,2,none⟩ (.int .i64 (M2:Int))).cell? ⟨w.heap.size,2,none⟩=some (.slice A2 n2 c2):=by
  rw [World.cell?_setCell_other _ _ _ _ (by intro h;injection h with h;omega)];simp [World.cell?,HX2.out]
 have hset:Kp (w.heap.size+1+1) (w.heap.size+1+1) W2 (W2.setCell ⟨w.heap.size+1+1,2,none⟩ (.int .i64 (M2:Int))):=(Kp.refl _ _ _).setCell' (p:=⟨w.heap.size+1+1,2,none⟩) (.inl rfl) _;have HNs:=hid (HN2.out.setCell' (p:=⟨w.heap.size+1+1,2,none⟩) (show w.heap.size≤w.heap.size+1+1 by omega) (.int .i64 (M2:Int)));have HOs:=hid (HO2.out.kp hset (by rcases HP2.out with h | h;exact .inl (fun e=>h.2 (List.mem_cons_of_mem _ (List.mem_singleton.2 e)));exact .inr h));have HBs:=hid (set_at (k:=2) (.int .i64 (M2:Int)) HB2.out);have HXs:=hid ((hset.block w.heap.size (HLT2.out _ (by simp)) (by omega) (by omega)).trans HX2.out);have HLs:=hid fun k hk=>Nat.lt_of_lt_of_le (HLT2.out k hk) hset.size
 clear hset HN2 HO2 HB2 HX2 HLT2;go_wp2_with fail;clear ca cf;clear cx;generalize W2.setCell ⟨w.heap.size+1+1,2,none⟩ (.int .i64 (M2:Int))=X2 at *;refine (HS2.out X2 HNs.out).mono ?_;rintro e Y2 ⟨d2,D2,e2,rfl,hD,_,hY⟩;have HD:=hid hD.rd;have HOk:=hid (HOs.out.nw hY);have HNy:=hid (HNs.out.trans hY);have HBy2:=hid ((hY.block _ (HLs.out _ (by simp))).trans HBs.out);have HXy:=hid ((hY.block _ (HLs.out _ (by simp))).trans HXs.out);have HLy:=hid fun k hk=>Nat.lt_of_lt_of_le (HLs.out k hk) hY.size
 clear hD hY HOs HNs HBs HXs HLs;go_wp2_with (at_builtin;refine wpList_appX E_u8 rfl (.tmp 16) (.tmp 23) rfl rfl HOk.out rfl HD.out (by rw [List.length_map]) (by have:=HFp2.out;omega) (u8_lit _) (by omega) (by omega) ?_;intro b3' A3' c3' W3 q1 q2 q3 q4;have HA:=hid (AppB.of_appX q1 q2 q3 q4);clear q1 q2 q3 q4)
 obtain ⟨b',A',c',he,hO,hp,hN,hK,hlt⟩:=HA.out.own [w.heap.size,w.heap.size+1+1] HNy.out HP2.out HLy.out;injection he with he
 injection he with e1 e2 e3
 subst e1 e3;have HB3:=hid ((hK (w.heap.size+1+1) (by simp)).trans HBy2.out);have HX3:=hid ((hK w.heap.size (by simp)).trans HXy.out);have HLT3:=hid hlt;have HN3:=hid hN;have HP3:=hid hp;obtain ⟨M3,hM⟩:∃ M,M2+F2.length=M:=⟨_,rfl⟩;have hM3:M3≤300000065:=by omega
 have HM3:=hid hM;rw [hM] at hO ⊢;have HO3:=hid (show Apx W3 b' 5 A3' M3 c3' (cN .u8 (hd0++F0++F1++F2)) from .inl hO);clear hO hN hp hK hlt hM HA;go_wp2_with fail;rw [rounds_succ];have hf:=HF3.out;have ca:W3.cell? ⟨w.heap.size+1+1,3,none⟩=some (.int .i64 0):=by simp [World.cell?,HB3.out]
 have cf:W3.frozen? ⟨w.heap.size+1+1,3,none⟩=false:=at_freeL HB3.out;have cx:(W3.setCell ⟨w.heap.size+1+1,3,none⟩ (.int .i64 (M3:Int))).cell? ⟨w.heap.size,3,none⟩=some (.slice A3 n3 c3):=by
  rw [World.cell?_setCell_other _ _ _ _ (by intro h;injection h with h;omega)];simp [World.cell?,HX3.out]
 have hset:Kp (w.heap.size+1+1) (w.heap.size+1+1) W3 (W3.setCell ⟨w.heap.size+1+1,3,none⟩ (.int .i64 (M3:Int))):=(Kp.refl _ _ _).setCell' (p:=⟨w.heap.size+1+1,3,none⟩) (.inl rfl) _;have HNs:=hid (HN3.out.setCell' (p:=⟨w.heap.size+1+1,3,none⟩) (show w.heap.size≤w.heap.size+1+1 by omega) (.int .i64 (M3:Int)));have HOs:=hid (HO3.out.kp hset (by rcases HP3.out with h | h;exact .inl (fun e=>h.2 (List.mem_cons_of_mem _ (List.mem_singleton.2 e)));exact .inr h));have HBs:=hid (set_at (k:=3) (.int .i64 (M3:Int)) HB3.out);have HXs:=hid ((hset.block w.heap.size (HLT3.out _ (by simp)) (by omega) (by omega)).trans HX3.out);have HLs:=hid fun k hk=>Nat.lt_of_lt_of_le (HLT3.out k hk) hset.size
 clear hset HN3 HO3 HB3 HX3 HLT3;go_wp2_with fail;clear ca cf;clear cx;generalize W3.setCell ⟨w.heap.size+1+1,3,none⟩ (.int .i64 (M3:Int))=X3 at *;refine (HS3.out X3 HNs.out).mono ?_;rintro e Y3 ⟨d3,D3,e3,rfl,hD,_,hY⟩;have HD:=hid hD.rd;have HOk:=hid (HOs.out.nw hY);have HNy:=hid (HNs.out.trans hY);have HBy2:=hid ((hY.block _ (HLs.out _ (by simp))).trans HBs.out);have HXy:=hid ((hY.block _ (HLs.out _ (by simp))).trans HXs.out);have HLy:=hid fun k hk=>Nat.lt_of_lt_of_le (HLs.out k hk) hY.size
 clear hD hY HOs HNs HBs HXs HLs;go_wp2_with (at_builtin;refine wpList_appX E_u8 rfl (.tmp 16) (.tmp 23) rfl rfl HOk.out rfl HD.out (by rw [List.length_map]) (by have:=HFp3.out;omega) (u8_lit _) (by omega) (by omega) ?_;intro b4' A4' c4' W4 q1 q2 q3 q4;have HA:=hid (AppB.of_appX q1 q2 q3 q4);clear q1 q2 q3 q4)
 obtain ⟨b',A',c',he,hO,hp,hN,hK,hlt⟩:=HA.out.own [w.heap.size,w.heap.size+1+1] HNy.out HP3.out HLy.out;injection he with he
 injection he with e1 e2 e3
 subst e1 e3;have HB4:=hid ((hK (w.heap.size+1+1) (by simp)).trans HBy2.out);have HX4:=hid ((hK w.heap.size (by simp)).trans HXy.out);have HLT4:=hid hlt;have HN4:=hid hN;have HP4:=hid hp;obtain ⟨M4,hM⟩:∃ M,M3+F3.length=M:=⟨_,rfl⟩;have hM4:M4≤400000085:=by omega
 have HM4:=hid hM;rw [hM] at hO ⊢;have HO4:=hid (show Apx W4 b' 5 A4' M4 c4' (cN .u8 (hd0++F0++F1++F2++F3)) from .inl hO);clear hO hN hp hK hlt hM HA;go_wp2_with fail;rw [rounds_succ];have z0:W4.cell? ⟨w.heap.size+1+1,0,none⟩=some (.int .i64 5):=by simp [World.cell?,HB4.out]
 have z1:W4.cell? ⟨w.heap.size+1+1,1,none⟩=some (.int .i64 (M1:Int)):=by simp [World.cell?,HB4.out]
 have z2:W4.cell? ⟨w.heap.size+1+1,2,none⟩=some (.int .i64 (M2:Int)):=by simp [World.cell?,HB4.out]
 have z3:W4.cell? ⟨w.heap.size+1+1,3,none⟩=some (.int .i64 (M3:Int)):=by simp [World.cell?,HB4.out]
 have z4:W4.cell? ⟨w.heap.size+1+1,4,none⟩=some (.int .i64 0):=by simp [World.cell?,HB4.out]
 have HC:Hid (Calls Tryz.prog 61 #[.agg #[.int .i64 5,.int .i64 (M1:Int),.int .i64 (M2:Int),.int .i64 (M3:Int),.int .i64 0]] W4 (NewB W4 (toc 5 M1 M2 M3))):=hid (Rcontents_any W4 5 M1 M2 M3 0 (by omega) (by omega) (by omega) (by omega));have hTl:=toc_len (a0:=5) (a1:=M1) (a2:=M2) (a3:=M3) (by omega) (by omega) (by omega) (by omega);have HTb:=hid (toc_lt 5 M1 M2 M3);have HE2:Hid (fileOf l0 l1 l2 l3=addCrc (hd0++F0++F1++F2++F3++frame 5 (toc 5 M1 M2 M3))++[75,66,83,84]):=by
  have h:=HE.out;have e1:=HM1.out;have e2:=HM2.out;have e3:=HM3.out;rw [← e1] at e2;rw [← e2] at e3;rw [e1] at h;rw [e1] at e2 e3;rw [e2] at h;rw [e2] at e3;rw [e3] at h;exact hid h
 obtain ⟨T,hT⟩:∃ T,toc 5 M1 M2 M3=T:=⟨_,rfl⟩;rw [hT] at HC hTl HTb HE2;clear hT HE HM1 HM2 HM3 HM4;go_wp2_with fail;refine HC.out.mono ?_;rintro e W5 ⟨b5,A5,c5,rfl,hO5,hb5,hN5⟩;clear z0 z1 z2 z3 z4;have HO5:=hid hO5.rd;have HOk:=hid (HO4.out.nw hN5);have HNk:=hid (HN4.out.trans hN5);have HLk:=hid fun k hk=>Nat.lt_of_lt_of_le (HLT4.out k hk) hN5.size
 have hFl:=frame_len (id:=5) (l:=T) (by omega);clear hO5;have HS5:=hid (RFrame_any W5 5 b5 A5 T.length c5 T (by omega) HO5.out rfl (by omega) HTb.out);have HBy5:=hid (lt_append HBy.out (frame_lt (id:=5) (by omega) HTb.out));have hFp:=frame_pos 5 T;obtain ⟨F5,hF5⟩:∃ F,frame 5 T=F:=⟨_,rfl⟩;rw [hF5] at HS5 hFl HE2 HBy5 hFp;clear hF5;go_wp2_with fail;refine HS5.out.mono ?_;rintro e Y ⟨d,D,dc,rfl,hD,_,hY⟩;have HD:=hid hD.rd;have HOj:=hid (HOk.out.nw hY);have HNj:=hid (HNk.out.trans hY);have HLj:=hid fun k hk=>Nat.lt_of_lt_of_le (HLk.out k hk) hY.size
 clear hD hY HOk HNk HLk;go_wp2_with (at_builtin;refine wpList_appX E_u8 rfl (.tmp 25) (.tmp 28) rfl rfl HOj.out rfl HD.out (by rw [List.length_map]) hFp (u8_lit _) (by omega) (by omega) ?_;intro b6 A6 c6 W6 q1 q2 q3 q4;have HA:=hid (AppB.of_appX q1 q2 q3 q4);clear q1 q2 q3 q4)
 obtain ⟨b',A',c',he,hO,hp,hN,_,_⟩:=HA.out.own [w.heap.size,w.heap.size+1+1] HNj.out HP4.out HLj.out;injection he with he
 injection he with e1 e2 e3
 subst e1 e3;clear HA;obtain ⟨M6,hM6⟩:∃ M,M4+F5.length=M:=⟨_,rfl⟩;have hM6l:M6≤1000000000:=by omega
 have hlen:(hd0++F0++F1++F2++F3++F5).length=M6:=by
  have:=hO.len;rw [List.length_map] at this;omega
 rw [hM6] at hO ⊢;have HCA:=hid (RCrcAppend_any W6 _ _ M6 _ _ hlen.symm (by omega) hO.rd hO.nilc HBy5.out);have hCl:(addCrc (hd0++F0++F1++F2++F3++F5)).length=M6+4:=by rw [addCrc_length,hlen]
 have HN6:=hid hN;obtain ⟨Z,hZ⟩:∃ Z,addCrc (hd0++F0++F1++F2++F3++F5)=Z:=⟨_,rfl⟩;rw [hZ] at HCA hCl HE2;clear hZ hO hp hN hM6 hlen;go_wp2_with fail;refine HCA.out.mono ?_;rintro e W7 ⟨b7,A7,c7,rfl,hO7,hb7,hN7⟩;obtain ⟨ZL,hZL⟩:∃ L,Z.length=L:=⟨_,rfl⟩;rw [hZL] at hO7 ⊢;have hZl:ZL≤1000000004:=by omega
 have HZL:=hid hZL;have HO7:=hid hO7;have HN7:=hid (HN6.out.trans hN7);have hb7':w.heap.size≤b7:=by have:=HN6.out.size;omega
 clear hZL hCl hO7 hN7;go_wp2_with (at_builtin;refine wpList_appS E_u8 Tryz.underlying9 rfl (.tmp 31) (.const (.string ⟨#[75,66,83,84]⟩)) rfl rfl HO7.out rfl (by show ZL+4≤_;omega) ?_;intro b8 A8 c8 W8 q1 q2 q3 q4;have Q1:=hid q1;have Q2:=hid q2;have Q3:=hid q3;have Q4:=hid q4;clear q1 q2 q3 q4)
 go_ret;have hl:(fileOf l0 l1 l2 l3).length=ZL+4:=by rw [HE2.out,List.length_append,HZL.out];rfl
 have hN8:Nw w W8:=Kp.nw HN7.out Q3.out hb7' hb7';have h:Ow W8 b8 5 1 A8 (ZL+4) c8 (cN .u8 (fileOf l0 l1 l2 l3)):=by
  rw [HE2.out];have h:=Q1.out;unfold cN at h ⊢;rw [List.map_append];exact h
 rcases Q2.out with ⟨h',_⟩ | h' | h'
 ·exact ⟨b8,A8,c8,by rw [hl];rfl,by rw [hl];exact h,by omega,hN8⟩
 ·exact ⟨b8,A8,c8,by rw [hl];rfl,by rw [hl];exact h,by have:=HN7.out.size;omega,hN8⟩
 ·refine ⟨w.heap.size,A8,c8,by rw [hl];rfl,?_,Nat.le_refl _,hN8⟩;rw [hl];rcases h with ⟨p,q⟩ | ⟨p,_⟩
  ·exact .inl ⟨p,q⟩
  ·rw [h'] at p;cases p
end
section
open Go Go.RowKit Go.Lib Go.Sort Go.Shelf
attribute [local go_sem] Oper.semAt_some
def Kty (e:TypeId) (W W':World):Prop:=∀ (k:Nat) (o:Obj),W.heap[k]? = some o→(∀ cs fr,o≠.cells cs e fr)→W'.heap[k]? = some o
theorem Nw.kty {W W':World} (h:Nw W W') (e:TypeId):Kty e W W':=fun k _ ho _=>(h.block k (lt_of_block ho)).trans ho
theorem Kp.kty {g:Nat} {e:TypeId} {W W':World} (h:Kp g g W W') {cs:Array Value} {fr:Nat × Nat} (hg:W.heap[g]? = some (.cells cs e fr)):Kty e W W':=fun k o ho hne=>by
 refine (h.block k (lt_of_block ho) ?_ ?_).trans ho
 ·rintro rfl;rw [hg] at ho;cases ho;exact hne _ _ rfl
 ·rintro rfl;rw [hg] at ho;cases ho;exact hne _ _ rfl
theorem Kty.get {e e':TypeId} {W W':World} (h:Kty e W W') {k:Nat} {cs:Array Value} {fr:Nat × Nat} (hk:W.heap[k]? = some (.cells cs e' fr)) (hne:e'≠e):W'.heap[k]? = some (.cells cs e' fr) :=
 h k _ hk (fun _ _ q=>by cases q;exact hne rfl)
def KeepC (A B:World):Prop:=(∀ (k:Nat) (cs:Array Value) (e:TypeId) (fr:Nat × Nat),A.heap[k]? = some (.cells cs e fr)→B.heap[k]? = some (.cells cs e fr))∧A.heap.size≤B.heap.size
theorem KeepC.nw {A B:World} (h:Nw A B):KeepC A B:=⟨fun k _ _ _ hk=>(h.block k (lt_of_block hk)).trans hk,h.size⟩
theorem KeepC.turn {A B:World} {g:Nat} (h:Kp g g A B) {o:Obj} (ho:A.heap[g]? = some o) (hc:o.isCells=false):KeepC A B:=by
 refine ⟨fun k cs e fr hk=>?_,h.size⟩;refine (h.block k (lt_of_block hk) ?_ ?_).trans hk
 ·rintro rfl;rw [ho] at hk;cases hk;cases hc
 ·rintro rfl;rw [ho] at hk;cases hk;cases hc
theorem Ow.keepT {w w':World} {b n c:Nat} {e:TypeId} {size:Nat} {A:Option Addr} {xs:List Value} (h:Ow w b e size A n c xs) (hk:∀ (k:Nat) (cs:Array Value) (fr:Nat × Nat),w.heap[k]? = some (.cells cs e fr)→k=b→w'.heap[k]? = some (.cells cs e fr)) (hs:w.heap.size≤w'.heap.size):Ow w' b e size A n c xs:=by
 rcases h with ⟨rfl,rfl,rfl,rfl⟩ | ⟨rfl,hlt,h⟩
 ·exact Ow.nil _ _ _ _
 ·refine .inr ⟨rfl,Nat.lt_of_lt_of_le hlt hs,h.1,?_⟩;rcases h.2 with ⟨hv,_⟩ | ⟨g0,cap,cur,hv,hbg,hh,r⟩
  ·cases hv
  ·have hg:b=g0:=by injection hv with x;injection x with x;injection x
   subst hg;exact .inr ⟨b,cap,cur,hv,hbg,hk _ _ _ hh rfl,r⟩
theorem Ow.keepC {w w':World} {b n c:Nat} {e:TypeId} {size:Nat} {A:Option Addr} {xs:List Value} (h:Ow w b e size A n c xs) (hk:KeepC w w'):Ow w' b e size A n c xs:=h.keepT (fun k cs fr hh _=>hk.1 k cs e fr hh) hk.2
theorem Ow.kty {w w':World} {b n c:Nat} {e e':TypeId} {size:Nat} {A:Option Addr} {xs:List Value} (h:Ow w b e size A n c xs) (hk:Kty e' w w') (hne:e≠e') (hs:w.heap.size≤w'.heap.size):Ow w' b e size A n c xs:=h.keepT (fun _ _ _ hh _=>hk.get hh hne) hs
abbrev RowP:=Nat × Option Addr × Nat
def RowsAt (l:List Ser) (ls:Nat→List Nat) (R:Nat→RowP) (cs:Array Value):Prop :=
 cs.size=l.length*2∧∀ j (h:j < l.length),cs[j*2]? = some (.slice l[j].al l[j].labs.length l[j].cl)∧cs[j*2+1]? = some (.slice (R j).2.1 (ls j).length (R j).2.2)
structure RowsOw (w W:World) (n:Nat) (ls:Nat→List Nat) (R:Nat→RowP):Prop where
 ow:∀ j,j < n→Ow W (R j).1 3 1 (R j).2.1 (ls j).length (R j).2.2 (cN .i64 (ls j))∧((R j).2.1=none∨w.heap.size≤(R j).1)
 ne:∀ j k,j < n→k < n→j≠k→(R j).2.1=none∨(R k).2.1=none∨(R j).1≠(R k).1
def DatI (w W:World) (D:Nat) (dat:List Nat):Prop :=
 ∃ (bd:Nat) (Ad:Option Addr) (cd:Nat),W.heap[D]? = some (.cells #[.slice Ad dat.length cd] 25 (0,0))∧Ow W bd 5 1 Ad dat.length cd (cN .u8 dat)∧(Ad=none∨w.heap.size≤bd)
def RowI (w W:World) (LR:Nat) (l:List Ser) (ls:Nat→List Nat):Prop :=
 ∃ (R:Nat→RowP) (cs:Array Value),W.heap[LR]? = some (.cells cs 60 (0,0))∧RowsAt l ls R cs∧RowsOw w W l.length ls R
structure SecI (w W:World) (D LB LR:Nat) (l:List Ser) (dat:List Nat) (ls:Nat→List Nat):Prop where
 nw:Nw w W
 hD:w.heap.size≤D
 hLB:w.heap.size≤LB
 hLR:w.heap.size≤LR
 box:W.heap[LB]? = some (.cells #[.slice (some ⟨LR,0,none⟩) l.length l.length] 56 (0,0))
 dat:DatI w W D dat
 row:RowI w W LR l ls
section
variable {w W W':World} {D LB LR:Nat} {l:List Ser} {dat:List Nat} {ls:Nat→List Nat}
theorem DatI.keep (h:DatI w W D dat) (hk:KeepC W W'):DatI w W' D dat:=by
 obtain ⟨bd,Ad,cd,h1,h2,h3⟩:=h;exact ⟨bd,Ad,cd,hk.1 _ _ _ _ h1,h2.keepC hk,h3⟩
theorem RowI.keep (h:RowI w W LR l ls) (hk:KeepC W W'):RowI w W' LR l ls:=by
 obtain ⟨R,cs,h1,h2,h3⟩:=h;exact ⟨R,cs,hk.1 _ _ _ _ h1,h2,fun j hj=>⟨(h3.ow j hj).1.keepC hk,(h3.ow j hj).2⟩,h3.ne⟩
theorem SecI.keep (h:SecI w W D LB LR l dat ls) (hk:KeepC W W') (hN:Nw w W'):SecI w W' D LB LR l dat ls :=
 ⟨hN,h.hD,h.hLB,h.hLR,hk.1 _ _ _ _ h.box,h.dat.keep hk,h.row.keep hk⟩
theorem RowI.kty (h:RowI w W LR l ls) {e:TypeId} (hk:Kty e W W') (h1:60≠e) (h2:3≠e) (hs:W.heap.size≤W'.heap.size):RowI w W' LR l ls:=by
 obtain ⟨R,cs,q1,q2,q3⟩:=h;exact ⟨R,cs,hk.get q1 h1,q2,fun j hj=>⟨(q3.ow j hj).1.kty hk h2 hs,(q3.ow j hj).2⟩,q3.ne⟩
theorem SecI.data (h:SecI w W D LB LR l dat ls) {bd b' cd c':Nat} {Ad A':Option Addr} {ch:List Nat} {W1:World}
  (hO:Ow W bd 5 1 Ad dat.length cd (cN .u8 dat)) (hb:Ad=none∨w.heap.size≤bd) (hD:W.heap[D]? = some (.cells #[.slice Ad dat.length cd] 25 (0,0)))
  (r1:Ow W1 b' 5 1 A' (dat.length+ch.length) c' (cN .u8 dat++cN .u8 ch)) (r2:b'=bd∨W.heap.size≤b') (r3:Kp bd bd W W1) (r4:Ad=none→Nw W W1∧(W.heap.size≤b'∨A'=none)) :
  SecI w (W1.setCell ⟨D,0,none⟩ (.slice A' (dat.length+ch.length) c')) D LB LR l (dat++ch) ls:=by
 have hs:=h.nw.size;have hs1:=r3.size;have hkt:Kty 5 W W1:=by
  cases Ad with
  | none=>exact (r4 rfl).1.kty _
  | some a =>
   obtain ⟨cs,fr,hbk⟩:=hO.blk;exact r3.kty hbk
 have hN1:Nw w W1:=by
  by_cases hA:Ad=none
  ·exact h.nw.trans (r4 hA).1
  ·have:=hb.resolve_left hA;exact Kp.nw h.nw r3 this this
 have hD1:W1.heap[D]? = _:=hkt.get hD (by decide);have hKD:Kp D D W1 (W1.setCell ⟨D,0,none⟩ (.slice A' (dat.length+ch.length) c')):=(Kp.refl D D W1).setCell' (p:=⟨D,0,none⟩) (.inl rfl) _;have hkt2:Kty 25 W1 (W1.setCell ⟨D,0,none⟩ (.slice A' (dat.length+ch.length) c')):=hKD.kty hD1;have e:dat.length+ch.length=(dat++ch).length:=by rw [List.length_append]
 refine ⟨hN1.setCell' h.hD _,h.hD,h.hLB,h.hLR,hkt2.get (hkt.get h.box (by decide)) (by decide),⟨b',A',c',?_,?_,?_⟩,(h.row.kty hkt (by decide) (by decide) hs1).kty hkt2 (by decide) (by decide) hKD.size⟩
 ·rw [← e];have:=box_set (v:=.slice A' (dat.length+ch.length) c') hD1;exact this
 ·rw [← e];unfold cN;rw [List.map_append];exact r1.kty hkt2 (by decide) hKD.size
 ·by_cases hA:Ad=none
  ·rcases (r4 hA).2 with q | q
   ·right;omega
   ·exact .inl q
  ·right
   have:=hb.resolve_left hA;rcases r2 with rfl | q<;>omega
theorem SecI.rowStep (h:SecI w W D LB LR l dat ls) {R:Nat→RowP} {cs:Array Value} (h1:W.heap[LR]? = some (.cells cs 60 (0,0))) (h2:RowsAt l ls R cs) (h3:RowsOw w W l.length ls R)
  {i m b' c':Nat} {A':Option Addr} {W1:World} (hi:i < l.length) (r1:Ow W1 b' 3 1 A' ((ls i).length+1) c' (cN .i64 (ls i++[m]))) (r2:b'=(R i).1∧(R i).2.1≠none∨W.heap.size≤b') (r3:Kp (R i).1 (R i).1 W W1) (r4:(R i).2.1=none→Nw W W1) :
  SecI w (W1.setCell ⟨LR,i*2+1,none⟩ (.slice A' ((ls i).length+1) c')) D LB LR l dat (fun j=>if j=i then ls j++[m] else ls j):=by
 have hs:=h.nw.size;have hs1:=r3.size;have hb:=(h3.ow i hi).2;have hOi:=(h3.ow i hi).1;have hkt:Kty 3 W W1:=by
  by_cases hA:(R i).2.1=none
  ·exact (r4 hA).kty _
  ·obtain ⟨a,ha⟩:=Option.ne_none_iff_exists'.1 hA;rw [ha] at hOi;obtain ⟨cs',fr,hbk⟩:=hOi.blk;exact r3.kty hbk
 have hN1:Nw w W1:=by
  by_cases hA:(R i).2.1=none
  ·exact h.nw.trans (r4 hA)
  ·have:=hb.resolve_left hA;exact Kp.nw h.nw r3 this this
 have hR1:=hkt.get h1 (by decide);have hKD:Kp LR LR W1 (W1.setCell ⟨LR,i*2+1,none⟩ (.slice A' ((ls i).length+1) c')):=(Kp.refl LR LR W1).setCell' (p:=⟨LR,i*2+1,none⟩) (.inl rfl) _;have hkt2:Kty 60 W1 (W1.setCell ⟨LR,i*2+1,none⟩ (.slice A' ((ls i).length+1) c')):=hKD.kty hR1;have hd:DatI w (W1.setCell ⟨LR,i*2+1,none⟩ (.slice A' ((ls i).length+1) c')) D dat:=by
  obtain ⟨bd,Ad,cd,q1,q2,q3⟩:=h.dat;exact ⟨bd,Ad,cd,hkt2.get (hkt.get q1 (by decide)) (by decide),(q2.kty hkt (by decide) hs1).kty hkt2 (by decide) hKD.size,q3⟩
 refine ⟨hN1.setCell' h.hLR _,h.hD,h.hLB,h.hLR,hkt2.get (hkt.get h.box (by decide)) (by decide),hd,?_⟩;refine ⟨fun j=>if j=i then (b',A',c') else R j,cs.setIfInBounds (i*2+1) (.slice A' ((ls i).length+1) c'),?_,⟨by rw [Array.size_setIfInBounds];exact h2.1,fun j hj=>?_⟩,⟨fun j hj=>?_,fun j k hj hk hjk=>?_⟩⟩
 ·exact set_at _ hR1
 ·have hj':=h2.2 j hj;have h2s:=h2.1;by_cases hji:j=i
  ·subst hji;refine ⟨?_,?_⟩
   ·rw [Array.getElem?_setIfInBounds_ne (by omega)];exact hj'.1
   ·rw [Array.getElem?_setIfInBounds_self_of_lt (by omega)];simp
  ·refine ⟨?_,?_⟩
   ·rw [Array.getElem?_setIfInBounds_ne (by omega)];exact hj'.1
   ·rw [Array.getElem?_setIfInBounds_ne (by omega)];simp [hji,hj'.2]
 ·by_cases hji:j=i
  ·subst hji;simp only [if_true];refine ⟨?_,?_⟩
   ·rw [List.length_append,List.length_singleton];exact r1.kty hkt2 (by decide) hKD.size
   ·rcases r2 with ⟨rfl,hA⟩ | q
    ·exact .inr (hb.resolve_left hA)
    ·right;omega
  ·simp only [hji,if_false];refine ⟨?_,(h3.ow j hj).2⟩;refine Ow.kty ?_ hkt2 (by decide) hKD.size;by_cases hA:(R i).2.1=none
   ·exact (h3.ow j hj).1.nw (r4 hA)
   ·refine (h3.ow j hj).1.kpo r3 ?_;rcases h3.ne j i hj hi hji with q | q | q
    ·exact .inr q
    ·exact (hA q).elim
    ·exact .inl q
 ·have fresh:∀ k,k < l.length→k≠i→(R k).2.1=none∨A'=none∨(R k).1≠b':=fun k hk hki=>by
   by_cases hRk:(R k).2.1=none
   ·exact .inl hRk
   ·right;right
    rcases r2 with ⟨rfl,hA⟩ | q
    ·rcases h3.ne k i hk hi hki with q | q | q
     ·exact (hRk q).elim
     ·exact (hA q).elim
     ·exact q
    ·have:=(h3.ow k hk).1.lt_some hRk;omega
  by_cases hji:j=i
  ·subst hji;have hki:k≠j:=Ne.symm hjk;simp only [if_true,hki,if_false];rcases fresh k hk hki with q | q | q
   ·exact .inr (.inl q)
   ·exact .inl q
   ·exact .inr (.inr (Ne.symm q))
  ·by_cases hki:k=i
   ·subst hki;simp only [if_true,hji,if_false];exact fresh j hj hji
   ·simp only [hji,hki,if_false];exact h3.ne j k hj hk hjk
end
theorem app_kty {W W1:World} {bd n cd:Nat} {e:TypeId} {size:Nat} {Ad:Option Addr} {xs:List Value} (hO:Ow W bd e size Ad n cd xs) (r3:Kp bd bd W W1) (r4:Ad=none→Nw W W1):Kty e W W1:=by
 cases Ad with
 | none=>exact (r4 rfl).kty _
 | some a =>
  obtain ⟨cs,fr,hbk⟩:=hO.blk;exact r3.kty hbk
theorem Kty.toL {T:List TypeId} {e:TypeId} {W W':World} (h:Kty e W W') (hs:W.heap.size≤W'.heap.size) (he:e∈T):KtyL T W W':=⟨fun k o ho hne=>h k o ho (fun cs fr=>hne cs e fr he),hs⟩
def tyW:List TypeId:=[5,25,3,60]
theorem SecI.data2 {w W:World} {D LB LR:Nat} {l:List Ser} {dat:List Nat} {ls:Nat→List Nat} (h:SecI w W D LB LR l dat ls) {bd b' cd c' m:Nat} {Ad A':Option Addr} {ch:List Nat} {W1:World} (hm:ch.length=m)
  (hO:Ow W bd 5 1 Ad dat.length cd (cN .u8 dat)) (hb:Ad=none∨w.heap.size≤bd) (hD:W.heap[D]? = some (.cells #[.slice Ad dat.length cd] 25 (0,0)))
  (r1:Ow W1 b' 5 1 A' (dat.length+m) c' (cN .u8 dat++cN .u8 ch)) (r2:b'=bd∨W.heap.size≤b') (r3:Kp bd bd W W1) (r4:Ad=none→Nw W W1∧(W.heap.size≤b'∨A'=none)) :
  W1.frozen? ⟨D,0,none⟩=false∧W1.cell? ⟨D,0,none⟩=some (.slice Ad dat.length cd)∧Hid (SecI w (W1.setCell ⟨D,0,none⟩ (.slice A' (dat.length+m) c')) D LB LR l (dat++ch) ls)∧Hid (KtyL tyW W (W1.setCell ⟨D,0,none⟩ (.slice A' (dat.length+m) c'))):=by
 have e1:=(app_kty hO r3 (fun e=>(r4 e).1)).get hD (by decide);subst hm;exact ⟨at_free e1,cell_at (k:=0) e1,hid (h.data hO hb hD r1 r2 r3 r4),hid (((app_kty hO r3 (fun e=>(r4 e).1)).toL r3.size (by decide)).trans (KtyL.set (p:=⟨D,0,none⟩) e1 (by decide)))⟩
set_option maxRecDepth 100000 in
set_option maxHeartbeats 2000000 in
theorem add_any (w W:World) (D LB LR:Nat) (l:List Ser) (dat:List Nat) (ls:Nat→List Nat) (i:Nat) (ch:List Nat) (xb:Nat) (xA:Option Addr) (xc:Nat) (hi:i < l.length) (h:SecI w W D LB LR l dat ls) (hx:Rd W xb xA (cN .u8 ch)) (hxn:xA=none→xc=0) (hs:dat.length≤100000000) (hc:ch.length≤10000) (hli:(ls i).length≤10000) :
  Calls Tryz.prog 28 #[.int .i64 (i:Int),.slice xA ch.length xc,.pointer (some ⟨D,0,none⟩),.pointer (some ⟨LB,0,none⟩)] W fun e W'=>e=.returned (.tuple #[])∧SecI w W' D LB LR l (dat++ch) (fun j=>if j=i then ls j++[ch.length] else ls j)∧KtyL tyW W W':=by
 obtain ⟨i0,hi0,hz0,hz1,hz2⟩:=E_int.info;obtain ⟨bd,Ad,cd,hD,hO,hb⟩:=h.dat;have H:=hid h;have HO:=hid hO;have HD:=hid hD;have HX:=hid hx;obtain ⟨m,hm⟩:∃ m,ch.length=m:=⟨_,rfl⟩;have d0:W.cell? ⟨D,0,none⟩=some (.slice Ad dat.length cd):=cell_at (k:=0) hD;have HM:=hid hm;have HXL:Hid ((cN .u8 ch).length=m*1):=hid (by rw [List.length_map,Nat.mul_one];exact hm);rw [hm] at hc ⊢;clear h hO hD hx hm;go_enter Tryz.func28,Tryz.ntmps28
 go_wp2_with (first
  | (at_builtin;refine wpList_app E_u8 rfl (.tmp 6) (.tmp 7) rfl rfl HO.out rfl HX.out HXL.out hxn (u8_lit _) (by simp only [maxLen];omega) (by omega) ?_;intro b1 A1 c1 W1 r1 r2 r3 r4;obtain ⟨f1,g1,H2,HT2⟩:=SecI.data2 H.out HM.out HO.out hb HD.out r1 r2 r3 r4;clear r1 r2 r3 r4)
  | fail)
 generalize W1.setCell ⟨D,0,none⟩ (.slice A1 (dat.length+m) c1)=W2 at *;obtain ⟨R,cs,g1,g2,g3⟩:=H2.out.row;have hri:=(g3.ow i hi).1;have HSt:=hid fun (b' c':Nat) (A':Option Addr) (W3:World) r1 r2 r3 r4=>H2.out.rowStep (m:=m) (b':=b') (c':=c') (A':=A') (W1:=W3) g1 g2 g3 hi r1 r2 r3 r4
 have HG1:=hid g1;obtain ⟨⟨rb,rA,rc⟩,hR⟩:∃ r,R i=r:=⟨_,rfl⟩;have hc2:=(g2.2 i hi).2;rw [hR] at hri hc2;simp only [hR] at HSt;obtain ⟨li,hli2⟩:∃ r,ls i=r:=⟨_,rfl⟩;rw [hli2] at hri hli hc2;simp only [hli2] at HSt;dsimp only at hri hc2;have hiI:(i:Int) < (l.length:Int):=by omega
 have q0:W2.drew.cell? ⟨LB,0,none⟩=some (.slice (some ⟨LR,0,none⟩) l.length l.length):=cell_at (k:=0) H2.out.box;have p0:W2.cell? ⟨LB,0,none⟩=some (.slice (some ⟨LR,0,none⟩) l.length l.length):=cell_at (k:=0) H2.out.box;have p1:W2.cell? ⟨LR,i*2+1,none⟩=some (.slice rA li.length rc):=by simp [World.cell?,g1,hc2]
 have q1:W2.drew.cell? ⟨LR,i*2+1,none⟩=some (.slice rA li.length rc):=p1;have HOW:=hid fun W (hN:Nw W2 W)=>(hri.nw hN).row
 have HOWB:Hid (∀ j,(Value.slice rA li.length rc).ownBlock=some j→j=rb∧rA≠none):=hid fun j e=>hri.ownBlock j e
 have hrb:rA≠none→rb < W2.heap.size:=fun h=>hri.lt_some h
 have HK5:Hid (∀ W5,(W2.drew.alloc (.cells #[.int .i64 (m:Int)] 3)).grownBy W5 (Value.slice rA li.length rc).ownBlock→Kp rb rb W2 W5∧(rA=none→Nw W2 W5)):=hid fun W5 hg =>
  ⟨(((Nw.drewO W2).alloc' _).kp _ _).grown hg (fun j e=>.inl (HOWB.out j e).1),fun e=>((Nw.drewO W2).alloc' _).grown' hg (fun j e'=>((HOWB.out j e').2 e).elim)⟩
 have HF:Hid (∀ W5,Kp rb rb W2 W5→(rA=none→Nw W2 W5)→W5.frozen? ⟨LR,i*2+1,none⟩=false∧W5.cell? ⟨LR,i*2+1,none⟩=some (.slice rA li.length rc)∧W5.cell? ⟨LB,0,none⟩=some (.slice (some ⟨LR,0,none⟩) l.length l.length)):=hid fun W5 r3 r4=>by
  have e:=(app_kty hri r3 r4).get g1 (by decide);have e2:=(app_kty hri r3 r4).get H2.out.box (by decide);exact ⟨at_free e,by simp [World.cell?,e,hc2],cell_at (k:=0) e2⟩
 have HL5:Hid (∀ W5 v,Kp rb rb W2 W5→(rA=none→Nw W2 W5)→KtyL tyW W2 (W5.setCell ⟨LR,i*2+1,none⟩ v)):=hid fun W5 v r3 r4 =>
  ((app_kty hri r3 r4).toL r3.size (by decide)).trans (KtyL.set (p:=⟨LR,i*2+1,none⟩) ((app_kty hri r3 r4).get g1 (by decide)) (by decide))
 have hLRs:LR < W2.heap.size:=lt_of_block g1;have hLBs:LB < W2.heap.size:=lt_of_block H2.out.box;clear g1 g2 g3 hc2 d0 H HO HD HX hb HXL hri H2;go_region_law (refine step_append_lies _ rfl (.tmp 15) (.tmp 18) 58 rfl 0 3 i0 (.int .i64 0) 1 8 E_int.und hi0 hz0 hz1 hz2 rfl (by omega) _ li.length (cN .i64 li) rfl (HOW.out _ (Nw.alloc' (Nw.drewO _) _)) ⟨_,0,none⟩ 1 1 [.int .i64 (m:Int)] rfl rfl (World.news_of_block (heap_alloc_new _ _)) (by intro u hu;simp at hu;subst hu;rfl) (by omega) (by simp only [maxLen];omega) (by omega) (Nat.zero_le _) _ rfl ?_;intro g5 cap5 w5 q1 q2 q3 q4;obtain ⟨k5,n5⟩:=HK5.out w5 q2;obtain ⟨f5,c5,c6⟩:=HF.out w5 k5 n5;have Q1:=hid q1;have Q3:=hid q3;have Q4:=hid q4;have K5:=hid k5;have N5:=hid n5;clear q1 q2 q3 q4 k5 n5)
 all_goals
  go_wp2_with fail;go_end0
  refine ⟨rfl,HSt.out g5 cap5 (some ⟨g5,0,none⟩) w5 ?_ ?_ K5.out N5.out,HT2.out.trans (HL5.out w5 _ K5.out N5.out)⟩
  ·unfold cN;rw [List.map_append];exact .inr ⟨rfl,Q4.out,Q1.out⟩
  ·rcases Q3.out with h | h
   ·exact .inl (HOWB.out g5 h)
   ·exact .inr (by rw [h];simp)
end
section
open Go Go.RowKit Go.Lib Go.Sort Go.Shelf
attribute [local go_sem] Oper.semAt_some
structure ChY where
 i:Nat
 z:List Smpl
 b:Nat
 A:Option Addr
 c:Nat
abbrev ChY.key (x:ChY):Nat × List Smpl:=(x.i,x.z)
abbrev chEnc (x:ChY):Array Value:=#[.int .i64 (x.i:Int),.slice x.A (chunkB x.z).length x.c]
def chKeys (b:List BVal):List (Nat × List Smpl):=(b.mapIdx fun i s=>(partsL s.2).map fun z=>(i,z)).flatten
def ChV (b:List BVal) (x:ChY) (W:World):Prop:=x.key∈chKeys b∧Rd W x.b x.A (cN .u8 (chunkB x.z))∧(x.A=none→x.c=0)
theorem chKeys_snoc {b:List BVal} {k:Nat} (h:k < b.length):chKeys (b.take (k+1))=chKeys (b.take k)++(partsL b[k].2).map fun z=>(k,z):=by
 unfold chKeys;rw [List.take_succ_eq_append_getElem h,List.mapIdx_append,List.flatten_append];simp [Nat.min_eq_left (Nat.le_of_lt h)]
theorem chKeys_mem {b:List BVal} {k:Nat} (h:k < b.length) {z:List Smpl} (hz:z∈partsL b[k].2):(k,z)∈chKeys b :=
 List.mem_flatten.2 ⟨_,List.mem_mapIdx.2 ⟨k,h,rfl⟩,List.mem_map.2 ⟨z,hz,rfl⟩⟩
theorem chKeys_of {b:List BVal} {p:Nat × List Smpl} (h:p∈chKeys b):∃ hk:p.1 < b.length,p.2∈partsL b[p.1].2:=by
 obtain ⟨L,hL,hx⟩:=List.mem_flatten.1 h;obtain ⟨j,hj,rfl⟩:=List.mem_mapIdx.1 hL;obtain ⟨y,hy,rfl⟩:=List.mem_map.1 hx;exact ⟨hj,hy⟩
theorem chKeys_pre {b:List BVal} (k:Nat):(chKeys (b.take k)).length≤(chKeys b).length:=by
 conv=>rhs;rw [← List.take_append_drop k b]
 unfold chKeys;rw [List.mapIdx_append,List.flatten_append,List.length_append];omega
theorem chunks_any (w:World) (A:Option Addr) (n c:Nat):Calls Tryz.prog 29 #[.slice A n c] w fun e w'=>e=.returned (.func (.func 67) #[] #[.pointer (some ⟨w.heap.size,0,none⟩)])∧w'=w.alloc (.cells #[.slice A n c] 22):=by
 go_enter Tryz.func29,Tryz.ntmps29
 go_wp2;go_ret;exact ⟨rfl,rfl⟩
def KeepE (T:List TypeId) (w0 A C:World):Prop:=(Nw w0 A→Nw w0 C)∧KtyC T A C∧A.heap.size≤C.heap.size
theorem Ow.kl {T:List TypeId} {A C:World} {b n c:Nat} {e:TypeId} {size:Nat} {P:Option Addr} {xs:List Value} (h:Ow A b e size P n c xs) (hk:KtyC T A C) (hs:A.heap.size≤C.heap.size) (he:e ∉ T):Ow C b e size P n c xs :=
 h.keepT (fun _ _ _ hh _=>hk _ _ _ _ hh he) hs
theorem part_rd {w:World} {bs n c:Nat} {e:TypeId} {A:Option Addr} {zs:List Smpl} (h:Ow w bs e 2 A n c (cS zs)) (k:Nat) (hk:k < (partsL zs).length):Rd w bs (some ⟨bs,120*k*2,none⟩) (cS (partsL zs)[k]):=by
 have hl:=partsL_len zs;have hn:=h.len;rw [cS_length] at hn;obtain ⟨_,hlt,_⟩:=h.at_ (j:=0) (by omega);refine .inr ⟨120*k*2,rfl,hlt,fun j u hu=>?_⟩;obtain ⟨hj,rfl⟩:=c2_of _ j u hu;have e:=partsL_get zs k hk;have hj2:j / 2 < zs.length - 120*k:=by
  rw [e,List.length_take,List.length_drop] at hj;omega
 have e2:(partsL zs)[k][j / 2]=zs[120*k+j / 2]'(by omega):=by
  simp only [e,List.getElem_take,List.getElem_drop]
 obtain ⟨g0,g1⟩:=cS_at zs (120*k+j / 2) (by omega);obtain ⟨_,_,h2,_⟩:=h.at_ (j:=120*k*2+j) (by omega);rw [h2,e2];rcases Nat.mod_two_eq_zero_or_one j with q | q
 ·rw [if_pos q,show 120*k*2+j=(120*k+j / 2)*2 by omega];exact g0
 ·rw [if_neg (by omega),show 120*k*2+j=(120*k+j / 2)*2+1 by omega];exact g1
set_option maxRecDepth 100000 in
set_option maxHeartbeats 4000000 in
theorem chunks_seq (q:Nat) (hq:1≤q) (w0 w:World) (B b n c:Nat) (A:Option Addr) (l:List Ser) (hI:InSer w0 b A n c l) (hN0:Nw w0 w) (hB:w.heap[B]? = some (.cells #[.slice A n c] 22 (0,0))) (hf:Fits l) (hG:Gl w0) :
  SeqV Fence.wide q Tryz.prog 67 #[.pointer (some ⟨B,0,none⟩)] chEnc (ChV (l.map valB)) (KeepE tyW w0) (fun xs=>xs.map ChY.key=chKeys (l.map valB)) (chKeys (l.map valB)).length w:=by
 intro lp J W hW hJ hY h0;have hl:=hI.len;subst hl;have hBW:=(hW.block B (lt_of_block hB)).trans hB;have HY:=hid hY;have HJ:=hid hJ;have HB0:=hid hBW;have HR:=hid hI.rd;have HOK:=hid hI.ok;have HN0:=hid (hN0.trans hW);have HG:=hid hG;have hfl:=hf.1;have hfs:=hf.2.1;clear hY hJ hB hBW hI hN0 hG;refine callsIn_of_wp Tryz.func67 rfl trivial ?_ rfl;simp only [Tryz.ntmps67,List.size_toArray,List.length_cons,List.length_nil,Nat.reduceAdd,Nat.reduceSub,Array.replicate_succ,Array.replicate_zero,List.push_toArray,List.append_toArray,List.nil_append,List.cons_append];have hb0:W.cell? ⟨B,0,none⟩=some (.slice A l.length c):=cell_at (k:=0) HB0.out
 gi_wp2_with fail
 gi_loopw [11] (fun v wr=>∃ (pre:List ChY) (k:Nat),k≤l.length∧v=.int .i64 (k:Int)∧Hid (J pre wr)∧Hid (Nw w0 wr)∧Hid (pre.map ChY.key=chKeys ((l.map valB).take k))) (fun v _=>l.length - (intOf v).toNat)
 case atStart=>exact ⟨[],0,by omega,rfl,hid h0,HN0,hid (by simp [chKeys])⟩
 case round =>
  obtain ⟨pre,k,hk,rfl,HJp,HN,HP⟩:=hrel;by_cases hlt:k < l.length
  ·have hltI:(k:Int) < (l.length:Int):=by omega
   obtain ⟨o,rfl,hbw,hc0,hc1⟩:=two_at (HR.out.nw HN.out) hlt;have HOx:=hid (HOK.out l[k] (List.getElem_mem hlt));have hkb:k < (l.map valB).length:=by rw [List.length_map];exact hlt
   have HS:=hid (chKeys_snoc hkb);have HM:=hid fun z hz=>chKeys_mem (b:=l.map valB) hkb (z:=z) hz
   have HL:=hid (show (l.map valB)[k]=valB l[k] from by rw [List.getElem_map]);have hsm:=le_sum (List.getElem_mem hlt);have HPr:=hid (chKeys_pre (b:=l.map valB) (k+1));generalize l[k]=x at *;generalize (l.map valB)[k]=xv at *;obtain rfl:xv=valB x:=HL.out;obtain ⟨labs,smps,bl,al,cl,bs,as_,cs⟩:=x;dsimp only at hc0 hc1 hsm;have hIx:InSmp w0 bs as_ smps.length cs smps:=HOx.out.2;have HIx:=hid hIx;have HSp:Hid (∀ W,Nw w0 W→Calls Tryz.prog 68 #[.slice as_ smps.length cs] W fun e w'=>∃ bs' bp A2 c2 Ap cp,e=.returned (.slice Ap (partsL smps).length cp)∧Ow w' bp 49 1 Ap (partsL smps).length cp ((parts smps.length 0).map (partV bs'))∧W.heap.size≤bp ∧
     Ow w' bs' 135 2 A2 smps.length c2 (cS smps)∧W.heap.size≤bs'∧Nw W w'):=hid fun W hW=>by
    have h:=Split_any W bs as_ smps.length cs smps rfl (by omega) ((HIx.out.nw hW).rd) HIx.out.nil;have e:(partsL smps).length=(parts smps.length 0).length:=by unfold partsL;rw [List.length_map]
    rw [e];exact h
   clear HL HOx hIx
   gi_wp2_with fail
   refine ⟨trivial,?_⟩;refine (callsIn_wide.2 (HSp.out _ (HN.out.alloc' _))).mono ?_;rintro e w2 ⟨bs',bp,A2,c2,Ap,cp,rfl,hOp,hbp,hOs,hbs,hN2⟩;have HOp:=hid hOp;have HOs:=hid hOs;have HN2:=hid ((HN.out.alloc' _).trans hN2);have HJ2:=hid (HJ.out _ _ _ HJp.out (((Nw.refl wr).alloc' _).trans hN2));have HS2:Hid (chKeys ((l.map valB).take (k+1))=pre.map ChY.key++(partsL smps).map fun z=>(k,z)):=hid (by rw [HP.out];exact HS.out);have HM2:Hid (∀ z∈partsL smps,(k,z)∈chKeys (l.map valB)):=hid HM.out;have hml:=partsL_len smps;obtain ⟨M,hM⟩:∃ M,(partsL smps).length=M:=⟨_,rfl⟩;rw [hM] at HOp hml;have HMM:=hid hM;rw [hM];have hMle:M≤1000:=by omega
   clear hOp hOs hN2 hbp hbs hM hml HJp HN HSp hc0 hc1 HP HS HM HOK
   gi_wp2_with fail
   gi_loopw [20] (fun v wr=>∃ (p2:List ChY) (j:Nat),j≤M∧v=.int .i64 (j:Int)∧Hid (J p2 wr)∧Hid (Nw w0 wr)∧Hid (p2.map ChY.key=pre.map ChY.key++((partsL smps).take j).map fun z=>(k,z))∧Hid (Ow wr bp 49 1 Ap M cp ((parts smps.length 0).map (partV bs')))∧Hid (Ow wr bs' 135 2 A2 smps.length c2 (cS smps))) (fun v _=>M - (intOf v).toNat)
   case atStart=>exact ⟨pre,0,by omega,rfl,HJ2,HN2,hid (by simp),HOp,HOs⟩
   case round =>
    clear HJ2 HN2 HOp HOs;obtain ⟨p2,j,hj,rfl,HJp,HN,HP,HOp,HOs⟩:=hrel;by_cases hjt:j < M
    ·have hjI:(j:Int) < (M:Int):=by omega
     have hjp:j < (partsL smps).length:=by rw [HMM.out];exact hjt
     have hjq:j < (parts smps.length 0).length:=by have:=hjp;unfold partsL at this;rwa [List.length_map] at this
     obtain ⟨o2,hAp,hbpw,hcp⟩:=HOp.out.rd.get (k:=j) (by rw [List.length_map];exact hjq);subst hAp;rw [List.getElem_map,parts_at smps.length smps.length 0 (by omega) j hjq,Nat.zero_add] at hcp;dsimp only [partV] at hcp;have hrd:=part_rd HOs.out j hjp;have hmem:=List.getElem_mem hjp;have hz:=partsL_mem hmem;have e3:=partsL_get smps j hjp;have hzl:min 120 (smps.length - 120*j)=(partsL smps)[j].length:=by
      rw [e3,List.length_take,List.length_drop];omega
     have HNX:Hid (((partsL smps).take (j+1)).map (fun z=>(k,z))=((partsL smps).take j).map (fun z=>(k,z))++[(k,(partsL smps)[j])]):=hid (by
      rw [List.take_succ_eq_append_getElem hjp,List.map_append];rfl)
     have HMx:=hid (HM2.out _ hmem);have HIp:=hid (InS.part HIx.out.wf hmem);have HJL:Hid (p2.length < (chKeys (l.map valB)).length):=hid (by
      have h1:=congrArg List.length HP.out;have h2:=congrArg List.length HS2.out;have h3:=HPr.out;simp only [List.length_map,List.length_append,List.length_take] at h1 h2;omega)
     generalize (partsL smps)[j]=z at *;rw [hzl] at hcp;obtain ⟨N,hN⟩:∃ N,z.length=N:=⟨_,rfl⟩;have HNN:=hid hN;rw [hN] at hcp hz;have HE:Hid (∀ W,Nw wr W→Calls Tryz.prog 69 #[.slice (some ⟨bs',120*j*2,none⟩) N N] W fun e w'=>∃ b' A' c',e=.returned (.tuple #[.slice A' (chunkB z).length c',.int .i64 0]) ∧
       Ow w' b' 5 1 A' (chunkB z).length c' (cN .u8 (chunkB z))∧W.heap.size≤b'∧Nw W w'):=hid fun W hW=>Encode_ok W bs' _ N N z HNN.out.symm hz.1 hz.2.1 (hrd.nw hW) HIp.out (HG.out.nw (HN.out.trans hW))
     clear hmem hz e3 hzl hN hrd hjp hjq
     gi_wp2_with fail
     refine ⟨trivial,?_⟩;refine (callsIn_wide.2 (HE.out _ (Nw.refl _))).mono ?_;rintro e w3 ⟨b3,A3,c3,rfl,hO3,hb3,hN3⟩;have HJ3:=hid (HJ.out _ _ _ HJp.out hN3);have HO3:=hid hO3;have HY3:=hid (HY.out p2 ⟨k,z,b3,A3,c3⟩ w3 HJ3.out ⟨HMx.out,hO3.rd,hO3.nilc⟩ HJL.out);have HN3:=hid hN3;clear hO3 hN3 HE hb3;obtain ⟨fn,tmps,assign,body,hy,hR⟩:=HY3.out;dsimp only [chEnc] at hy;have HR3:=hid hR;clear hR HY3
     gi_wp2_with fail
     refine HR3.out.mono ?_;rintro e W3 ⟨rfl,hJ4,hK4⟩;have HJ4:=hid hJ4;have HN4:=hid (hK4.1 (HN.out.trans HN3.out));have HOp4:=hid ((HOp.out.nw HN3.out).kl hK4.2.1 hK4.2.2 (by decide));have HOs4:=hid ((HOs.out.nw HN3.out).kl hK4.2.1 hK4.2.2 (by decide));have HP4:Hid ((p2++[(⟨k,z,b3,A3,c3⟩:ChY)]).map ChY.key=pre.map ChY.key++((partsL smps).take (j+1)).map fun z=>(k,z)):=hid (by
      rw [List.map_append,HP.out,HNX.out,List.append_assoc];rfl)
     clear hJ4 hK4 HR3 HO3 hcp hy HOp HOs HP HNX HJp HJ3 HN HN3
     gi_wp2_with fail
     go_roundw
     case rel=>exact ⟨_,j+1,by omega,by go_num,HJ4,HN4,HP4,HOp4,HOs4⟩
     case measure=>simp [intOf];omega
    ·obtain rfl:j=M:=by omega
     gi_wp2_with fail
     go_roundw
     case rel=>exact ⟨p2,k+1,by omega,by go_num,HJp,HN,hid (by rw [HS2.out,HP.out,← HMM.out,List.take_length])⟩
     case measure=>simp [intOf];omega
  ·obtain rfl:k=l.length:=by omega
   gi_wp2_with fail
   go_end0
   refine ⟨⟨_,rfl⟩,pre,?_,HJp.out⟩;rw [HP.out,List.take_of_length_le (by rw [List.length_map];exact Nat.le_refl _)]
end
section
open Go Go.RowKit Go.Lib Go.Sort Go.Shelf
attribute [local go_sem] Oper.semAt_some
theorem E_entR:ElemT Tryz.prog 78 151 (.agg #[.string .empty,.string .empty,.slice none 0 0]) 3 56:=ElemT.mk' Tryz.underlying78 (by kernel_rfl) rfl (by omega)
def InE (w:World) (r:GR):Prop:=Ow w r.b 3 1 r.A r.ns.length r.c (cN .i64 r.ns)∧r.ns≠[]∧r.ns.length≤1000
theorem InE.some {w:World} {r:GR} (h:InE w r):r.A≠none:=fun e=>by
 rcases h.1 with ⟨_,h1,_⟩ | ⟨h1,_⟩
 ·exact h.2.1 (List.eq_nil_of_length_eq_zero h1)
 ·rw [e] at h1;cases h1
theorem InE.lt {w:World} {r:GR} (h:InE w r):r.b < w.heap.size:=h.1.lt_some h.some
theorem InE.nw {w w':World} {r:GR} (h:InE w r) (hN:Nw w w'):InE w' r:=⟨h.1.nw hN,h.2⟩
theorem out_step {wq W w2:World} {bk b' c':Nat} {Ak A':Option Addr} {out:List GR} (hB:wq.heap.size≤bk) (hN:Nw wq W) (hE:∀ r∈out,InE W r∧r.b≠bk) (r:GR) (hr:InE W r) (hrb:Ak=none∨r.b≠bk)
  (r1:Ow w2 b' 151 3 A' (out.length+1) c' (cEnt out++cEnt1 r)) (r2:b'=bk∨W.heap.size≤b') (r3:Kp bk bk W w2) (r4:Ak=none→Nw W w2∧(W.heap.size≤b'∨A'=none)) :
  Ow w2 b' 151 3 A' (out++[r]).length c' (cEnt (out++[r]))∧wq.heap.size≤b'∧Nw wq w2∧∀ s∈out++[r],InE w2 s∧s.b≠b':=by
 have hA':A'≠none:=fun e=>by
  rcases r1 with ⟨_,h1,_⟩ | ⟨h1,_⟩
  ·omega
  ·rw [e] at h1;cases h1
 have hs:=hN.size;refine ⟨?_,?_,Kp.nw hN r3 hB hB,fun s hs=>?_⟩
 ·rw [List.length_append,List.length_singleton,show cEnt (out++[r])=cEnt out++cEnt1 r from by unfold cEnt;rw [List.flatMap_append];simp];exact r1
 ·rcases r2 with h | h
  ·omega
  ·omega
 ·by_cases hA:Ak=none
  ·obtain ⟨h1,h2⟩:=r4 hA;have h3:W.heap.size≤b':=h2.resolve_right hA';have hin:InE W s:=by
    rcases List.mem_append.1 hs with h | h
    ·exact (hE s h).1
    ·simp only [List.mem_singleton] at h;rw [h];exact hr
   exact ⟨hin.nw h1,by have:=hin.lt;omega⟩
  ·have hin:InE W s∧s.b≠bk:=by
    rcases List.mem_append.1 hs with h | h
    ·exact hE s h
    ·simp only [List.mem_singleton] at h;rw [h];exact ⟨hr,hrb.resolve_left hA⟩
   refine ⟨⟨hin.1.1.kp r3 hin.2 hin.2,hin.1.2⟩,?_⟩;rcases r2 with h | h
   ·rw [h];exact hin.2
   ·have:=hin.1.lt;omega
def SI (x:Lab) (i:Nat) (E:List EntV) (dn:Bool) (k:Nat) (o:List EntV):Prop :=
 (dn=false∧o=E.take k∧∀ p∈E.take k,cmpL p.1 x = -1)∨(dn=true∧o++E.drop k=insK x i E∧∀ p∈E.drop k,cmpL p.1 x=1)
theorem SI.start (x:Lab) (i:Nat) (E:List EntV):SI x i E false 0 []:=.inl ⟨rfl,by simp,by simp⟩
theorem cmp_up {x:Lab} {E:List EntV} (ha:(E.map (·.1)).Pairwise fun a b=>cmpL a b = -1) {k:Nat} (hk:k < E.length) (h:cmpL E[k].1 x≠-1):∀ p∈E.drop (k+1),cmpL p.1 x=1:=by
 intro p hp;obtain ⟨j,hj,rfl⟩:=List.getElem_of_mem hp;rw [List.getElem_drop];rw [List.length_drop] at hj;have h1:=List.pairwise_iff_getElem.1 ha k (k+1+j) (by simpa using hk) (by simp;omega) (by omega);rw [List.getElem_map,List.getElem_map] at h1;have s1:=cmp3_L.swap E[k].1 x;have s2:=cmp3_L.swap (E[k+1+j]'(by omega)).1 x;rcases cmp3_L.inn (E[k+1+j]'(by omega)).1 x with e | e | e
 ·exact (h (cmp3_L.trans _ _ _ h1 e)).elim
 ·rw [(cmp3_L.zero _ _).1 e] at h1;exact (h h1).elim
 ·exact e
theorem SI.lt {x:Lab} {i:Nat} {E:List EntV} {k:Nat} {o:List EntV} (h:SI x i E false k o) (hk:k < E.length) (hc:cmpL E[k].1 x = -1):SI x i E false (k+1) (o++[E[k]]):=by
 rcases h with ⟨_,rfl,h⟩ | ⟨h,_⟩
 ·refine .inl ⟨rfl,by rw [List.take_succ_eq_append_getElem hk],fun p hp=>?_⟩;rw [List.take_succ_eq_append_getElem hk] at hp;rcases List.mem_append.1 hp with hp | hp
  ·exact h p hp
  ·simp only [List.mem_singleton] at hp;rw [hp];exact hc
 ·cases h
theorem SI.eq {x:Lab} {i:Nat} {E:List EntV} {k:Nat} {o:List EntV} (ha:(E.map (·.1)).Pairwise fun a b=>cmpL a b = -1) (h:SI x i E false k o) (hk:k < E.length) (hc:cmpL E[k].1 x=0):SI x i E true (k+1) (o++[(x,E[k].2++[i])]):=by
 rcases h with ⟨_,rfl,h⟩ | ⟨h,_⟩
 ·refine .inr ⟨rfl,?_,cmp_up ha hk (by omega)⟩;have e:E=E.take k++E[k]::E.drop (k+1):=by rw [← List.drop_eq_getElem_cons hk,List.take_append_drop]
  conv=>rhs;rw [e]
  rw [insK_app h,insK,if_neg (by omega),if_pos hc];simp
 ·cases h
theorem SI.gt {x:Lab} {i:Nat} {E:List EntV} {k:Nat} {o:List EntV} (ha:(E.map (·.1)).Pairwise fun a b=>cmpL a b = -1) (h:SI x i E false k o) (hk:k < E.length) (hc:cmpL E[k].1 x=1):SI x i E true (k+1) (o++[(x,[i])]++[E[k]]):=by
 rcases h with ⟨_,rfl,h⟩ | ⟨h,_⟩
 ·refine .inr ⟨rfl,?_,cmp_up ha hk (by omega)⟩;have e:E=E.take k++E[k]::E.drop (k+1):=by rw [← List.drop_eq_getElem_cons hk,List.take_append_drop]
  conv=>rhs;rw [e]
  rw [insK_app h,insK,if_neg (by omega),if_neg (by omega)];simp
 ·cases h
theorem SI.past {x:Lab} {i:Nat} {E:List EntV} {k:Nat} {o:List EntV} (h:SI x i E true k o) (hk:k < E.length):cmpL E[k].1 x=1∧SI x i E true (k+1) (o++[E[k]]):=by
 rcases h with ⟨h,_⟩ | ⟨_,h1,h2⟩
 ·cases h
 ·rw [List.drop_eq_getElem_cons hk] at h1 h2;exact ⟨h2 _ List.mem_cons_self,.inr ⟨rfl,by rw [← h1];simp,fun p hp=>h2 p (List.mem_cons_of_mem _ hp)⟩⟩
theorem SI.end_t {x:Lab} {i:Nat} {E:List EntV} {o:List EntV} (h:SI x i E true E.length o):o=insK x i E:=by
 rcases h with ⟨h,_⟩ | ⟨_,h1,_⟩
 ·cases h
 ·simpa using h1
theorem SI.end_f {x:Lab} {i:Nat} {E:List EntV} {o:List EntV} (h:SI x i E false E.length o):o++[(x,[i])]=insK x i E:=by
 rcases h with ⟨_,rfl,h⟩ | ⟨h,_⟩
 ·rw [List.take_length] at h ⊢;have:=insK_app (x:=x) (i:=i) (P:=E) (S:=[]) h;rw [List.append_nil] at this;rw [this];rfl
 ·cases h
end
section
open Go Go.RowKit Go.Lib Go.Sort Go.Shelf
attribute [local go_sem] Oper.semAt_some
set_option maxRecDepth 100000 in
set_option maxHeartbeats 4000000 in
theorem RInsert_any (w:World) (b:Nat) (A:Option Addr) (n c i:Nat) (x:Lab) (l:List GR) (hn:n=l.length) (hm:n≤1000) (hr:Rd w b A (cEnt l)) (hI:∀ r∈l,InE w r∧r.ns.length≤999∧(r.lab=x→∀ y∈r.ns,y < i)) (ha:((l.map keyG).map (·.1)).Pairwise fun a b=>cmpL a b = -1) :
  Calls Tryz.prog 93 #[.slice A n c,.agg #[.string x.1,.string x.2],.int .i64 (i:Int)] w fun e w'=>∃ (b':Nat) (A':Option Addr) (c':Nat) (l':List GR),e=.returned (.slice A' l'.length c')∧l'.map keyG=insK x i (l.map keyG)∧Ow w' b' 151 3 A' l'.length c' (cEnt l')∧(∀ r∈l',InE w' r)∧w.heap.size≤b'∧Nw w w':=by
 subst hn;obtain ⟨xa,xd⟩:=x;obtain ⟨X,hX⟩:∃ X:Lab,(xa,xd)=X:=⟨_,rfl⟩;have HR:=hid hr;have HI:=hid hI;have HA:=hid ha;obtain ⟨wq,hwq⟩:∃ wq,wq=w.alloc (.cells #[.string xa,.string xd] 124):=⟨_,rfl⟩;obtain ⟨bX,hbX⟩:∃ bX,bX=w.heap.size:=⟨_,rfl⟩;have hNq:Nw w wq:=by rw [hwq];exact (Nw.refl _).alloc' _
 have hbx:wq.heap[bX]? = some (.cells #[.string xa,.string xd] 124 (0,0)):=by rw [hwq,hbX];exact heap_alloc_new _ _
 have HNQ:=hid hNq;have HBX:=hid hbx;have hbl:=lt_of_block hbx;clear hr hI ha hNq hbx;go_enter Tryz.func93,Tryz.ntmps93
 go_wp2_with fail;rw [← hwq,← hbX];clear hwq hbX;go_loopw [7,8,9] (fun v d i' wr=>∃ (k:Nat) (out:List GR) (bk:Nat) (Ak:Option Addr) (ck:Nat) (dn:Bool),k≤l.length∧i'=.int .i64 k∧d=.bool dn∧v=.slice Ak out.length ck∧out.length≤k+1∧Hid (Ow wr bk 151 3 Ak out.length ck (cEnt out))∧Hid (wq.heap.size≤bk)∧Hid (Nw wq wr)∧Hid (∀ r∈out,InE wr r∧r.b≠bk)∧Hid (SI X i (l.map keyG) dn k (out.map keyG))) (fun _ _ i' _=>l.length - (intOf i').toNat)
 case atStart=>exact ⟨0,[],wq.heap.size,none,0,false,by omega,rfl,rfl,rfl,by simp,hid (Ow.nil _ _ _ _),hid (Nat.le_refl _),hid (Nw.refl _),hid (by simp),hid (SI.start _ _ _)⟩
 case round =>
  obtain ⟨k,out,bk,Ak,ck,dn,hk,rfl,rfl,rfl,hol,HO,HB,HN,HE,HS⟩:=hrel;by_cases hlt:k < l.length
  ·have hltI:(k:Int) < (l.length:Int):=by omega
   obtain ⟨o,rfl,hbw,hc0,hc1,hc2⟩:=ent_at HR.out hlt;have hkx:(l.map keyG)[k]'(by simpa using hlt)=keyG l[k]:=by rw [List.getElem_map]
   have HIx:=hid (HI.out l[k] (List.getElem_mem hlt));have HSl:Hid (dn=false→cmpL l[k].lab X = -1→SI X i (l.map keyG) false (k+1) (out.map keyG++[keyG l[k]])):=hid fun e h=>by
    subst e;have:=SI.lt HS.out (by simpa using hlt) (by rw [hkx];exact h)
    rwa [hkx] at this
   have HSe:Hid (dn=false→cmpL l[k].lab X=0→SI X i (l.map keyG) true (k+1) (out.map keyG++[(X,l[k].ns++[i])])):=hid fun e h=>by
    subst e;have:=SI.eq HA.out HS.out (by simpa using hlt) (by rw [hkx];exact h)
    rwa [hkx] at this
   have HSg:Hid (dn=false→cmpL l[k].lab X=1→SI X i (l.map keyG) true (k+1) (out.map keyG++[(X,[i])]++[keyG l[k]])):=hid fun e h=>by
    subst e;have:=SI.gt HA.out HS.out (by simpa using hlt) (by rw [hkx];exact h)
    rwa [hkx] at this
   have HSp:Hid (dn=true→cmpL l[k].lab X=1∧SI X i (l.map keyG) true (k+1) (out.map keyG++[keyG l[k]])):=hid fun e=>by
    subst e;have:=SI.past HS.out (by simpa using hlt)
    rwa [hkx] at this
   clear hkx;generalize l[k]=y at *;obtain ⟨⟨ya,yd⟩,ns,yb,yA,yc⟩:=y;dsimp only at hc0 hc1 hc2;have HC:Hid (∀ W,Nw wq W→W.cell? ⟨b,o+k*3,none⟩=some (.string ya)∧W.cell? ⟨b,o+k*3+1,none⟩=some (.string yd)∧W.cell? ⟨b,o+k*3+2,none⟩=some (.slice yA ns.length yc)∧W.cell? ⟨bX,0,none⟩=some (.string xa)∧W.cell? ⟨bX,1,none⟩=some (.string xd)):=hid fun W h=>by
    have hx:=(h.block bX hbl).trans HBX.out;have h2:=HNQ.out.trans h;exact ⟨cell_old (a:=⟨b,o+k*3,none⟩) h2 hbw hc0,cell_old (a:=⟨b,o+k*3+1,none⟩) h2 hbw hc1,cell_old (a:=⟨b,o+k*3+2,none⟩) h2 hbw hc2,cell_at (k:=0) hx,cell_at (k:=1) hx⟩
   have q0:∀ p:Gp,(grow (wr.drewN p.n) p.os).cell? ⟨b,o+k*3,none⟩=some (.string ya):=fun p=>(HC.out _ (HN.out.trans (Gr.nw ⟨p,rfl⟩))).1
   have q1:∀ p:Gp,(grow (wr.drewN p.n) p.os).cell? ⟨b,o+k*3+1,none⟩=some (.string yd):=fun p=>(HC.out _ (HN.out.trans (Gr.nw ⟨p,rfl⟩))).2.1
   have q2:∀ p:Gp,(grow (wr.drewN p.n) p.os).cell? ⟨bX,0,none⟩=some (.string xa):=fun p=>(HC.out _ (HN.out.trans (Gr.nw ⟨p,rfl⟩))).2.2.2.1
   have q3:∀ p:Gp,(grow (wr.drewN p.n) p.os).cell? ⟨bX,1,none⟩=some (.string xd):=fun p=>(HC.out _ (HN.out.trans (Gr.nw ⟨p,rfl⟩))).2.2.2.2
   have HCmp:Hid (∀ W,Calls Tryz.prog 135 #[.agg #[.string ya,.string yd],.agg #[.string xa,.string xd]] W fun e w'=>e=.returned (.int .i64 (cmpL (ya,yd) X))∧Gr W w'):=hid fun W=>by
    rw [← hX];exact RPcmp_any W (ya,yd) (xa,xd)
   clear hc0 hc1 hc2;go_wp2_with fail;refine wp_region_gr (by kernel_rfl) (by kernel_rfl) ?_
   repeat (quiet_step (first | (go_at_call 135;refine Calls.gr (HCmp.out _))))
   refine wpQuiet_nil ?_;rintro _ ⟨p,rfl⟩;have HG:=hid (⟨p,rfl⟩:Gr wr _);generalize grow (wr.drewN p.n) p.os=wz at *;have hOz:=HO.out.nw (Gr.nw HG.out);have HOz:=hid hOz;have HNz:=hid (HN.out.trans (Gr.nw HG.out));have HEz:Hid (∀ r∈out,InE wz r∧r.b≠bk):=hid fun r hr=>⟨(HE.out r hr).1.nw (Gr.nw HG.out),(HE.out r hr).2⟩
   have HIy:Hid (InE wz ⟨(ya,yd),ns,yb,yA,yc⟩∧yb < w.heap.size):=hid ⟨HIx.out.1.nw (HNQ.out.trans HNz.out),HIx.out.1.lt⟩;clear q0 q1 q2 q3 HCmp HG HO HN HE hOz;obtain ⟨z0,z1,z2,z3,z4⟩:=HC.out wz HNz.out;obtain ⟨C,hC⟩:∃ C,cmpL (ya,yd) X=C:=⟨_,rfl⟩;have hCin:=cmp3_L.inn (ya,yd) X;rw [hC] at HSl HSe HSg HSp hCin ⊢;have hwq:w.heap.size≤wq.heap.size:=HNQ.out.size;have hby:yb≠bk:=fun e=>by have:=HIy.out.2;have:=HB.out;omega
   have hlit:∀ W:World,Rd (W.alloc (.cells #[.string ya,.string yd,.slice yA ns.length yc] 151)) W.heap.size (some ⟨W.heap.size,0,none⟩) (cEnt1 ⟨(ya,yd),ns,yb,yA,yc⟩):=fun W=>by
    have h:=heap_alloc_new W (.cells #[.string ya,.string yd,.slice yA ns.length yc] 151);exact .inr ⟨0,rfl,lt_of_block h,fun j u hu=>by rw [Nat.zero_add,cell_at h];simpa [cEnt1] using hu⟩
   have HLIT:=hid hlit;clear hlit;have HW2:Hid (Nw wz ((wz.alloc (.cells #[.string ya,.string yd,.slice yA ns.length yc] 151)).alloc (.cells #[.string ya,.string yd,.slice yA ns.length yc] 151))):=hid (((Nw.refl wz).alloc' _).alloc' _);have HW1:Hid (Nw wz (wz.alloc (.cells #[.string ya,.string yd,.slice yA ns.length yc] 151))):=hid ((Nw.refl wz).alloc' _);have HL2:=HLIT.out (wz.alloc (.cells #[.string ya,.string yd,.slice yA ns.length yc] 151));rw [World.size_alloc] at HL2;have HL2:=hid HL2;rcases hCin with rfl | rfl | rfl
   ·cases dn with
    | true=>have:=(HSp.out rfl).1;omega
    | false =>
     have HS2:=hid (HSl.out rfl rfl);clear HSl HSe HSg HSp;have e1:decide ((0:Int) < -1)=false:=by decide
     have e2:((-1:Int) == 0)=false:=by decide
     go_wp2_with (first
      | (at_builtin;refine wpList_app E_entR rfl (.tmp 50) (.tmp 52) rfl rfl (HOz.out.nw HW2.out) rfl HL2.out rfl (by intro h;cases h) (by intro v hv;simp [cEnt1] at hv;rcases hv with rfl | rfl | rfl<;>rfl) (by simp only [maxLen];omega) (by omega) ?_;intro b3 A3 c3 w3 r1 r2 r3 r4;obtain ⟨s1,s2,s3,s4⟩:=out_step HB.out (HNz.out.trans HW2.out) (fun r hr=>⟨(HEz.out r hr).1.nw HW2.out,(HEz.out r hr).2⟩) ⟨(ya,yd),ns,yb,yA,yc⟩ (HIy.out.1.nw HW2.out) (.inr hby) r1 r2 r3 r4;have S1:=hid s1;have S2:=hid s2;have S3:=hid s3;have S4:=hid s4;clear r1 r2 r3 r4 s1 s2 s3 s4)
      | fail)
     go_roundw
     case rel=>exact ⟨k+1,out++[⟨(ya,yd),ns,yb,yA,yc⟩],b3,A3,c3,false,by omega,by go_num,rfl,by simp,by simp;omega,S1,S2,S3,S4,hid (by rw [List.map_append];exact HS2.out)⟩
     case measure=>simp [intOf];omega
   ·cases dn with
    | true=>have:=(HSp.out rfl).1;omega
    | false =>
     have HS2:=hid (HSe.out rfl rfl);clear HSl HSe HSg HSp;have hw1:Nw wz (wz.alloc (.cells #[.string ya,.string yd,.slice yA ns.length yc] 151)):=(Nw.refl wz).alloc' _;have hbz:=heap_alloc_new wz (.cells #[.string ya,.string yd,.slice yA ns.length yc] 151);have hOy:=HIy.out.1.1;have HNT:ns.length≤999:=HIx.out.2.1;have HNS:ns.length≤1000:=Nat.le_succ_of_le HIx.out.2.1;have HNY:=hid (HIx.out.2.2 (((cmp3_L.zero _ _).1 hC).trans hX.symm));have HIns:Hid (∀ W,Nw (wz.alloc (.cells #[.string ya,.string yd,.slice yA ns.length yc] 151)) W→Calls Tryz.prog 136 #[.slice yA ns.length yc,.int .i64 (i:Int)] W fun e w'=>∃ b' A' c',e=.returned (.slice A' (ns.length+1) c')∧Ow w' b' 3 1 A' (ns.length+1) c' (cN .i64 (ns++[i]))∧W.heap.size≤b'∧Nw W w'):=hid fun W hW =>
      Insert_any W yb yA ns.length yc i ns rfl HNS (hOy.nw (hw1.trans hW)).rd hOy.cap.1 hOy.nilc HNY.out
     have hx0:(wz.alloc (.cells #[.string ya,.string yd,.slice yA ns.length yc] 151)).cell? ⟨bX,0,none⟩=some (.string xa):=(HC.out _ (HNz.out.trans hw1)).2.2.2.1;have hx1:(wz.alloc (.cells #[.string ya,.string yd,.slice yA ns.length yc] 151)).cell? ⟨bX,1,none⟩=some (.string xd):=(HC.out _ (HNz.out.trans hw1)).2.2.2.2;have hx2:(wz.alloc (.cells #[.string ya,.string yd,.slice yA ns.length yc] 151)).cell? ⟨wz.heap.size,2,none⟩=some (.slice yA ns.length yc):=cell_at (k:=2) hbz;obtain ⟨w1,hw1e⟩:∃ w1,wz.alloc (.cells #[.string ya,.string yd,.slice yA ns.length yc] 151)=w1:=⟨_,rfl⟩;rw [hw1e] at hx0 hx1 hx2 hw1 hbz;simp only [hw1e] at HIns;have HINS:Hid (∀ W,Nw w1 W→Calls Tryz.prog 136 #[.slice yA ns.length yc,.int .i64 (i:Int)] W fun e w'=>∃ b' A' c',e=.returned (.slice A' (ns.length+1) c')∧Hid (Ow w' b' 3 1 A' (ns.length+1) c' (cN .i64 (ns++[i])))∧w1.heap.size≤b'∧(w'.cell? ⟨bX,0,none⟩=some (.string xa)∧w'.cell? ⟨bX,1,none⟩=some (.string xd)∧w'.cell? ⟨wz.heap.size,2,none⟩=some (.slice yA ns.length yc)∧w'.heap[wz.heap.size]? = some (.cells #[.string ya,.string yd,.slice yA ns.length yc] 151 (0,0))∧Nw w1 w')):=hid fun W hW=>(HIns.out W hW).mono (by
      rintro e w' ⟨b',A',c',rfl,h1,h2,h3⟩;have h4:=hW.trans h3;have hlb:=lt_of_block hbz;exact ⟨b',A',c',rfl,hid h1,Nat.le_trans hW.size h2,cell_old (a:=⟨bX,0,none⟩) h4 (Nat.lt_of_lt_of_le hbl (Nat.le_trans HNz.out.size hw1.size)) hx0,cell_old (a:=⟨bX,1,none⟩) h4 (Nat.lt_of_lt_of_le hbl (Nat.le_trans HNz.out.size hw1.size)) hx1,cell_old (a:=⟨wz.heap.size,2,none⟩) h4 hlb hx2,(h4.block _ hlb).trans hbz,h4⟩)
     clear HIns HNY hOy HW2 HW1 HL2 HLIT;go_wp2_with fail;clear z0 z1 z2 z3 z4;have y0:w1.drew.cell? ⟨bX,0,none⟩=some (.string xa):=hx0;have y1:w1.drew.cell? ⟨bX,1,none⟩=some (.string xd):=hx1;have y2:w1.drew.cell? ⟨wz.heap.size,2,none⟩=some (.slice yA ns.length yc):=hx2;have HIC:=hid (HINS.out w1.drew (Nw.drewO w1));go_region_with (go_at_call 136;refine HIC.out.mono ?_;rintro e w6 ⟨b6,A6,c6,rfl,HO6,hb6,hS⟩;obtain ⟨x0,x1,x2,x3,x4⟩:=hS;have X3:=hid x3;have X4:=hid x4;have f0:w6.frozen? ⟨wz.heap.size,0,none⟩=false:=at_free x3;have f1:w6.frozen? ⟨wz.heap.size,1,none⟩=false:=at_free x3;have f2:w6.frozen? ⟨wz.heap.size,2,none⟩=false:=at_free x3;have k0:w6.cell? ⟨wz.heap.size,0,none⟩=some (.string ya):=cell_at (k:=0) x3;have k1:w6.cell? ⟨wz.heap.size,1,none⟩=some (.string yd):=cell_at (k:=1) x3;clear x3 x4)
     all_goals
      have hs1:w1.heap.size=wz.heap.size+1:=by rw [← hw1e];simp
      clear hw1e f0 f1 f2 k0 k1 x0 x1 x2 y0 y1 y2 hx0 hx1 hx2;obtain ⟨w7,hw7⟩:∃ w7,((w6.setCell ⟨wz.heap.size,0,none⟩ (.string xa)).setCell ⟨wz.heap.size,1,none⟩ (.string xd)).setCell ⟨wz.heap.size,2,none⟩ (.slice A6 (ns.length+1) c6)=w7:=⟨_,rfl⟩;have hb7:w7.heap[wz.heap.size]? = some (.cells #[.string xa,.string xd,.slice A6 (ns.length+1) c6] 151 (0,0)):=by
       rw [← hw7];have h:=set_at (.slice A6 (ns.length+1) c6) (k:=2) (set_at (.string xd) (k:=1) (set_at (.string xa) (k:=0) X3.out));simpa using h
      have hk7:Kp wz.heap.size wz.heap.size w6 w7:=by
       rw [← hw7];exact (((Kp.refl wz.heap.size wz.heap.size w6).setCell' (p:=⟨wz.heap.size,0,none⟩) (.inl rfl) _).setCell' (p:=⟨wz.heap.size,1,none⟩) (.inl rfl) _).setCell' (p:=⟨wz.heap.size,2,none⟩) (.inl rfl) _
      have hN7:Nw wz w7:=Kp.nw (hw1.trans X4.out) hk7 (Nat.le_refl _) (Nat.le_refl _);have hO7:=HO6.out.kpo hk7 (.inl (by omega));have j0:=cell_at (k:=0) hb7;have j1:=cell_at (k:=1) hb7;have j2:=cell_at (k:=2) hb7;have HIn:Hid (∀ W,Nw w7 W→InE W ⟨(xa,xd),ns++[i],b6,A6,c6⟩):=hid fun W h=>InE.nw (w:=w7) ⟨by
       show Ow w7 b6 3 1 A6 (ns++[i]).length c6 (cN .i64 (ns++[i]))
       rw [List.length_append,List.length_singleton];exact hO7,by simp,by show (ns++[i]).length≤1000;rw [List.length_append,List.length_singleton];omega⟩ h
      have hnb:Ak=none∨b6≠bk:=by
       by_cases hA:Ak=none
       ·exact .inl hA
       ·exact .inr (fun e=>by have:=HOz.out.lt_some hA;omega)
      have hn8:Nw w7 (w7.alloc (.cells #[.string xa,.string xd,.slice A6 (ns.length+1) c6] 151)):=(Nw.refl _).alloc' _;have HL8:Hid (Rd (w7.alloc (.cells #[.string xa,.string xd,.slice A6 (ns.length+1) c6] 151)) w7.heap.size (some ⟨w7.heap.size,0,none⟩) (cEnt1 ⟨(xa,xd),ns++[i],b6,A6,c6⟩)):=hid (by
       have h:=heap_alloc_new w7 (.cells #[.string xa,.string xd,.slice A6 (ns.length+1) c6] 151);exact .inr ⟨0,rfl,lt_of_block h,fun j u hu=>by rw [Nat.zero_add,cell_at h];simpa [cEnt1] using hu⟩)
      have HN8:=hid (hN7.trans hn8);have HW8:=hid hn8;rw [hw7];clear hw7 hb7 hk7 hO7 hn8 hN7 HO6 X3 X4;go_wp2_with (first
       | (at_builtin;refine wpList_app E_entR rfl (.tmp 50) (.tmp 52) rfl rfl (HOz.out.nw HN8.out) rfl HL8.out rfl (by intro h;cases h) (by intro v hv;simp [cEnt1] at hv;rcases hv with rfl | rfl | rfl<;>rfl) (by simp only [maxLen];omega) (by omega) ?_;intro b3 A3 c3 w3 r1 r2 r3 r4;obtain ⟨s1,s2,s3,s4⟩:=out_step HB.out (HNz.out.trans HN8.out) (fun r hr=>⟨(HEz.out r hr).1.nw HN8.out,(HEz.out r hr).2⟩) ⟨(xa,xd),ns++[i],b6,A6,c6⟩ (HIn.out _ HW8.out) hnb r1 r2 r3 r4;have S1:=hid s1;have S2:=hid s2;have S3:=hid s3;have S4:=hid s4;clear r1 r2 r3 r4 s1 s2 s3 s4)
       | fail)
      go_roundw
      case rel=>exact ⟨k+1,out++[⟨(xa,xd),ns++[i],b6,A6,c6⟩],b3,A3,c3,true,by omega,by go_num,rfl,by simp,by simp;omega,S1,S2,S3,S4,hid (by rw [List.map_append];have h:=HS2.out;rw [← hX] at h ⊢;exact h)⟩
      case measure=>simp [intOf];omega
   ·cases dn with
    | false =>
     have HS2:=hid (HSg.out rfl rfl);have hol2:out.length≤k:=by
      rcases HS.out with ⟨_,h,_⟩ | ⟨h,_⟩
      ·have:=congrArg List.length h;simp at this;omega
      ·cases h
     clear HSl HSe HSg HSp;have e1:decide ((0:Int) < 1)=true:=by decide
     have e2:((1:Int) == 0)=false:=by decide
     have HNn:Hid (Nw wz ((wz.alloc (.cells #[.int .i64 (i:Int)] 3)).alloc (.cells #[.string xa,.string xd,.slice (some ⟨wz.heap.size,0,none⟩) 1 1] 151))):=hid (((Nw.refl wz).alloc' _).alloc' _);have HLn:Hid (Rd ((wz.alloc (.cells #[.int .i64 (i:Int)] 3)).alloc (.cells #[.string xa,.string xd,.slice (some ⟨wz.heap.size,0,none⟩) 1 1] 151)) (wz.heap.size+1) (some ⟨wz.heap.size+1,0,none⟩) (cEnt1 ⟨(xa,xd),[i],wz.heap.size,some ⟨wz.heap.size,0,none⟩,1⟩)):=hid (by
      have h:=heap_alloc_new (wz.alloc (.cells #[.int .i64 (i:Int)] 3)) (.cells #[.string xa,.string xd,.slice (some ⟨wz.heap.size,0,none⟩) 1 1] 151);rw [World.size_alloc] at h;exact .inr ⟨0,rfl,lt_of_block h,fun j u hu=>by rw [Nat.zero_add,cell_at h];simpa [cEnt1] using hu⟩)
     have HIn:Hid (InE ((wz.alloc (.cells #[.int .i64 (i:Int)] 3)).alloc (.cells #[.string xa,.string xd,.slice (some ⟨wz.heap.size,0,none⟩) 1 1] 151)) ⟨(xa,xd),[i],wz.heap.size,some ⟨wz.heap.size,0,none⟩,1⟩):=hid ⟨(Ow.lit wz 3 1 1 #[.int .i64 (i:Int)] rfl (by omega)).nw ((Nw.refl _).alloc' _),by simp,by simp⟩;have hnb:Ak=none∨wz.heap.size≠bk:=by
      by_cases hA:Ak=none
      ·exact .inl hA
      ·exact .inr (fun e=>by have:=HOz.out.lt_some hA;omega)
     go_wp2_with (first
      | (at_builtin;refine wpList_app E_entR rfl (.tmp 31) (.tmp 36) rfl rfl (HOz.out.nw HNn.out) rfl HLn.out rfl (by intro h;cases h) (by intro v hv;simp [cEnt1] at hv;rcases hv with rfl | rfl | rfl<;>rfl) (by simp only [maxLen];omega) (by omega) ?_;intro b3 A3 c3 w3 r1 r2 r3 r4;obtain ⟨s1,s2,s3,s4⟩:=out_step HB.out (HNz.out.trans HNn.out) (fun r hr=>⟨(HEz.out r hr).1.nw HNn.out,(HEz.out r hr).2⟩) ⟨(xa,xd),[i],wz.heap.size,some ⟨wz.heap.size,0,none⟩,1⟩ HIn.out hnb r1 r2 r3 r4;rw [List.length_append,List.length_singleton] at s1;have S1:=hid s1;have S2:=hid s2;have S3:=hid s3;have S4:=hid s4;clear r1 r2 r3 r4 s1 s2 s3 s4 z0 z1 z2 z3 z4;obtain ⟨z0,z1,z2,z3,z4⟩:=HC.out w3 S3.out)
      | (at_builtin;have hW3:Nw w3 ((w3.alloc (.cells #[.string ya,.string yd,.slice yA ns.length yc] 151)).alloc (.cells #[.string ya,.string yd,.slice yA ns.length yc] 151)):=(((Nw.refl w3).alloc' _).alloc' _);have hL3:=HLIT.out (w3.alloc (.cells #[.string ya,.string yd,.slice yA ns.length yc] 151));rw [World.size_alloc] at hL3;refine wpList_app E_entR rfl (.tmp 50) (.tmp 52) rfl rfl (S1.out.nw hW3) rfl hL3 rfl (by intro h;cases h) (by intro v hv;simp [cEnt1] at hv;rcases hv with rfl | rfl | rfl<;>rfl) (by simp only [maxLen];omega) (by omega) ?_;intro b5 A5 c5 w5 r1 r2 r3 r4;rw [show out.length+1=(out++[(⟨(xa,xd),[i],wz.heap.size,some ⟨wz.heap.size,0,none⟩,1⟩:GR)]).length from by simp] at r1;obtain ⟨s1,s2,s3,s4⟩:=out_step S2.out (S3.out.trans hW3) (fun r hr=>⟨(S4.out r hr).1.nw hW3,(S4.out r hr).2⟩) ⟨(ya,yd),ns,yb,yA,yc⟩ (HIx.out.1.nw (HNQ.out.trans (S3.out.trans hW3))) (.inr (by have:=HIy.out.2;have:=S2.out;show yb≠b3;omega)) r1 r2 r3 r4;have T1:=hid s1;have T2:=hid s2;have T3:=hid s3;have T4:=hid s4;clear r1 r2 r3 r4 s1 s2 s3 s4)
      | fail)
     go_roundw
     case rel=>exact ⟨k+1,_,b5,A5,c5,true,by omega,by go_num,rfl,by simp,by simp;omega,T1,T2,T3,T4,hid (by rw [List.map_append,List.map_append];have h:=HS2.out;rw [← hX] at h ⊢;exact h)⟩
     case measure=>simp [intOf];omega
    | true =>
     have HS2:=hid (HSp.out rfl).2;clear HSl HSe HSg HSp;have e1:decide ((0:Int) < 1)=true:=by decide
     have e2:((1:Int) == 0)=false:=by decide
     go_wp2_with (first
      | (at_builtin;refine wpList_app E_entR rfl (.tmp 50) (.tmp 52) rfl rfl (HOz.out.nw HW2.out) rfl HL2.out rfl (by intro h;cases h) (by intro v hv;simp [cEnt1] at hv;rcases hv with rfl | rfl | rfl<;>rfl) (by simp only [maxLen];omega) (by omega) ?_;intro b3 A3 c3 w3 r1 r2 r3 r4;obtain ⟨s1,s2,s3,s4⟩:=out_step HB.out (HNz.out.trans HW2.out) (fun r hr=>⟨(HEz.out r hr).1.nw HW2.out,(HEz.out r hr).2⟩) ⟨(ya,yd),ns,yb,yA,yc⟩ (HIy.out.1.nw HW2.out) (.inr hby) r1 r2 r3 r4;have S1:=hid s1;have S2:=hid s2;have S3:=hid s3;have S4:=hid s4;clear r1 r2 r3 r4 s1 s2 s3 s4)
      | fail)
     go_roundw
     case rel=>exact ⟨k+1,out++[⟨(ya,yd),ns,yb,yA,yc⟩],b3,A3,c3,true,by omega,by go_num,rfl,by simp,by simp;omega,S1,S2,S3,S4,hid (by rw [List.map_append];exact HS2.out)⟩
     case measure=>simp [intOf];omega
  ·obtain rfl:k=l.length:=by omega
   cases dn with
   | true =>
    have hS:=HS.out;rw [show l.length=(l.map keyG).length from by simp] at hS;have HS2:=hid (SI.end_t hS);go_wp2;go_ret;exact ⟨bk,Ak,ck,out,rfl,by rw [hX];exact HS2.out,HO.out,fun r hr=>(HE.out r hr).1,Nat.le_trans HNQ.out.size HB.out,HNQ.out.trans HN.out⟩
   | false =>
    have hS:=HS.out;rw [show l.length=(l.map keyG).length from by simp] at hS;have HS2:=hid (SI.end_f hS);have z3:wr.cell? ⟨bX,0,none⟩=some (.string xa):=cell_at (k:=0) ((HN.out.block bX hbl).trans HBX.out);have z4:wr.cell? ⟨bX,1,none⟩=some (.string xd):=cell_at (k:=1) ((HN.out.block bX hbl).trans HBX.out);have HNn:Hid (Nw wr ((wr.alloc (.cells #[.int .i64 (i:Int)] 3)).alloc (.cells #[.string xa,.string xd,.slice (some ⟨wr.heap.size,0,none⟩) 1 1] 151))):=hid (((Nw.refl wr).alloc' _).alloc' _);have HLn:Hid (Rd ((wr.alloc (.cells #[.int .i64 (i:Int)] 3)).alloc (.cells #[.string xa,.string xd,.slice (some ⟨wr.heap.size,0,none⟩) 1 1] 151)) (wr.heap.size+1) (some ⟨wr.heap.size+1,0,none⟩) (cEnt1 ⟨(xa,xd),[i],wr.heap.size,some ⟨wr.heap.size,0,none⟩,1⟩)):=hid (by
     have h:=heap_alloc_new (wr.alloc (.cells #[.int .i64 (i:Int)] 3)) (.cells #[.string xa,.string xd,.slice (some ⟨wr.heap.size,0,none⟩) 1 1] 151);rw [World.size_alloc] at h;exact .inr ⟨0,rfl,lt_of_block h,fun j u hu=>by rw [Nat.zero_add,cell_at h];simpa [cEnt1] using hu⟩)
    have HIn:Hid (InE ((wr.alloc (.cells #[.int .i64 (i:Int)] 3)).alloc (.cells #[.string xa,.string xd,.slice (some ⟨wr.heap.size,0,none⟩) 1 1] 151)) ⟨(xa,xd),[i],wr.heap.size,some ⟨wr.heap.size,0,none⟩,1⟩):=hid ⟨(Ow.lit wr 3 1 1 #[.int .i64 (i:Int)] rfl (by omega)).nw ((Nw.refl _).alloc' _),by simp,by simp⟩;have hnb:Ak=none∨wr.heap.size≠bk:=by
     by_cases hA:Ak=none
     ·exact .inl hA
     ·exact .inr (fun e=>by have:=HO.out.lt_some hA;omega)
    go_wp2_with (first
     | (at_builtin;refine wpList_app E_entR rfl (.tmp 56) (.tmp 61) rfl rfl (HO.out.nw HNn.out) rfl HLn.out rfl (by intro h;cases h) (by intro v hv;simp [cEnt1] at hv;rcases hv with rfl | rfl | rfl<;>rfl) (by simp only [maxLen];omega) (by omega) ?_;intro b3 A3 c3 w3 r1 r2 r3 r4;obtain ⟨s1,s2,s3,s4⟩:=out_step HB.out (HN.out.trans HNn.out) (fun r hr=>⟨(HE.out r hr).1.nw HNn.out,(HE.out r hr).2⟩) ⟨(xa,xd),[i],wr.heap.size,some ⟨wr.heap.size,0,none⟩,1⟩ HIn.out hnb r1 r2 r3 r4;have S1:=hid s1;have S2:=hid s2;have S3:=hid s3;have S4:=hid s4;clear r1 r2 r3 r4 s1 s2 s3 s4)
     | fail)
    go_ret;exact ⟨b3,A3,c3,_,by simp,by rw [List.map_append,hX];have h:=HS2.out;rw [← hX] at h ⊢;exact h,S1.out,fun r hr=>(S4.out r hr).1,Nat.le_trans HNQ.out.size S2.out,HNQ.out.trans S3.out⟩
end
section
open Go Go.RowKit Go.Lib Go.Sort Go.Shelf
attribute [local go_sem] Oper.semAt_some
theorem numsOf_mem {done:List (Lab × Nat)} {x:Lab} {y:Nat}:y∈numsOf done x↔(x,y)∈done:=by
 unfold numsOf;rw [List.mem_map];constructor
 ·rintro ⟨⟨a,i⟩,h,rfl⟩;obtain ⟨h1,h2⟩:=List.mem_filter.1 h;rw [← cmpL_eq.1 h2];exact h1
 ·intro h;exact ⟨(x,y),List.mem_filter.2 ⟨h,cmpL_eq.2 rfl⟩,rfl⟩
theorem cmp_nodup {ks:List Lab} (h:ks.Pairwise fun x y=>cmpL x y = -1):ks.Nodup:=h.imp fun {a b} k e=>by
 subst e;rw [(cmp3_L.zero _ _).2 rfl] at k;omega
theorem IsIdx.len {done:List (Lab × Nat)} {E:List EntV} (h:IsIdx done E):E.length≤done.length:=by
 have:=nodup_sub_len (m:=done.map (·.1)) (cmp_nodup h.asc) (fun x hx=>by
  obtain ⟨i,hi⟩:=(h.mem x).1 hx;exact List.mem_map.2 ⟨_,hi,rfl⟩)
 simpa using this
theorem take_idx {sets:List (List Lab)} {L:List Lab} {k j:Nat} {x:Lab} {y:Nat} (hx:x ∉ L.take j) (h:(x,y)∈doneOf (sets.take k)++tagAt (L.take j) k):y < k:=by
 rcases List.mem_append.1 h with h | h
 ·obtain ⟨hy,_⟩:=mem_doneOf.1 h;rw [List.length_take] at hy;omega
 ·obtain ⟨z,hz,e⟩:=List.mem_map.1 h;injection e with e1 e2
  subst e1;exact (hx hz).elim
set_option maxRecDepth 100000 in
set_option maxHeartbeats 2000000 in
theorem RBuild_any (w:World) (b:Nat) (A:Option Addr) (n c:Nat) (l:List SetS) (hn:n=l.length) (hm:n≤1000) (hr:Rd w b A (cSet l)) (hI:∀ s∈l,InSet w s) (hd:(doneOf (l.map (·.labs))).length≤999) (hnd:∀ s∈l,s.labs.Nodup) :
  Calls Tryz.prog 43 #[.slice A n c] w fun e w'=>∃ (b':Nat) (A':Option Addr) (c':Nat) (E:List GR),e=.returned (.slice A' E.length c')∧E.map keyG=idxOf (doneOf (l.map (·.labs)))∧Rd w' b' A' (cEnt E)∧(∀ x∈E,Rd w' x.b x.A (cN .i64 x.ns))∧Nw w w':=by
 subst hn;have HR:=hid hr;have HI:=hid hI;have HND:=hid hnd;obtain ⟨sets,hsets⟩:∃ s,l.map (·.labs)=s:=⟨_,rfl⟩;rw [hsets] at hd ⊢;have HS:=hid hsets;clear hr hI hsets hnd;go_enter Tryz.func43,Tryz.ntmps43
 go_wp2;go_loopw [3,4] (fun v i wr=>∃ (k:Nat) (out:List GR) (bk:Nat) (Ak:Option Addr) (ck:Nat),k≤l.length∧i=.int .i64 k∧v=.slice Ak out.length ck∧Hid (Rd wr bk Ak (cEnt out))∧Hid (∀ r∈out,InE wr r)∧Hid (out.map keyG=idxOf (doneOf (sets.take k)))∧Hid (Nw w wr)) (fun _ i _=>l.length - (intOf i).toNat)
 case atStart=>exact ⟨0,[],0,none,0,by omega,rfl,rfl,hid (.inl rfl),hid (by simp),hid (by simp [doneOf,idxOf]),hid (Nw.refl _)⟩
 case round =>
  obtain ⟨k,out,bk,Ak,ck,hk,rfl,rfl,HO,HE,HX,HN⟩:=hrel;by_cases hlt:k < l.length
  ·have hltI:(k:Int) < (l.length:Int):=by omega
   obtain ⟨o,rfl,hbw,hc⟩:=HR.out.get (k:=k) (by rw [cSet,List.length_map];exact hlt);simp only [cSet,List.getElem_map] at hc;have HIx:=hid (HI.out l[k] (List.getElem_mem hlt));have HNx:=hid (HND.out l[k] (List.getElem_mem hlt));have hks:k < sets.length:=by rw [← HS.out,List.length_map];exact hlt
   have HD:=hid (doneOf_snoc hks);have HL:=hid (show sets[k]=l[k].labs from by simp only [← HS.out,List.getElem_map]);have HDL:=hid (show (doneOf (sets.take k)++tagAt sets[k] k).length≤999 from by
    rw [← doneOf_snoc hks];refine Nat.le_trans ?_ hd
    conv=>rhs;rw [← List.take_append_drop (k+1) sets]
    unfold doneOf;rw [List.mapIdx_append,List.flatten_append,List.length_append];omega)
   have HTI:=hid fun (L:List Lab) (j:Nat) (x:Lab) (y:Nat) hx h=>take_idx (sets:=sets) (L:=L) (k:=k) (j:=j) (x:=x) (y:=y) hx h
   generalize l[k]=x at *;generalize sets[k]=L at *;obtain ⟨labs,bl,al,cl⟩:=x;obtain rfl:L=labs:=HL.out;have hll:L.length≤1000:=HIx.out.2.1;have HIL:Hid (Rd w bl al (cL L)):=hid HIx.out.1;generalize doneOf (sets.take k)=D at *;clear HL HIx;dsimp only at hc;have HC:=hid fun W (h:Nw w W)=>cell_old (a:=⟨b,o+k,none⟩) h hbw hc
   clear hc;go_wp2_with fail;go_loopw [3,5] (fun v i wr=>∃ (j:Nat) (out:List GR) (bk:Nat) (Ak:Option Addr) (ck:Nat),j≤L.length∧i=.int .i64 j∧v=.slice Ak out.length ck∧Hid (Rd wr bk Ak (cEnt out))∧Hid (∀ r∈out,InE wr r)∧Hid (out.map keyG=idxOf (D++tagAt (L.take j) k))∧Hid (Nw w wr)) (fun _ i _=>L.length - (intOf i).toNat)
   case atStart=>exact ⟨0,out,bk,Ak,ck,by omega,rfl,rfl,HO,HE,by simpa [tagAt] using HX,HN⟩
   case round =>
    clear HO HE HX HN;obtain ⟨j,out,bk,Ak,ck,hj,rfl,rfl,HO,HE,HX,HN⟩:=hrel;have hcw:=HC.out _ HN.out;by_cases hjt:j < L.length
    ·have hltJ:(j:Int) < (L.length:Int):=by omega
     obtain ⟨o2,rfl,_,hc0,hc1⟩:=two_at (HIL.out.nw HN.out) hjt;have hxt:L[j] ∉ L.take j:=fun hm=>by
      obtain ⟨i2,hi2,e⟩:=List.getElem_of_mem hm;rw [List.getElem_take] at e;have h1:i2 < j:=by rw [List.length_take] at hi2;omega
      have:=nodup_inj HNx.out (hi:=by omega) (hj:=hjt) e;omega
     have HT:=hid (show D++tagAt (L.take (j+1)) k=D++tagAt (L.take j) k++[(L[j],k)] from by rw [tagAt_snoc hjt,List.append_assoc]);have hdl:(D++tagAt (L.take j) k).length≤998:=by
      have:=HDL.out;simp [tagAt] at this ⊢;omega
     have HTJ:=hid fun y=>HTI.out L j L[j] y hxt
     generalize L[j]=x at *;have hIs:=idxOf_isIdx (D++tagAt (L.take j) k);rw [← HX.out] at hIs;have hol:=hIs.len;rw [List.length_map] at hol;have HIns:=hid (RInsert_any wr bk Ak out.length ck k x out rfl (by omega) HO.out (fun r hr=>by
      have hn:=hIs.nums (keyG r) (List.mem_map.2 ⟨r,hr,rfl⟩);refine ⟨HE.out r hr,?_,fun e y hy=>?_⟩
      ·have h2:r.ns=numsOf (D++tagAt (L.take j) k) r.lab:=hn;rw [h2];have:=numsOf_len (D++tagAt (L.take j) k) r.lab;omega
      ·have h2:r.ns=numsOf (D++tagAt (L.take j) k) r.lab:=hn;rw [h2,e] at hy;exact HTJ.out y (numsOf_mem.1 hy)) hIs.asc)
     have HX2:Hid (insK x k (out.map keyG)=idxOf (D++tagAt (L.take (j+1)) k)):=hid (by rw [HT.out,idxOf_snoc,HX.out]);obtain ⟨xa,xd⟩:=x;clear hIs hol hdl HT HTJ hxt HO HE HX;go_wp2_with (first | (go_at_call 93;refine HIns.out.mono ?_;rintro e w2 ⟨b2,A2,c2,l2,rfl,h1,h2,h3,h4,h5⟩;have H1:=hid h1;have H2:=hid h2.rd;have H3:=hid h3;have H5:=hid (HN.out.trans h5);clear h1 h2 h3 h4 h5) | fail)
     go_roundw
     case rel=>exact ⟨j+1,l2,b2,A2,c2,by omega,by go_num,rfl,H2,H3,hid (H1.out.trans HX2.out),H5⟩
     case measure=>simp [intOf];omega
    ·obtain rfl:j=L.length:=by omega
     have hX:=HX.out;rw [List.take_length,← HD.out] at hX;have HX2:=hid hX;clear hX HX;go_wp2_with fail;go_roundw
     case rel=>exact ⟨k+1,out,bk,Ak,ck,by omega,by go_num,rfl,HO,HE,HX2,HN⟩
     case measure=>simp [intOf];omega
  ·obtain rfl:k=l.length:=by omega
   have hX:=HX.out;rw [List.take_of_length_le (by rw [← HS.out,List.length_map];exact Nat.le_refl _)] at hX;have HX2:=hid hX;clear hX;go_wp2;go_ret;exact ⟨bk,Ak,ck,out,rfl,HX2.out,HO.out,fun x hx=>(HE.out x hx).1.rd,HN.out⟩
end
end Go.Proofs.YtobfpajapgakdaaGreatDoor
