/- Laws that the last text builds on. -/
import Derived.Test.YtmmonehfnfbpbaaGreatDoorR1
import Derived.Test.YtmmonehfnfbpbaaGreatDoorChecked
namespace Go.Proofs.YtmmonehfnfbpbaaGreatDoor
open Go.Lib(hid)
section
open Go Go.RowKit Go.Sort
theorem bl_irrefl:∀ l:List UInt8,Op.bytesLess l l=false:=by
 intro l;induction l with
 | nil=>rfl
 | cons a l ih=>simp [Op.bytesLess,ih]
theorem bl_asymm:∀ a b:List UInt8,Op.bytesLess a b=true→Op.bytesLess b a=false:=by
 intro a;induction a with
 | nil=>intro b h;cases b<;>rfl
 | cons x a ih =>
  intro b h;cases b with
  | nil=>simp [Op.bytesLess] at h
  | cons y b =>
   simp only [Op.bytesLess,Bool.or_eq_true,decide_eq_true_eq,Bool.and_eq_true,beq_iff_eq,Bool.or_eq_false_iff,decide_eq_false_iff_not,Bool.and_eq_false_iff,beq_eq_false_iff_ne] at h ⊢;rcases h with h | ⟨rfl,h⟩
   ·refine ⟨?_,.inl ?_⟩
    ·intro h';exact UInt8.lt_irrefl _ (UInt8.lt_trans h h')
    ·rintro rfl;exact UInt8.lt_irrefl _ h
   ·exact ⟨UInt8.lt_irrefl _,.inr (ih b h)⟩
theorem u8_tri (x y:UInt8):x < y∨x=y∨y < x:=by
 rcases Nat.lt_trichotomy x.toNat y.toNat with h | h | h
 ·exact .inl (UInt8.lt_iff_toNat_lt.2 h)
 ·exact .inr (.inl (UInt8.toNat_inj.1 h))
 ·exact .inr (.inr (UInt8.lt_iff_toNat_lt.2 h))
theorem bl_total:∀ a b:List UInt8,Op.bytesLess a b=true∨a=b∨Op.bytesLess b a=true:=by
 intro a;induction a with
 | nil=>intro b;cases b with | nil=>exact .inr (.inl rfl) | cons _ _=>exact .inl rfl
 | cons x a ih =>
  intro b;cases b with
  | nil=>exact .inr (.inr rfl)
  | cons y b =>
   simp only [Op.bytesLess,Bool.or_eq_true,decide_eq_true_eq,Bool.and_eq_true,beq_iff_eq];rcases u8_tri x y with h | rfl | h
   ·exact .inl (.inl h)
   ·rcases ih b with h | rfl | h
    ·exact .inl (.inr ⟨rfl,h⟩)
    ·exact .inr (.inl rfl)
    ·exact .inr (.inr (.inr ⟨rfl,h⟩))
   ·exact .inr (.inr (.inl h))
theorem bl_trans:∀ a b c:List UInt8,Op.bytesLess a b=true→Op.bytesLess b c=true→Op.bytesLess a c=true:=by
 intro a;induction a with
 | nil =>
  intro b c h1 h2;cases c with
  | nil=>cases b<;>simp [Op.bytesLess] at h2
  | cons z c=>rfl
 | cons x a ih =>
  intro b c h1 h2;cases b with
  | nil=>simp [Op.bytesLess] at h1
  | cons y b =>
   cases c with
   | nil=>simp [Op.bytesLess] at h2
   | cons z c =>
    simp only [Op.bytesLess,Bool.or_eq_true,decide_eq_true_eq,Bool.and_eq_true,beq_iff_eq] at h1 h2 ⊢;rcases h1 with h1 | ⟨rfl,h1⟩
    ·rcases h2 with h2 | ⟨rfl,h2⟩
     ·exact .inl (UInt8.lt_trans h1 h2)
     ·exact .inl h1
    ·rcases h2 with h2 | ⟨rfl,h2⟩
     ·exact .inl h2
     ·exact .inr ⟨rfl,ih b c h1 h2⟩
theorem bytes_ext {a b:ByteArray} (h:a.toList=b.toList):a=b:=by
 rw [ByteArray.toList_eq,ByteArray.toList_eq] at h;obtain ⟨⟨x⟩⟩:=a;obtain ⟨⟨y⟩⟩:=b;simp at h;rw [h]
def cmpS (a b:ByteArray):Int:=if Op.bytesLess a.toList b.toList=true then -1 else if (a.toList == b.toList)=true then 0 else 1
theorem cmpS_zero {a b:ByteArray}:cmpS a b=0↔a=b:=by
 unfold cmpS;constructor
 ·intro h;split at h
  ·cases h
  ·split at h
   ·rename_i e;exact bytes_ext (by simpa using e)
   ·cases h
 ·rintro rfl;rw [if_neg (by rw [bl_irrefl];simp),if_pos (by simp)]
theorem cmpS_neg {a b:ByteArray}:cmpS a b = -1↔Op.bytesLess a.toList b.toList=true:=by
 unfold cmpS;split
 ·rename_i h;exact ⟨fun _=>h,fun _=>rfl⟩
 ·rename_i h
  constructor
  ·intro e;split at e<;>cases e
  ·intro e;exact absurd e h
theorem cmpS_pos {a b:ByteArray}:cmpS a b=1↔Op.bytesLess b.toList a.toList=true:=by
 rcases bl_total a.toList b.toList with h | h | h
 ·rw [show cmpS a b = -1 from cmpS_neg.2 h,bl_asymm _ _ h];simp
 ·rw [show cmpS a b=0 from cmpS_zero.2 (bytes_ext h),h,bl_irrefl];simp
 ·constructor
  ·intro _;exact h
  ·intro _;unfold cmpS;rw [if_neg (by rw [bl_asymm _ _ h];simp),if_neg];intro e;have e2:a.toList=b.toList:=by simpa using e
   rw [e2,bl_irrefl] at h;cases h
theorem cmpS_in (a b:ByteArray):cmpS a b = -1∨cmpS a b=0∨cmpS a b=1:=by unfold cmpS;split;exact .inl rfl;split;exact .inr (.inl rfl);exact .inr (.inr rfl)
theorem isNaNS_any (w:World) (a:ByteArray):Calls Tryz.prog 251 #[.string a] w fun e w'=>e=.returned (.bool false)∧w=w':=by
 go_enter Tryz.func251,Tryz.ntmps251
 go_wp2;go_ret;exact ⟨by simp,rfl⟩
theorem CompareS_any (w:World) (a b:ByteArray):Calls Tryz.prog 191 #[.string a,.string b] w fun e w'=>e=.returned (.int .i64 (cmpS a b))∧w=w':=by
 have HC:=hid (show cmpS a b=(if Op.bytesLess a.toList b.toList=true then -1 else if (a.toList == b.toList)=true then 0 else 1) from rfl);generalize cmpS a b=C at *;cases h1:Op.bytesLess a.toList b.toList with
 | true =>
  have hC:=HC.out;rw [if_pos h1] at hC;subst hC;go_enter Tryz.func191,Tryz.ntmps191
  go_wp2_with (go_at_call 251;refine (isNaNS_any _ _).mono ?_;rintro e w1 ⟨rfl,hw⟩;subst hw)
  go_ret;exact ⟨rfl,rfl⟩
 | false =>
  cases h2:(a.toList == b.toList) with
  | true =>
   have hC:=HC.out;rw [if_neg (by rw [h1];simp),if_pos h2] at hC;subst hC;go_enter Tryz.func191,Tryz.ntmps191
   go_wp2_with (go_at_call 251;refine (isNaNS_any _ _).mono ?_;rintro e w1 ⟨rfl,hw⟩;subst hw)
   go_ret;exact ⟨rfl,rfl⟩
  | false =>
   have hC:=HC.out;rw [if_neg (by rw [h1];simp),if_neg (by rw [h2];simp)] at hC;subst hC;go_enter Tryz.func191,Tryz.ntmps191
   go_wp2_with (go_at_call 251;refine (isNaNS_any _ _).mono ?_;rintro e w1 ⟨rfl,hw⟩;subst hw)
   go_ret;exact ⟨rfl,rfl⟩
end
section
open Go Go.RowKit Go.Sort
theorem cell_at {w:World} {b k:Nat} {cs:Array Value} {t:TypeId} {fr:Nat × Nat} (h:w.heap[b]? = some (.cells cs t fr)):w.cell? ⟨b,k,none⟩=cs[k]?:=by simp [World.cell?,h]
def partFs:Array Value:=#[.func (.func 242) #[] #[],.func (.func 243) #[] #[]]
theorem lparts_any (w:World):Calls Tryz.prog 183 #[] w fun e w'=>e=.returned (.agg partFs)∧Gr w w':=by
 go_enter Tryz.func183,Tryz.ntmps183
 go_wp2;refine bodyPost_ret (results_cell_row rfl _ _ w.heap.size 281 _ _ _ rfl (heap_alloc_new _ _) Tryz.underlying281 rfl (by kernel_rfl)) rfl ?_;exact ⟨rfl,Gr.alloc _ _⟩
theorem part1_any (w:World) (a b:ByteArray):Calls Tryz.prog 242 #[.agg #[.string a,.string b]] w fun e w'=>e=.returned (.string a)∧Gr w w':=by
 go_enter Tryz.func242,Tryz.ntmps242
 go_wp2;go_ret;exact ⟨rfl,Gr.alloc _ _⟩
theorem part2_any (w:World) (a b:ByteArray):Calls Tryz.prog 243 #[.agg #[.string a,.string b]] w fun e w'=>e=.returned (.string b)∧Gr w w':=by
 go_enter Tryz.func243,Tryz.ntmps243
 go_wp2;go_ret;exact ⟨rfl,Gr.alloc _ _⟩
theorem by_any (w:World) (f:FuncId):Calls Tryz.prog 244 #[.func (.func f) #[] #[]] w fun e w'=>e=.returned (.func (.func 289) #[] #[.pointer (some ⟨w.heap.size,0,none⟩)])∧w'=w.alloc (.cells #[.func (.func f) #[] #[]] 278):=by
 go_enter Tryz.func244,Tryz.ntmps244
 go_wp2;go_ret;exact ⟨rfl,rfl⟩
theorem byC1_any (w:World) (g:Nat) (a b c d:ByteArray) (hc:w.cell? ⟨g,0,none⟩=some (.func (.func 242) #[] #[])) :
  Calls Tryz.prog 289 #[.agg #[.string a,.string b],.agg #[.string c,.string d],.pointer (some ⟨g,0,none⟩)] w fun e w'=>e=.returned (.int .i64 (cmpS a c))∧Gr w w':=by
 have hg:=lt_of_cell hc;go_enter Tryz.func289,Tryz.ntmps289
 go_wp2_with fail;have hb0:((w.alloc (.cells #[.string a,.string b] 96)).alloc (.cells #[.string c,.string d] 96)).heap[w.heap.size]? = some (.cells #[.string a,.string b] 96 (0,0)):=by
  rw [heap_alloc_old _ _ (by simp)];exact heap_alloc_new _ _
 have hb1:((w.alloc (.cells #[.string a,.string b] 96)).alloc (.cells #[.string c,.string d] 96)).heap[w.heap.size+1]? = some (.cells #[.string c,.string d] 96 (0,0)):=by
  simpa using heap_alloc_new (w.alloc (.cells #[.string a,.string b] 96)) _
 have hgr:Gr w ((w.alloc (.cells #[.string a,.string b] 96)).alloc (.cells #[.string c,.string d] 96)):=(Gr.alloc _ _).trans (Gr.alloc _ _);have hcq:=cell_old hgr.nw hg hc;have hgq:g < ((w.alloc (.cells #[.string a,.string b] 96)).alloc (.cells #[.string c,.string d] 96)).heap.size:=Nat.lt_of_lt_of_le hg hgr.nw.size;generalize (w.alloc (.cells #[.string a,.string b] 96)).alloc (.cells #[.string c,.string d] 96)=wq at *;have hl0:=lt_of_block hb0;have hl1:=lt_of_block hb1;have q0:∀ p:Gp,(grow (wq.drewN p.n) p.os).cell? ⟨w.heap.size,0,none⟩=some (.string a):=cell_gr hl0 (by simp [World.cell?,hb0]);have q1:∀ p:Gp,(grow (wq.drewN p.n) p.os).cell? ⟨w.heap.size,1,none⟩=some (.string b):=cell_gr hl0 (by simp [World.cell?,hb0]);have q2:∀ p:Gp,(grow (wq.drewN p.n) p.os).cell? ⟨w.heap.size+1,0,none⟩=some (.string c):=cell_gr hl1 (by simp [World.cell?,hb1]);have q3:∀ p:Gp,(grow (wq.drewN p.n) p.os).cell? ⟨w.heap.size+1,1,none⟩=some (.string d):=cell_gr hl1 (by simp [World.cell?,hb1]);have q4:∀ p:Gp,(grow (wq.drewN p.n) p.os).cell? ⟨g,0,none⟩=some (.func (.func 242) #[] #[]):=cell_gr hgq hcq;refine wp_region_gr (by kernel_rfl) (by kernel_rfl) ?_
 repeat (quiet_step (first | (go_at_call 191;refine Calls.gr ((CompareS_any _ _ _).mono fun _ _ h=>⟨h.1,by rw [← h.2];exact Gr.refl _⟩)) | (go_at_call 242;refine Calls.gr (part1_any _ _ _)) | (refine Calls.gr (part1_any _ _ _))))
 refine wpQuiet_nil ?_;rintro _ ⟨p,rfl⟩;go_wp2;go_ret;exact ⟨rfl,hgr.trans ⟨p,rfl⟩⟩
theorem byC2_any (w:World) (g:Nat) (a b c d:ByteArray) (hc:w.cell? ⟨g,0,none⟩=some (.func (.func 243) #[] #[])) :
  Calls Tryz.prog 289 #[.agg #[.string a,.string b],.agg #[.string c,.string d],.pointer (some ⟨g,0,none⟩)] w fun e w'=>e=.returned (.int .i64 (cmpS b d))∧Gr w w':=by
 have hg:=lt_of_cell hc;go_enter Tryz.func289,Tryz.ntmps289
 go_wp2_with fail;have hb0:((w.alloc (.cells #[.string a,.string b] 96)).alloc (.cells #[.string c,.string d] 96)).heap[w.heap.size]? = some (.cells #[.string a,.string b] 96 (0,0)):=by
  rw [heap_alloc_old _ _ (by simp)];exact heap_alloc_new _ _
 have hb1:((w.alloc (.cells #[.string a,.string b] 96)).alloc (.cells #[.string c,.string d] 96)).heap[w.heap.size+1]? = some (.cells #[.string c,.string d] 96 (0,0)):=by
  simpa using heap_alloc_new (w.alloc (.cells #[.string a,.string b] 96)) _
 have hgr:Gr w ((w.alloc (.cells #[.string a,.string b] 96)).alloc (.cells #[.string c,.string d] 96)):=(Gr.alloc _ _).trans (Gr.alloc _ _);have hcq:=cell_old hgr.nw hg hc;have hgq:g < ((w.alloc (.cells #[.string a,.string b] 96)).alloc (.cells #[.string c,.string d] 96)).heap.size:=Nat.lt_of_lt_of_le hg hgr.nw.size;generalize (w.alloc (.cells #[.string a,.string b] 96)).alloc (.cells #[.string c,.string d] 96)=wq at *;have hl0:=lt_of_block hb0;have hl1:=lt_of_block hb1;have q0:∀ p:Gp,(grow (wq.drewN p.n) p.os).cell? ⟨w.heap.size,0,none⟩=some (.string a):=cell_gr hl0 (by simp [World.cell?,hb0]);have q1:∀ p:Gp,(grow (wq.drewN p.n) p.os).cell? ⟨w.heap.size,1,none⟩=some (.string b):=cell_gr hl0 (by simp [World.cell?,hb0]);have q2:∀ p:Gp,(grow (wq.drewN p.n) p.os).cell? ⟨w.heap.size+1,0,none⟩=some (.string c):=cell_gr hl1 (by simp [World.cell?,hb1]);have q3:∀ p:Gp,(grow (wq.drewN p.n) p.os).cell? ⟨w.heap.size+1,1,none⟩=some (.string d):=cell_gr hl1 (by simp [World.cell?,hb1]);have q4:∀ p:Gp,(grow (wq.drewN p.n) p.os).cell? ⟨g,0,none⟩=some (.func (.func 243) #[] #[]):=cell_gr hgq hcq;refine wp_region_gr (by kernel_rfl) (by kernel_rfl) ?_
 repeat (quiet_step (first | (go_at_call 191;refine Calls.gr ((CompareS_any _ _ _).mono fun _ _ h=>⟨h.1,by rw [← h.2];exact Gr.refl _⟩)) | (go_at_call 243;refine Calls.gr (part2_any _ _ _)) | (refine Calls.gr (part2_any _ _ _))))
 refine wpQuiet_nil ?_;rintro _ ⟨p,rfl⟩;go_wp2;go_ret;exact ⟨rfl,hgr.trans ⟨p,rfl⟩⟩
def cmpL (x y:Lab):Int:=if cmpS x.1 y.1≠0 then cmpS x.1 y.1 else cmpS x.2 y.2
set_option maxRecDepth 100000 in
set_option maxHeartbeats 1600000 in
theorem cmpLab_any (w:World) (x y:Lab) :
  Calls Tryz.prog 248 #[.agg #[.string x.1,.string x.2],.agg #[.string y.1,.string y.2]] w fun e w'=>e=.returned (.int .i64 (cmpL x y))∧Gr w w':=by
 have HC:=hid (show cmpL x y=(if cmpS x.1 y.1≠0 then cmpS x.1 y.1 else cmpS x.2 y.2) from rfl);obtain ⟨a,b⟩:=x;obtain ⟨c,d⟩:=y;dsimp only at HC ⊢;generalize cmpL (a,b) (c,d)=C at *;have i0:∀ W,(Instr.index 281 (.agg partFs) (.int .i64 0)).run Tryz.prog W=.ok (.agg #[.func (.func 242) #[] #[]]) W:=fun _=>by kernel_rfl
 have i1:∀ W,(Instr.index 281 (.agg partFs) (.int .i64 1)).run Tryz.prog W=.ok (.agg #[.func (.func 243) #[] #[]]) W:=fun _=>by kernel_rfl
 obtain ⟨c1,hc1⟩:∃ x,cmpS a c=x:=⟨_,rfl⟩;obtain ⟨c2,hc2⟩:∃ x,cmpS b d=x:=⟨_,rfl⟩;rw [hc1,hc2] at HC;have HV1:=hid hc1;have HV2:=hid hc2;clear hc1 hc2;go_enter Tryz.func248,Tryz.ntmps248
 go_wp2_with fail;obtain ⟨g0,hg0⟩:∃ g,g=w.heap.size:=⟨_,rfl⟩;obtain ⟨g1,hg1⟩:∃ g,g=w.heap.size+1:=⟨_,rfl⟩;have hb0:((w.alloc (.cells #[.string a,.string b] 96)).alloc (.cells #[.string c,.string d] 96)).heap[g0]? = some (.cells #[.string a,.string b] 96 (0,0)):=by
  rw [hg0,heap_alloc_old _ _ (by simp)];exact heap_alloc_new _ _
 have hb1:((w.alloc (.cells #[.string a,.string b] 96)).alloc (.cells #[.string c,.string d] 96)).heap[g1]? = some (.cells #[.string c,.string d] 96 (0,0)):=by
  rw [hg1];simpa using heap_alloc_new (w.alloc (.cells #[.string a,.string b] 96)) _
 have hN0:Gr w ((w.alloc (.cells #[.string a,.string b] 96)).alloc (.cells #[.string c,.string d] 96)):=((Gr.refl w).alloc' _).alloc' _;rw [← hg1,← hg0];clear hg0 hg1;generalize (w.alloc (.cells #[.string a,.string b] 96)).alloc (.cells #[.string c,.string d] 96)=wb at *;refine (lparts_any _).mono ?_;rintro e w1 ⟨rfl,hgr⟩;have hN1:=hgr;have hbl0:=lt_of_block hb0;have hbl1:=lt_of_block hb1;have HBB:Hid (∀ W,Gr wb W→W.cell? ⟨g0,0,none⟩=some (.string a)∧W.cell? ⟨g0,1,none⟩=some (.string b)∧W.cell? ⟨g1,0,none⟩=some (.string c)∧W.cell? ⟨g1,1,none⟩=some (.string d)):=by
  refine hid fun W hN=>?_
  have h0:=(hN.block g0 hbl0).trans hb0;have h1:=(hN.block g1 hbl1).trans hb1;exact ⟨by simp [World.cell?,h0],by simp [World.cell?,h0],by simp [World.cell?,h1],by simp [World.cell?,h1]⟩
 go_wp2_with fail;refine wp_loop_rounds 3 ?_;rw [rounds_succ];go_wp2_with fail;generalize hwq:w1.alloc (.cells #[.func (.func 242) #[] #[]] 280)=wq1;obtain ⟨gp1,hgp1⟩:∃ g,g=w1.heap.size:=⟨_,rfl⟩;have hp1:wq1.heap[gp1]? = some (.cells #[.func (.func 242) #[] #[]] 280 (0,0)):=by rw [← hwq,hgp1];exact heap_alloc_new _ _
 have hq1:Gr wb wq1:=by rw [← hwq];exact hN1.alloc' _
 rw [← hgp1];have hpl1:=lt_of_block hp1;have H1:Hid (∀ W,Gr wq1 W→W.cell? ⟨gp1,0,none⟩=some (.func (.func 242) #[] #[])∧W.cell? ⟨g0,0,none⟩=some (.string a)∧W.cell? ⟨g0,1,none⟩=some (.string b)∧W.cell? ⟨g1,0,none⟩=some (.string c)∧W.cell? ⟨g1,1,none⟩=some (.string d)):=by
  refine hid fun W hN=>?_
  have h0:=(hN.block gp1 hpl1).trans hp1;exact ⟨by simp [World.cell?,h0],HBB.out _ (hq1.trans hN)⟩
 clear hwq hgp1 hp1;have HB1:Hid (∀ W,(W.cell? ⟨gp1,0,none⟩=some (.func (.func 242) #[] #[])∧W.cell? ⟨g0,0,none⟩=some (.string a)∧W.cell? ⟨g0,1,none⟩=some (.string b)∧W.cell? ⟨g1,0,none⟩=some (.string c)∧W.cell? ⟨g1,1,none⟩=some (.string d))∧Gr wq1 W →
   Calls Tryz.prog 244 #[.func (.func 242) #[] #[]] W fun e w'=>∃ gb:Nat,e=.returned (.func (.func 289) #[] #[.pointer (some ⟨gb,0,none⟩)])∧w'.cell? ⟨gb,0,none⟩=some (.func (.func 242) #[] #[]) ∧
    ((w'.cell? ⟨gp1,0,none⟩=some (.func (.func 242) #[] #[])∧w'.cell? ⟨g0,0,none⟩=some (.string a)∧w'.cell? ⟨g0,1,none⟩=some (.string b)∧w'.cell? ⟨g1,0,none⟩=some (.string c)∧w'.cell? ⟨g1,1,none⟩=some (.string d))∧Gr wq1 w')):=by
  refine hid fun W hS=>(by_any W _).mono ?_
  rintro e w' ⟨rfl,rfl⟩;exact ⟨W.heap.size,rfl,cell_at (heap_alloc_new W _),H1.out _ (hS.2.alloc' _),hS.2.alloc' _⟩
 have HC1:Hid (∀ W (gb:Nat),W.cell? ⟨gb,0,none⟩=some (.func (.func 242) #[] #[])→((W.cell? ⟨gp1,0,none⟩=some (.func (.func 242) #[] #[])∧W.cell? ⟨g0,0,none⟩=some (.string a)∧W.cell? ⟨g0,1,none⟩=some (.string b)∧W.cell? ⟨g1,0,none⟩=some (.string c)∧W.cell? ⟨g1,1,none⟩=some (.string d))∧Gr wq1 W) →
   Calls Tryz.prog 289 #[.agg #[.string a,.string b],.agg #[.string c,.string d],.pointer (some ⟨gb,0,none⟩)] W fun e w'=>e=.returned (.int .i64 c1) ∧
    ((w'.cell? ⟨gp1,0,none⟩=some (.func (.func 242) #[] #[])∧w'.cell? ⟨g0,0,none⟩=some (.string a)∧w'.cell? ⟨g0,1,none⟩=some (.string b)∧w'.cell? ⟨g1,0,none⟩=some (.string c)∧w'.cell? ⟨g1,1,none⟩=some (.string d))∧Gr wq1 w')):=by
  refine hid fun W gb hgb hS=>?_
  have h:=byC1_any W gb a b c d hgb;rw [HV1.out] at h;refine h.mono ?_;rintro e w' ⟨rfl,hN⟩;exact ⟨rfl,H1.out _ (hS.2.trans hN),hS.2.trans hN⟩
 have E10:=hid (And.intro (H1.out _ (Gr.refl wq1)) (Gr.refl wq1));have E11:=hid (And.intro (H1.out _ (Gr.drewO wq1)) (Gr.drewO wq1));go_region_held3 (fun w'=>(w'.cell? ⟨gp1,0,none⟩=some (.func (.func 242) #[] #[])∧w'.cell? ⟨g0,0,none⟩=some (.string a)∧w'.cell? ⟨g0,1,none⟩=some (.string b)∧w'.cell? ⟨g1,0,none⟩=some (.string c)∧w'.cell? ⟨g1,1,none⟩=some (.string d))∧Gr wq1 w')
  (first | exact E10.out | exact E11.out | exact hS)
  (first
   | (go_at_call 244;refine (HB1.out _ (by assumption)).mono ?_;rintro e w5 ⟨gb,rfl,hgb,hS⟩)
   | (go_at_call 289;refine (HC1.out _ gb hgb (by assumption)).mono ?_;rintro e w6 ⟨rfl,hS⟩))
 by_cases hz:c1=0
 ·have hz1:(c1 != 0)=false:=by rw [bne_eq_false_iff_eq];exact hz
  have hC:=HC.out;rw [if_neg (by simp [hz])] at hC;have HC0:=hid hC;have HS6:=hid (hq1.trans hS.2);clear hC hS HC hz;go_wp2_with fail;rw [rounds_succ];go_wp2_with fail;generalize hwq:w6.alloc (.cells #[.func (.func 243) #[] #[]] 280)=wq2;obtain ⟨gp2,hgp2⟩:∃ g,g=w6.heap.size:=⟨_,rfl⟩;have hp2:wq2.heap[gp2]? = some (.cells #[.func (.func 243) #[] #[]] 280 (0,0)):=by rw [← hwq,hgp2];exact heap_alloc_new _ _
  have hq2:Gr wb wq2:=by rw [← hwq];exact HS6.out.alloc' _
  rw [← hgp2];have hpl2:=lt_of_block hp2;have H2:Hid (∀ W,Gr wq2 W→W.cell? ⟨gp2,0,none⟩=some (.func (.func 243) #[] #[])∧W.cell? ⟨g0,0,none⟩=some (.string a)∧W.cell? ⟨g0,1,none⟩=some (.string b)∧W.cell? ⟨g1,0,none⟩=some (.string c)∧W.cell? ⟨g1,1,none⟩=some (.string d)):=by
   refine hid fun W hN=>?_
   have h0:=(hN.block gp2 hpl2).trans hp2;exact ⟨by simp [World.cell?,h0],HBB.out _ (hq2.trans hN)⟩
  clear hwq hgp2 hp2;have HB2:Hid (∀ W,(W.cell? ⟨gp2,0,none⟩=some (.func (.func 243) #[] #[])∧W.cell? ⟨g0,0,none⟩=some (.string a)∧W.cell? ⟨g0,1,none⟩=some (.string b)∧W.cell? ⟨g1,0,none⟩=some (.string c)∧W.cell? ⟨g1,1,none⟩=some (.string d))∧Gr wq2 W →
    Calls Tryz.prog 244 #[.func (.func 243) #[] #[]] W fun e w'=>∃ gb:Nat,e=.returned (.func (.func 289) #[] #[.pointer (some ⟨gb,0,none⟩)])∧w'.cell? ⟨gb,0,none⟩=some (.func (.func 243) #[] #[]) ∧
     ((w'.cell? ⟨gp2,0,none⟩=some (.func (.func 243) #[] #[])∧w'.cell? ⟨g0,0,none⟩=some (.string a)∧w'.cell? ⟨g0,1,none⟩=some (.string b)∧w'.cell? ⟨g1,0,none⟩=some (.string c)∧w'.cell? ⟨g1,1,none⟩=some (.string d))∧Gr wq2 w')):=by
   refine hid fun W hS=>(by_any W _).mono ?_
   rintro e w' ⟨rfl,rfl⟩;exact ⟨W.heap.size,rfl,cell_at (heap_alloc_new W _),H2.out _ (hS.2.alloc' _),hS.2.alloc' _⟩
  have HC2:Hid (∀ W (gb:Nat),W.cell? ⟨gb,0,none⟩=some (.func (.func 243) #[] #[])→((W.cell? ⟨gp2,0,none⟩=some (.func (.func 243) #[] #[])∧W.cell? ⟨g0,0,none⟩=some (.string a)∧W.cell? ⟨g0,1,none⟩=some (.string b)∧W.cell? ⟨g1,0,none⟩=some (.string c)∧W.cell? ⟨g1,1,none⟩=some (.string d))∧Gr wq2 W) →
    Calls Tryz.prog 289 #[.agg #[.string a,.string b],.agg #[.string c,.string d],.pointer (some ⟨gb,0,none⟩)] W fun e w'=>e=.returned (.int .i64 c2) ∧
     ((w'.cell? ⟨gp2,0,none⟩=some (.func (.func 243) #[] #[])∧w'.cell? ⟨g0,0,none⟩=some (.string a)∧w'.cell? ⟨g0,1,none⟩=some (.string b)∧w'.cell? ⟨g1,0,none⟩=some (.string c)∧w'.cell? ⟨g1,1,none⟩=some (.string d))∧Gr wq2 w')):=by
   refine hid fun W gb hgb hS=>?_
   have h:=byC2_any W gb a b c d hgb;rw [HV2.out] at h;refine h.mono ?_;rintro e w' ⟨rfl,hN⟩;exact ⟨rfl,H2.out _ (hS.2.trans hN),hS.2.trans hN⟩
  have E20:=hid (And.intro (H2.out _ (Gr.refl wq2)) (Gr.refl wq2));have E21:=hid (And.intro (H2.out _ (Gr.drewO wq2)) (Gr.drewO wq2));go_region_held3 (fun w'=>(w'.cell? ⟨gp2,0,none⟩=some (.func (.func 243) #[] #[])∧w'.cell? ⟨g0,0,none⟩=some (.string a)∧w'.cell? ⟨g0,1,none⟩=some (.string b)∧w'.cell? ⟨g1,0,none⟩=some (.string c)∧w'.cell? ⟨g1,1,none⟩=some (.string d))∧Gr wq2 w')
   (first | exact E20.out | exact E21.out | exact hS)
   (first
    | (go_at_call 244;refine (HB2.out _ (by assumption)).mono ?_;rintro e w5 ⟨gb,rfl,hgb,hS⟩)
    | (go_at_call 289;refine (HC2.out _ gb hgb (by assumption)).mono ?_;rintro e w6 ⟨rfl,hS⟩))
  by_cases hz2:c2=0
  ·have hz3:(c2 != 0)=false:=by rw [bne_eq_false_iff_eq];exact hz2
   go_wp2_with fail;rw [rounds_succ];go_wp2_with fail;go_ret;rw [HC0.out,hz2];exact ⟨rfl,(hN0.trans hq2).trans hS.2⟩
  ·have hz3:(c2 != 0)=true:=by rw [bne_iff_ne];exact hz2
   go_wp2_with fail;go_ret;rw [HC0.out];exact ⟨rfl,(hN0.trans hq2).trans hS.2⟩
 ·have hz1:(c1 != 0)=true:=by rw [bne_iff_ne];exact hz
  have hC:=HC.out;rw [if_pos hz] at hC;have HC0:=hid hC;clear hC HC;go_wp2_with fail;go_ret;rw [HC0.out];exact ⟨rfl,(hN0.trans hq1).trans hS.2⟩
end
section
open Go Go.RowKit Go.Sort
def cmpLs:List Lab→List Lab→Int
 | [],[]=>0
 | [],_::_=>-1
 | _::_,[]=>1
 | x::a,y::b=>if cmpL x y≠0 then cmpL x y else cmpLs a b
theorem drop_cons {α:Type} {l:List α} {k:Nat} (h:k < l.length):l.drop k=l[k]::l.drop (k+1):=List.drop_eq_getElem_cons h
theorem cmpLs_ends (a b:List Lab) (k:Nat) (ha:a.length≤k):cmpLs (a.drop k) (b.drop k)=if k < b.length then -1 else 0:=by
 rw [List.drop_eq_nil_of_le ha];split
 ·rename_i h;rw [drop_cons h];rfl
 ·rw [List.drop_eq_nil_of_le (by omega)];rfl
set_option maxRecDepth 100000 in
theorem CompareFunc_any (w:World) (b1 b2:Nat) (A1 A2:Option Addr) (n1 c1 n2 c2:Nat) (l1 l2:List Lab) (hn1:n1=l1.length) (hn2:n2=l2.length) (hm1:n1≤1000000) (hm2:n2≤1000000) (hr1:Rd w b1 A1 (cL l1)) (hr2:Rd w b2 A2 (cL l2)) :
  Calls Tryz.prog 247 #[.slice A1 n1 c1,.slice A2 n2 c2,.func (.func 248) #[] #[]] w fun e w'=>e=.returned (.int .i64 (cmpLs l1 l2))∧Gr w w':=by
 subst hn1 hn2;have HR1:=hid hr1;have HR2:=hid hr2;obtain ⟨C,hC⟩:∃ C,cmpLs l1 l2=C:=⟨_,rfl⟩;rw [hC];have HC:=hid hC;clear hr1 hr2 hC;go_enter Tryz.func247,Tryz.ntmps247
 go_wp2;go_loopw [13] (fun i wr=>∃ k:Nat,k≤l1.length∧i=.int .i64 k∧k≤l2.length∧Hid (C=cmpLs (l1.drop k) (l2.drop k))∧Hid (Gr w wr)) (fun i _=>l1.length - (intOf i).toNat)
 case atStart=>exact ⟨0,by omega,rfl,by omega,hid HC.out.symm,hid (Gr.refl _)⟩
 case round =>
  obtain ⟨k,hk,rfl,hk2,HX,HN⟩:=hrel;by_cases hlt:k < l1.length
  ·have hltI:(k:Int) < (l1.length:Int):=by omega
   obtain ⟨o,rfl,_,hc0,hc1⟩:=two_at (HR1.out.nw HN.out.nw) hlt;have hd1:=drop_cons hlt;by_cases hlt2:k < l2.length
   ·have hltI2:¬ (l2.length:Int)≤(k:Int):=by omega
    have hltI3:(k:Int) < (l2.length:Int):=by omega
    obtain ⟨o2,rfl,hb2,hd0,hd1'⟩:=two_at (HR2.out.nw HN.out.nw) hlt2;have hX:=HX.out;rw [hd1,drop_cons hlt2] at hX;have HX2:=hid (show C=if cmpL l1[k] l2[k]≠0 then cmpL l1[k] l2[k] else cmpLs (l1.drop (k+1)) (l2.drop (k+1)) from hX);clear hX HX hd1 HR1 HR2;generalize l1[k]=x at *;generalize l2[k]=y at *;obtain ⟨c,hc⟩:∃ c,cmpL x y=c:=⟨_,rfl⟩;have HV:=hid fun W=>cmpLab_any W x y
    rw [hc] at HV HX2;clear hc;go_wp2_with fail;refine (HV.out _).mono ?_;rintro e w2 ⟨rfl,hN2⟩;have hNN:=((HN.out.alloc' _).alloc' _).trans hN2;by_cases hz:c=0
    ·have hz1:(c != 0)=false:=by rw [bne_eq_false_iff_eq];exact hz
     have hX:=HX2.out;rw [if_neg (by simp [hz])] at hX;have HX3:=hid hX;clear hX hz hN2;go_wp2_with fail;go_roundw
     case rel=>exact ⟨k+1,by omega,by go_num,by omega,HX3,hid hNN⟩
     case measure=>simp [intOf];omega
    ·have hz1:(c != 0)=true:=by rw [bne_iff_ne];exact hz
     have hX:=HX2.out;rw [if_pos hz] at hX;have HX3:=hid hX;clear hX hN2;go_wp2_with fail;go_ret;rw [HX3.out];exact ⟨rfl,hNN⟩
   ·have hltI2:(l2.length:Int)≤(k:Int):=by omega
    have hX:=HX.out;rw [hd1,show l2.drop k=[] from List.drop_eq_nil_of_le (by omega)] at hX;have HX2:=hid (show C=1 from hX);clear hX HX hd1;go_wp2;go_ret;rw [HX2.out];exact ⟨rfl,HN.out.alloc' _⟩
  ·obtain rfl:k=l1.length:=by omega
   have hX:=HX.out;rw [cmpLs_ends l1 l2 _ (Nat.le_refl _)] at hX;by_cases hs:l1.length < l2.length
   ·rw [if_pos hs] at hX;have HX2:=hid hX;have hsI:(l1.length:Int) < (l2.length:Int):=by omega
    clear hX HX;go_wp2;go_ret;rw [HX2.out];exact ⟨rfl,HN.out⟩
   ·rw [if_neg hs] at hX;have HX2:=hid hX;have hsI:¬ (l1.length:Int) < (l2.length:Int):=by omega
    clear hX HX;go_wp2;go_ret;rw [HX2.out];exact ⟨rfl,HN.out⟩
theorem CompareL_any (w:World) (b1 b2:Nat) (A1 A2:Option Addr) (n1 c1 n2 c2:Nat) (l1 l2:List Lab) (hn1:n1=l1.length) (hn2:n2=l2.length) (hm1:n1≤1000000) (hm2:n2≤1000000) (hr1:Rd w b1 A1 (cL l1)) (hr2:Rd w b2 A2 (cL l2)) :
  Calls Tryz.prog 188 #[.slice A1 n1 c1,.slice A2 n2 c2] w fun e w'=>e=.returned (.int .i64 (cmpLs l1 l2))∧Gr w w':=by
 have HC:=hid (CompareFunc_any w b1 b2 A1 A2 n1 c1 n2 c2 l1 l2 hn1 hn2 hm1 hm2 hr1 hr2);clear hn1 hn2 hr1 hr2;go_enter Tryz.func188,Tryz.ntmps188
 go_wp2_with (go_at_call 247;refine HC.out.mono ?_;rintro e w1 ⟨rfl,hN⟩)
 go_ret;exact ⟨rfl,hN⟩
end
section
open Go Go.RowKit Go.Sort
def noName (a:ByteArray):Bool:=a.toList.isEmpty
def oneE (x:Lab):Nat:=if noName x.1=true then 17 else if 65535 < x.1.size∨65535 < x.2.size then 7 else 0
theorem single_any (w:World) (a b:ByteArray) :
  Calls Tryz.prog 245 #[.agg #[.string a,.string b]] w fun e w'=>e=.returned (.int .i64 (oneE (a,b):Nat))∧Nw w w':=by
 have HE:=hid (show oneE (a,b)=(if noName a=true then 17 else if 65535 < a.size∨65535 < b.size then 7 else 0) from rfl);generalize oneE (a,b)=E at *;cases h0:noName a with
 | true =>
  have hE:=HE.out;rw [if_pos h0] at hE;have HE2:=hid hE;have h1:a.toList.isEmpty=true:=h0;clear hE HE h0;go_enter Tryz.func245,Tryz.ntmps245
  go_wp2;go_ret;rw [HE2.out];exact ⟨rfl,(Nw.refl _).alloc' _⟩
 | false =>
  have hE:=HE.out;rw [if_neg (by rw [h0];simp)] at hE;have h1:a.toList.isEmpty=false:=h0;clear HE h0;by_cases hc:65535 < a.size∨65535 < b.size
  ·rw [if_pos hc] at hE;have HE2:=hid hE;clear hE;by_cases hab:a.size < b.size
   ·have habI:(a.size:Int) < (b.size:Int):=by omega
    have hb:(65535:Int) < (b.size:Int):=by omega
    go_enter Tryz.func245,Tryz.ntmps245
    go_wp2;go_ret;rw [HE2.out];exact ⟨rfl,(Nw.refl _).alloc' _⟩
   ·have habI:¬ (a.size:Int) < (b.size:Int):=by omega
    have hb:(65535:Int) < (a.size:Int):=by omega
    go_enter Tryz.func245,Tryz.ntmps245
    go_wp2;go_ret;rw [HE2.out];exact ⟨rfl,(Nw.refl _).alloc' _⟩
  ·rw [if_neg hc] at hE;have HE2:=hid hE;have h2:a.size≤65535:=by omega
   have h3:b.size≤65535:=by omega
   clear hE hc;by_cases hab:a.size < b.size
   ·have habI:(a.size:Int) < (b.size:Int):=by omega
    have hb:¬ (65535:Int) < (b.size:Int):=by omega
    go_enter Tryz.func245,Tryz.ntmps245
    go_wp2;go_ret;rw [HE2.out];exact ⟨rfl,(Nw.refl _).alloc' _⟩
   ·have habI:¬ (a.size:Int) < (b.size:Int):=by omega
    have hb:¬ (65535:Int) < (a.size:Int):=by omega
    go_enter Tryz.func245,Tryz.ntmps245
    go_wp2;go_ret;rw [HE2.out];exact ⟨rfl,(Nw.refl _).alloc' _⟩
def chkF:Option ByteArray→List Lab→Nat
 | _,[]=>0
 | none,x::l=>if oneE x≠0 then oneE x else chkF (some x.1) l
 | some p,x::l=>if oneE x≠0 then oneE x else if cmpS p x.1=0 then 18 else if cmpS p x.1=1 then 16 else chkF (some x.1) l
def chkL (l:List Lab):Nat:=chkF none l
def prevN (l:List Lab) (k:Nat):Option ByteArray:=if k=0 then none else (l[k - 1]?).map (·.1)
set_option maxRecDepth 100000 in
set_option maxHeartbeats 1600000 in
theorem CheckL_any (w:World) (b:Nat) (A:Option Addr) (n c:Nat) (l:List Lab) (hn:n=l.length) (hm:n≤1000000) (hr:Rd w b A (cL l)) :
  Calls Tryz.prog 185 #[.slice A n c] w fun e w'=>e=.returned (.int .i64 (chkL l:Nat))∧Nw w w':=by
 subst hn;have HR:=hid hr;obtain ⟨C,hC⟩:∃ C,chkL l=C:=⟨_,rfl⟩;rw [hC];have HC:=hid hC;have i0:∀ W,(Instr.index 281 (.agg partFs) (.int .i64 0)).run Tryz.prog W=.ok (.agg #[.func (.func 242) #[] #[]]) W:=fun _=>by kernel_rfl
 have fl0:∀ W,(Instr.field 280 (.agg #[.func (.func 242) #[] #[]]) 0).run Tryz.prog W=.ok (.func (.func 242) #[] #[]) W:=fun _=>by kernel_rfl
 clear hr hC;go_enter Tryz.func185,Tryz.ntmps185
 go_wp2_with (first
  | (go_at_call 183;refine (lparts_any _).mono ?_;rintro e w1 ⟨rfl,hgr⟩)
  | (go_at_call 244;refine (by_any _ _).mono ?_;rintro e w2 ⟨rfl,rfl⟩))
 generalize hw2:w1.alloc (.cells #[.func (.func 242) #[] #[]] 278)=w2;have hN2:Nw w w2:=by rw [← hw2];exact hgr.nw.alloc' _
 have hbk:w2.heap[w1.heap.size]? = some (.cells #[.func (.func 242) #[] #[]] 278 (0,0)):=by rw [← hw2];exact heap_alloc_new _ _
 obtain ⟨gb,hgb⟩:∃ g,g=w1.heap.size:=⟨_,rfl⟩;rw [← hgb] at hbk ⊢;have hgl:=lt_of_block hbk;have HBK:=hid hbk;have HN2:=hid hN2;clear hw2 hgb hgr hN2 hbk;go_loopw [13] (fun i wr=>∃ k:Nat,k≤l.length∧i=.int .i64 k∧Hid (C=chkF (prevN l k) (l.drop k))∧Hid (Nw w2 wr)) (fun i _=>l.length - (intOf i).toNat)
 case atStart=>exact ⟨0,by omega,rfl,hid (by rw [← HC.out];rfl),hid (Nw.refl _)⟩
 case round =>
  obtain ⟨k,hk,rfl,HX,HN⟩:=hrel;by_cases hlt:k < l.length
  ·have hltI:(k:Int) < (l.length:Int):=by omega
   obtain ⟨o,rfl,hbw,hc0,hc1⟩:=two_at ((HR.out.nw HN2.out).nw HN.out) hlt;have hX:=HX.out;rw [drop_cons hlt] at hX;have HPX:=hid (show prevN l (k+1)=some l[k].1 from by unfold prevN;rw [if_neg (by omega),Nat.add_sub_cancel,List.getElem?_eq_getElem hlt];rfl);have HPV:=hid fun (h:k - 1 < l.length)=>two_at ((HR.out.nw HN2.out).nw HN.out) h
   generalize l[k]=x at *;obtain ⟨a,d⟩:=x;dsimp only at hc0 hc1 HPX;have HS:=hid fun W=>single_any W a d
   obtain ⟨E,hE⟩:∃ E,oneE (a,d)=E:=⟨_,rfl⟩;rw [hE] at HS;have HE:=hid hE;have hNA:Nw w2 (wr.alloc (.cells #[.string a,.string d] 96)):=HN.out.alloc' _;have HNA:=hid hNA;have hbx:(wr.alloc (.cells #[.string a,.string d] 96)).heap[wr.heap.size]? = some (.cells #[.string a,.string d] 96 (0,0)):=heap_alloc_new _ _;clear hE hNA;by_cases hE0:E=0
   ·have hE1:((E:Int) != 0)=false:=by rw [bne_eq_false_iff_eq];omega
    by_cases hk0:k=0
    ·subst hk0;rw [show prevN l 0=none from rfl] at hX;have HX2:=hid (show C=chkF (some a) (l.drop 1) from by
      rw [hX];show (if oneE (a,d)≠0 then oneE (a,d) else chkF (some a) (l.drop (0+1)))=_
      rw [if_neg (by rw [HE.out];simp [hE0])])
     simp only [Nat.zero_mul,Nat.add_zero] at hc0 hc1;clear hX HX;go_wp2_with (go_at_call 245;refine (HS.out _).mono ?_;rintro e w3 ⟨rfl,hN3⟩)
     go_roundw
     case rel=>exact ⟨1,by omega,by go_num,by rw [HPX.out];exact HX2,hid (HNA.out.trans hN3)⟩
     case measure=>simp [intOf];omega
    ·have hk0':((k:Int) == 0)=false:=by rw [beq_eq_false_iff_ne];omega
     have j0:(0:Int)≤(k:Int) - 1:=by omega
     have j1:(k:Int) - 1 < (l.length:Int):=by omega
     have j2:((k:Int) - 1).toNat=k - 1:=by omega
     obtain ⟨o',e',_,hp0,hp1⟩:=HPV.out (by omega);obtain rfl:o'=o:=by injection e' with e';injection e' with _ e' _;exact e'.symm
     have HPP:=hid (show prevN l k=some l[k - 1].1 from by unfold prevN;rw [if_neg hk0,List.getElem?_eq_getElem (by omega)];rfl);generalize l[k - 1]=y at *;obtain ⟨p,r⟩:=y;dsimp only at hp0 hp1 HPP;rw [HPP.out] at hX;obtain ⟨s,hs⟩:∃ s,cmpS p a=s:=⟨_,rfl⟩;have hsin:=cmpS_in p a;rw [hs] at hsin;have HX2:=hid (show C=if s=0 then 18 else if s=1 then 16 else chkF (some a) (l.drop (k+1)) from by
      rw [hX];show (if oneE (a,d)≠0 then oneE (a,d) else if cmpS p a=0 then 18 else if cmpS p a=1 then 16 else chkF (some a) (l.drop (k+1)))=_
      rw [if_neg (by rw [HE.out];simp [hE0]),hs])
     have HCL:=hid fun W (h:W.cell? ⟨gb,0,none⟩=some (.func (.func 242) #[] #[]))=>byC1_any W gb p r a d h
     rw [hs] at HCL;clear hX HX hs;go_wp2_with (go_at_call 245;refine (HS.out _).mono ?_;rintro e w3 ⟨rfl,hN3⟩)
     have hNW:=HN.out.trans (((Nw.refl wr).alloc' _).trans hN3);have hNr:Nw wr w3:=((Nw.refl wr).alloc' _).trans hN3;have hx3:=(hN3.block _ (lt_of_block hbx)).trans hbx;have hxl:=lt_of_block hx3;have hg3:=(hNW.block gb hgl).trans HBK.out;have hg3l:=lt_of_block hg3;have hbw3:b < w3.heap.size:=Nat.lt_of_lt_of_le hbw hNr.size;have q0:∀ p':Gp,(grow (w3.drewN p'.n) p'.os).cell? ⟨b,o'+(k - 1)*2,none⟩=some (.string p):=cell_gr hbw3 (cell_old hNr hbw hp0);have q1:∀ p':Gp,(grow (w3.drewN p'.n) p'.os).cell? ⟨b,o'+(k - 1)*2+1,none⟩=some (.string r):=cell_gr hbw3 (cell_old hNr hbw hp1);have q2:∀ p':Gp,(grow (w3.drewN p'.n) p'.os).cell? ⟨wr.heap.size,0,none⟩=some (.string a):=cell_gr hxl (by simp [World.cell?,hx3]);have q3:∀ p':Gp,(grow (w3.drewN p'.n) p'.os).cell? ⟨wr.heap.size,1,none⟩=some (.string d):=cell_gr hxl (by simp [World.cell?,hx3]);have q4:∀ p':Gp,(grow (w3.drewN p'.n) p'.os).cell? ⟨gb,0,none⟩=some (.func (.func 242) #[] #[]):=cell_gr hg3l (by simp [World.cell?,hg3]);have Q4:=hid q4;have j3:IntKind.i64.wrap ((k:Int) - 1)=(k:Int) - 1:=IntWalk.i64_in _ (by omega);go_wp2_with fail;refine wp_region_gr (by kernel_rfl) (by kernel_rfl) ?_
     repeat (go_big_quiet_step (first | (go_at_call 289;refine Calls.gr (HCL.out _ (Q4.out _)))))
     refine wpQuiet_nil ?_;rintro _ ⟨p',rfl⟩;have HNZ:=hid (HN.out.trans (hNr.trans (Gr.nw ⟨p',rfl⟩:Nw w3 _)));rcases hsin with rfl | rfl | rfl
     ·have HX3:=hid (show C=chkF (some a) (l.drop (k+1)) from by rw [HX2.out];rfl);go_wp2_with fail;go_roundw
      case rel=>exact ⟨k+1,by omega,by go_num,by rw [HPX.out];exact HX3,HNZ⟩
      case measure=>simp [intOf];omega
     ·have HX3:=hid (show C=18 from by rw [HX2.out];rfl);go_wp2_with fail;go_ret;rw [HX3.out];exact ⟨rfl,HN2.out.trans HNZ.out⟩
     ·have HX3:=hid (show C=16 from by rw [HX2.out];rfl);go_wp2_with fail;go_ret;rw [HX3.out];exact ⟨rfl,HN2.out.trans HNZ.out⟩
   ·have hE1:((E:Int) != 0)=true:=by rw [bne_iff_ne];omega
    have HX2:=hid (show C=E from by
     rw [hX];cases prevN l k with
     | none =>
      show (if oneE (a,d)≠0 then oneE (a,d) else _)=_
      rw [if_pos (by rw [HE.out];exact hE0),HE.out]
     | some q =>
      show (if oneE (a,d)≠0 then oneE (a,d) else _)=_
      rw [if_pos (by rw [HE.out];exact hE0),HE.out])
    clear hX HX;go_wp2_with (go_at_call 245;refine (HS.out _).mono ?_;rintro e w3 ⟨rfl,hN3⟩)
    go_ret;rw [HX2.out];exact ⟨rfl,HN2.out.trans (HNA.out.trans hN3)⟩
  ·obtain rfl:k=l.length:=by omega
   have hX:=HX.out;rw [List.drop_length] at hX;have HX2:=hid (show C=0 from by rw [hX];cases prevN l l.length<;>rfl);go_wp2;go_ret;rw [HX2.out];exact ⟨rfl,HN2.out.trans HN.out⟩
end
section
open Go Go.RowKit Go.Sort
def cmpI (a b:Int):Int:=if a < b then -1 else if b < a then 1 else 0
theorem isNaNI_any (w:World) (a:Int):Calls Tryz.prog 290 #[.int .i64 a] w fun e w'=>e=.returned (.bool false)∧w=w':=by
 go_enter Tryz.func290,Tryz.ntmps290
 go_wp2;go_ret;exact ⟨by simp,rfl⟩
theorem CompareI_any (w:World) (a b:Int):Calls Tryz.prog 246 #[.int .i64 a,.int .i64 b] w fun e w'=>e=.returned (.int .i64 (cmpI a b))∧w=w':=by
 have HC:=hid (show cmpI a b=(if a < b then -1 else if b < a then 1 else 0) from rfl);generalize cmpI a b=C at *;by_cases h1:a < b
 ·have hC:=HC.out;rw [if_pos h1] at hC;subst hC;go_enter Tryz.func246,Tryz.ntmps246
  go_wp2_with (go_at_call 290;refine (isNaNI_any _ _).mono ?_;rintro e w1 ⟨rfl,hw⟩;subst hw)
  go_ret;exact ⟨rfl,rfl⟩
 ·by_cases h2:b < a
  ·have hC:=HC.out;rw [if_neg h1,if_pos h2] at hC;subst hC;go_enter Tryz.func246,Tryz.ntmps246
   go_wp2_with (go_at_call 290;refine (isNaNI_any _ _).mono ?_;rintro e w1 ⟨rfl,hw⟩;subst hw)
   go_ret;exact ⟨rfl,rfl⟩
  ·have hC:=HC.out;rw [if_neg h1,if_neg h2] at hC;subst hC;go_enter Tryz.func246,Tryz.ntmps246
   go_wp2_with (go_at_call 290;refine (isNaNI_any _ _).mono ?_;rintro e w1 ⟨rfl,hw⟩;subst hw)
   go_ret;exact ⟨rfl,rfl⟩
theorem byTime_any (w:World) (a b:Int) (u v:Nat) :
  Calls Tryz.prog 187 #[.agg #[.int .i64 a,.int .u64 (u:Int)],.agg #[.int .i64 b,.int .u64 (v:Int)]] w fun e w'=>e=.returned (.int .i64 (cmpI a b))∧Gr w w':=by
 go_enter Tryz.func187,Tryz.ntmps187
 go_wp2_with (go_at_call 246;refine (CompareI_any _ _ _).mono ?_;rintro e w1 ⟨rfl,hw⟩;subst hw)
 go_ret;exact ⟨rfl,(Gr.alloc _ _).trans (Gr.alloc _ _)⟩
def tmF:Int→List Smpl→Nat
 | _,[]=>0
 | p,x::l=>if x.1=p then 20 else if x.1 < p then 16 else tmF x.1 l
def tmE:List Smpl→Nat
 | []=>0
 | x::l=>tmF x.1 l
theorem tmE_step {l:List Smpl} {k:Nat} (h0:0 < k) (h:k < l.length):tmE (l.drop (k - 1))=if l[k].1=l[k - 1].1 then 20 else if l[k].1 < l[k - 1].1 then 16 else tmE (l.drop k):=by
 rw [drop_cons (show k - 1 < l.length by omega),show k - 1+1=k by omega,drop_cons h];rfl
theorem tmE_end {l:List Smpl} {k:Nat} (h:l.length≤k):tmE (l.drop (k - 1))=0:=by
 by_cases h1:k - 1 < l.length
 ·rw [drop_cons h1,List.drop_eq_nil_of_le (by omega)];rfl
 ·rw [List.drop_eq_nil_of_le (by omega)];rfl
set_option maxRecDepth 100000 in
theorem times_any (w:World) (b:Nat) (A:Option Addr) (n c:Nat) (l:List Smpl) (hn:n=l.length) (hm:n≤10000000) (hr:Rd w b A (cS l)) :
  Calls Tryz.prog 49 #[.slice A n c] w fun e w'=>e=.returned (.int .i64 (tmE l:Nat))∧Dr w w':=by
 subst hn;have HR:=hid hr;obtain ⟨C,hC⟩:∃ C,tmE l=C:=⟨_,rfl⟩;rw [hC];have HC:=hid hC;clear hr hC;go_enter Tryz.func49,Tryz.ntmps49
 go_wp2;go_loopw [3] (fun i wr=>∃ k:Nat,1≤k∧i=.int .i64 k∧(k≤l.length∨k=1)∧Hid (C=tmE (l.drop (k - 1)))∧Hid (Dr w wr)) (fun i _=>l.length - (intOf i).toNat)
 case atStart=>exact ⟨1,by omega,rfl,.inr rfl,hid HC.out.symm,hid (Dr.refl _)⟩
 case round =>
  obtain ⟨k,hk,rfl,hkl,HX,HD⟩:=hrel;by_cases hlt:k < l.length
  ·have hltI:(k:Int) < (l.length:Int):=by omega
   obtain ⟨o,rfl,hbw,hc0,_⟩:=two_at (HR.out.nw HD.out.nw) hlt;obtain ⟨o',e',_,hp0,_⟩:=two_at (HR.out.nw HD.out.nw) (show k - 1 < l.length by omega);obtain rfl:o'=o:=by injection e' with e';injection e' with _ e' _;exact e'.symm
   have hX:=HX.out;rw [tmE_step (by omega) hlt] at hX;have HX2:=hid hX;generalize l[k].1=a at *;generalize l[k - 1].1=p at *;have j0:(0:Int)≤(k:Int) - 1:=by omega
   have j1:(k:Int) - 1 < (l.length:Int):=by omega
   have j2:((k:Int) - 1).toNat=k - 1:=by omega
   have HCE:=hid fun W (hN:Nw wr W)=>And.intro (cell_old hN hbw hc0) (cell_old hN hbw hp0)
   clear hX HX;go_wp2_with fail;go_quiet (fail)
   have HDq:=hid (HD.out.step nq);obtain ⟨d0,d1⟩:=HCE.out _ (Nw.drewN wr nq);generalize World.drewN wr nq=wq at *;clear hc0 hp0;by_cases h1:a=p
   ·have h1b:(a == p)=true:=by rw [beq_iff_eq];exact h1
    have HX3:=hid (show C=20 from by rw [HX2.out,if_pos h1]);clear h1;go_wp2_with fail;go_ret;rw [HX3.out];exact ⟨rfl,HDq.out⟩
   ·have h1b:(a == p)=false:=by rw [beq_eq_false_iff_ne];exact h1
    go_wp2_with fail;go_quiet (fail)
    have HDz:=hid (HDq.out.step nq);generalize World.drewN wq nq=wz at *;by_cases h2:a < p
    ·have HX3:=hid (show C=16 from by rw [HX2.out,if_neg h1,if_pos h2]);go_wp2_with fail;go_ret;rw [HX3.out];exact ⟨rfl,HDz.out⟩
    ·have HX3:=hid (show C=tmE (l.drop (k+1 - 1)) from by rw [HX2.out,if_neg h1,if_neg h2];rfl);go_wp2_with fail;go_roundw
     case rel=>exact ⟨k+1,by omega,by go_num,.inl (by omega),HX3,HDz⟩
     case measure=>simp [intOf];omega
  ·have hX:=HX.out;rw [tmE_end (by omega)] at hX;have HX2:=hid hX;have hltI:¬ (k:Int) < (l.length:Int):=by omega
   clear hX HX;go_wp2;go_ret;rw [HX2.out];exact ⟨rfl,HD.out⟩
set_option maxRecDepth 100000 in
set_option maxHeartbeats 1600000 in
theorem ascS_any (w:World) (b:Nat) (A:Option Addr) (n c:Nat) (l:List Smpl) (hn:n=l.length) (hm:n≤10000000) (hr:Rd w b A (cS l)) :
  Calls Tryz.prog 186 #[.slice A n c,.func (.func 187) #[] #[],.int .i64 20] w fun e w'=>e=.returned (.int .i64 (tmE l:Nat))∧Nw w w':=by
 subst hn;have HR:=hid hr;obtain ⟨C,hC⟩:∃ C,tmE l=C:=⟨_,rfl⟩;rw [hC];have HC:=hid hC;clear hr hC;go_enter Tryz.func186,Tryz.ntmps186
 go_wp2
 go_step3
 go_wp2
 go_step3
 go_wp2;go_loopw [7,8] (fun v i wr=>v=.int .i64 0∧∃ k:Nat,1≤k∧i=.int .i64 k∧(k≤l.length∨k=1)∧Hid (C=tmE (l.drop (k - 1)))∧Hid (Nw w wr)) (fun _ i _=>l.length - (intOf i).toNat)
 case atStart=>exact ⟨rfl,1,by omega,rfl,.inr rfl,hid HC.out.symm,hid (Nw.refl _)⟩
 case round =>
  obtain ⟨rfl,k,hk,rfl,hkl,HX,HN⟩:=hrel;by_cases hlt:k < l.length
  ·have hltI:(k:Int) < (l.length:Int):=by omega
   obtain ⟨o,rfl,hbw,hc0,hc1⟩:=two_at (HR.out.nw HN.out) hlt;obtain ⟨o',e',_,hp0,hp1⟩:=two_at (HR.out.nw HN.out) (show k - 1 < l.length by omega);obtain rfl:o'=o:=by injection e' with e';injection e' with _ e' _;exact e'.symm
   have hX:=HX.out;rw [tmE_step (by omega) hlt] at hX;have HX2:=hid hX;generalize l[k]=x at *;generalize l[k - 1]=y at *;obtain ⟨a,u⟩:=x;obtain ⟨p,v⟩:=y;dsimp only at hc0 hc1 hp0 hp1 HX2;have j0:(0:Int)≤(k:Int) - 1:=by omega
   have j1:(k:Int) - 1 < (l.length:Int):=by omega
   have j2:((k:Int) - 1).toNat=k - 1:=by omega
   have q0:∀ p':Gp,(grow (wr.drewN p'.n) p'.os).cell? ⟨b,o'+(k - 1)*2,none⟩=some (.int .i64 p):=cell_gr hbw hp0;have q1:∀ p':Gp,(grow (wr.drewN p'.n) p'.os).cell? ⟨b,o'+(k - 1)*2+1,none⟩=some (.int .u64 (v:Int)):=cell_gr hbw hp1;have q2:∀ p':Gp,(grow (wr.drewN p'.n) p'.os).cell? ⟨b,o'+k*2,none⟩=some (.int .i64 a):=cell_gr hbw hc0;have q3:∀ p':Gp,(grow (wr.drewN p'.n) p'.os).cell? ⟨b,o'+k*2+1,none⟩=some (.int .u64 (u:Int)):=cell_gr hbw hc1;obtain ⟨s,hs⟩:∃ s,cmpI p a=s:=⟨_,rfl⟩;have HB:=hid fun W=>byTime_any W p a v u
   rw [hs] at HB;have HS:=hid hs;clear hX HX hs;go_wp2_with fail;refine wp_region_gr (by kernel_rfl) (by kernel_rfl) ?_
   repeat (go_big_quiet_step (first | (go_at_call 187;refine Calls.gr (HB.out _))))
   refine wpQuiet_nil ?_;rintro _ ⟨p',rfl⟩;have HNz:=hid (HN.out.trans (Gr.nw ⟨p',rfl⟩:Nw wr _));by_cases h1:a=p
   ·have hs0:s=0:=by rw [← HS.out];unfold cmpI;rw [if_neg (by omega),if_neg (by omega)]
    subst hs0;have HX3:=hid (show C=20 from by rw [HX2.out,if_pos h1]);clear h1;go_wp2_with fail;simp only [Exit.noGoto];go_ret;rw [HX3.out];exact ⟨rfl,HNz.out⟩
   ·by_cases h2:a < p
    ·have hs0:s=1:=by rw [← HS.out];unfold cmpI;rw [if_neg (by omega),if_pos (by omega)]
     subst hs0;have HX3:=hid (show C=16 from by rw [HX2.out,if_neg h1,if_pos h2]);go_wp2_with fail;simp only [Exit.noGoto];go_ret;rw [HX3.out];exact ⟨rfl,HNz.out⟩
    ·have hs0:s = -1:=by rw [← HS.out];unfold cmpI;rw [if_pos (by omega)]
     subst hs0;have HX3:=hid (show C=tmE (l.drop (k+1 - 1)) from by rw [HX2.out,if_neg h1,if_neg h2];rfl);go_wp2_with fail;go_roundw
     case rel=>exact ⟨rfl,k+1,by omega,by go_num,.inl (by omega),HX3,HNz⟩
     case measure=>simp [intOf];omega
  ·have hX:=HX.out;rw [tmE_end (by omega)] at hX;have HX2:=hid hX;have hltI:¬ (k:Int) < (l.length:Int):=by omega
   clear hX HX;go_wp2;go_ret;rw [HX2.out];exact ⟨rfl,HN.out⟩
end
section
open Go Go.RowKit Go.Sort
def serE (s:Ser):Nat:=if chkL s.labs≠0 then chkL s.labs else if s.smps.length=0 then 21 else tmE s.smps
abbrev vSer (s:Ser):Value:=.agg #[.slice s.al s.labs.length s.cl,.slice s.as_ s.smps.length s.cs]
theorem singleSer_any (w:World) (s:Ser) (hs:SerOk w s) (h1:s.labs.length≤1000000) (h2:s.smps.length≤10000000) :
  Calls Tryz.prog 114 #[vSer s] w fun e w'=>e=.returned (.int .i64 (serE s:Nat))∧Nw w w':=by
 have HL:=hid fun W (hN:Nw w W)=>CheckL_any W s.bl s.al s.labs.length s.cl s.labs rfl h1 (hs.1.rd.nw hN)
 have HA:=hid fun W (hN:Nw w W)=>ascS_any W s.bs s.as_ s.smps.length s.cs s.smps rfl h2 (hs.2.rd.nw hN)
 have HE:=hid (show serE s=if chkL s.labs≠0 then chkL s.labs else if s.smps.length=0 then 21 else tmE s.smps from rfl);generalize serE s=E at *;generalize chkL s.labs=e1 at *;generalize tmE s.smps=e2 at *;clear hs;have hN1:Nw w (w.alloc (.cells #[.slice s.al s.labs.length s.cl,.slice s.as_ s.smps.length s.cs] 86)):=(Nw.refl _).alloc' _;have hb:(w.alloc (.cells #[.slice s.al s.labs.length s.cl,.slice s.as_ s.smps.length s.cs] 86)).heap[w.heap.size]? = some (.cells #[.slice s.al s.labs.length s.cl,.slice s.as_ s.smps.length s.cs] 86 (0,0)):=heap_alloc_new _ _;by_cases h0:e1=0
 ·have h0b:((e1:Int) != 0)=false:=by rw [bne_eq_false_iff_eq];omega
  have hE:=HE.out;rw [if_neg (by simp [h0])] at hE;by_cases hl:s.smps.length=0
  ·rw [if_pos hl] at hE;have HE2:=hid hE;have hlb:((s.smps.length:Int) == 0)=true:=by rw [beq_iff_eq];omega
   have HL0:=hid hl;clear hE hl;go_enter Tryz.func114,Tryz.ntmps114
   go_wp2_with (go_at_call 185;refine (HL.out _ hN1).mono ?_;rintro e w1 ⟨rfl,hN⟩;have hc1:=(cell_at (k:=1) ((hN.block _ (lt_of_block hb)).trans hb)).trans rfl)
   go_ret;rw [HE2.out];exact ⟨rfl,hN1.trans hN⟩
  ·rw [if_neg hl] at hE;have HE2:=hid hE;have hlb:((s.smps.length:Int) == 0)=false:=by rw [beq_eq_false_iff_ne];omega
   clear hE;go_enter Tryz.func114,Tryz.ntmps114
   go_wp2_with (first
    | (go_at_call 186;refine (HA.out _ (hN1.trans hN)).mono ?_;rintro e w2 ⟨rfl,hN2⟩)
    | (go_at_call 185;refine (HL.out _ hN1).mono ?_;rintro e w1 ⟨rfl,hN⟩;have hc1:=(cell_at (k:=1) ((hN.block _ (lt_of_block hb)).trans hb)).trans rfl))
   go_ret;rw [HE2.out];exact ⟨rfl,(hN1.trans hN).trans hN2⟩
 ·have h0b:((e1:Int) != 0)=true:=by rw [bne_iff_ne];omega
  have hE:=HE.out;rw [if_pos h0] at hE;have HE2:=hid hE;clear hE;go_enter Tryz.func114,Tryz.ntmps114
  go_wp2_with (go_at_call 185;refine (HL.out _ hN1).mono ?_;rintro e w1 ⟨rfl,hN⟩)
  go_ret;rw [HE2.out];exact ⟨rfl,hN1.trans hN⟩
theorem bySet_any (w:World) (s t:Ser) (hs:SerOk w s) (ht:SerOk w t) (h1:s.labs.length≤1000000) (h2:t.labs.length≤1000000) :
  Calls Tryz.prog 116 #[vSer s,vSer t] w fun e w'=>e=.returned (.int .i64 (cmpLs s.labs t.labs))∧Gr w w':=by
 have HC:=hid fun W (hN:Nw w W)=>CompareL_any W s.bl t.bl s.al t.al s.labs.length s.cl t.labs.length t.cl s.labs t.labs rfl rfl h1 h2 (hs.1.rd.nw hN) (ht.1.rd.nw hN)
 generalize cmpLs s.labs t.labs=C at *;clear hs ht;go_enter Tryz.func116,Tryz.ntmps116
 go_wp2_with (go_at_call 188;refine (HC.out _ (((Nw.refl w).alloc' _).alloc' _)).mono ?_;rintro e w1 ⟨rfl,hN⟩)
 go_ret;exact ⟨rfl,(((Gr.refl w).alloc' _).alloc' _).trans hN⟩
theorem cmpL_in (x y:Lab):cmpL x y = -1∨cmpL x y=0∨cmpL x y=1:=by
 unfold cmpL;split
 ·exact cmpS_in _ _
 ·exact cmpS_in _ _
theorem cmpLs_in:∀ a b:List Lab,cmpLs a b = -1∨cmpLs a b=0∨cmpLs a b=1:=by
 intro a;induction a with
 | nil=>intro b;cases b with | nil=>exact .inr (.inl rfl) | cons _ _=>exact .inl rfl
 | cons x a ih =>
  intro b;cases b with
  | nil=>exact .inr (.inr rfl)
  | cons y b =>
   have e:cmpLs (x::a) (y::b)=if cmpL x y≠0 then cmpL x y else cmpLs a b:=rfl
   rw [e];split
   ·exact cmpL_in x y
   ·exact ih b
def asF:Ser→List Ser→Nat
 | _,[]=>0
 | p,x::l=>if cmpLs p.labs x.labs=0 then 19 else if cmpLs p.labs x.labs=1 then 16 else asF x l
def asE:List Ser→Nat
 | []=>0
 | x::l=>asF x l
theorem asE_step {l:List Ser} {k:Nat} (h0:0 < k) (h:k < l.length):asE (l.drop (k - 1))=if cmpLs l[k - 1].labs l[k].labs=0 then 19 else if cmpLs l[k - 1].labs l[k].labs=1 then 16 else asE (l.drop k):=by
 rw [drop_cons (show k - 1 < l.length by omega),show k - 1+1=k by omega,drop_cons h];rfl
theorem asE_end {l:List Ser} {k:Nat} (h:l.length≤k):asE (l.drop (k - 1))=0:=by
 by_cases h1:k - 1 < l.length
 ·rw [drop_cons h1,List.drop_eq_nil_of_le (by omega)];rfl
 ·rw [List.drop_eq_nil_of_le (by omega)];rfl
set_option maxRecDepth 100000 in
set_option maxHeartbeats 1600000 in
theorem ascR_any (w:World) (b:Nat) (A:Option Addr) (n c:Nat) (l:List Ser) (hn:n=l.length) (hm:n≤1000000) (hr:Rd w b A (cR l)) (hok:∀ s∈l,SerOk w s∧s.labs.length≤1000000) :
  Calls Tryz.prog 115 #[.slice A n c,.func (.func 116) #[] #[],.int .i64 19] w fun e w'=>e=.returned (.int .i64 (asE l:Nat))∧Nw w w':=by
 subst hn;have HR:=hid hr;have HOK:=hid hok;obtain ⟨C,hC⟩:∃ C,asE l=C:=⟨_,rfl⟩;rw [hC];have HC:=hid hC;clear hr hC hok;go_enter Tryz.func115,Tryz.ntmps115
 go_wp2
 go_step3
 go_wp2
 go_step3
 go_wp2;go_loopw [7,8] (fun v i wr=>v=.int .i64 0∧∃ k:Nat,1≤k∧i=.int .i64 k∧(k≤l.length∨k=1)∧Hid (C=asE (l.drop (k - 1)))∧Hid (Nw w wr)) (fun _ i _=>l.length - (intOf i).toNat)
 case atStart=>exact ⟨rfl,1,by omega,rfl,.inr rfl,hid HC.out.symm,hid (Nw.refl _)⟩
 case round =>
  obtain ⟨rfl,k,hk,rfl,hkl,HX,HN⟩:=hrel;by_cases hlt:k < l.length
  ·obtain ⟨m,rfl⟩:∃ m,k=m+1:=⟨k - 1,by omega⟩;have hltI:(m:Int)+1 < (l.length:Int):=by omega
   obtain ⟨o,rfl,hbw,hc0,hc1⟩:=two_at (HR.out.nw HN.out) hlt;obtain ⟨o',e',_,hp0,hp1⟩:=two_at (HR.out.nw HN.out) (show m < l.length by omega);obtain rfl:o'=o:=by injection e' with e';injection e' with _ e' _;exact e'.symm
   have hX:=HX.out;rw [asE_step (by omega) hlt] at hX;simp only [Nat.add_sub_cancel] at hX;rw [show ((m+1:Nat):Int)=(m:Int)+1 from by push_cast;rfl];have HX2:=hid hX;have HOx:=hid (HOK.out l[m+1] (List.getElem_mem hlt));have HOy:=hid (HOK.out l[m] (List.getElem_mem (by omega)));generalize l[m+1]=x at *;generalize l[m]=y at *;have j0:(0:Int)≤(m:Int)+1:=by omega
   have j1:(m:Int) < (l.length:Int):=by omega
   have j2:((m:Int)+1).toNat=m+1:=by omega
   have j3:IntKind.i64.wrap (m:Int)=(m:Int):=IntWalk.i64_in _ (by omega);obtain ⟨s,hs⟩:∃ s,cmpLs y.labs x.labs=s:=⟨_,rfl⟩;have hsin:=cmpLs_in y.labs x.labs;rw [hs] at hsin HX2;have H0:Hid (∀ W,Nw wr W→W.cell? ⟨b,o'+m*2,none⟩=some (.slice y.al y.labs.length y.cl)∧W.cell? ⟨b,o'+m*2+1,none⟩=some (.slice y.as_ y.smps.length y.cs)∧W.cell? ⟨b,o'+(m+1)*2,none⟩=some (.slice x.al x.labs.length x.cl)∧W.cell? ⟨b,o'+(m+1)*2+1,none⟩=some (.slice x.as_ x.smps.length x.cs)) :=
    hid fun W hN=>⟨cell_old hN hbw hp0,cell_old hN hbw hp1,cell_old hN hbw hc0,cell_old hN hbw hc1⟩
   have HB:Hid (∀ W,(W.cell? ⟨b,o'+m*2,none⟩=some (.slice y.al y.labs.length y.cl)∧W.cell? ⟨b,o'+m*2+1,none⟩=some (.slice y.as_ y.smps.length y.cs)∧W.cell? ⟨b,o'+(m+1)*2,none⟩=some (.slice x.al x.labs.length x.cl)∧W.cell? ⟨b,o'+(m+1)*2+1,none⟩=some (.slice x.as_ x.smps.length x.cs))∧Nw wr W →
     Calls Tryz.prog 116 #[vSer y,vSer x] W fun e w'=>e=.returned (.int .i64 s)∧((w'.cell? ⟨b,o'+m*2,none⟩=some (.slice y.al y.labs.length y.cl)∧w'.cell? ⟨b,o'+m*2+1,none⟩=some (.slice y.as_ y.smps.length y.cs)∧w'.cell? ⟨b,o'+(m+1)*2,none⟩=some (.slice x.al x.labs.length x.cl)∧w'.cell? ⟨b,o'+(m+1)*2+1,none⟩=some (.slice x.as_ x.smps.length x.cs))∧Nw wr w')):=by
    refine hid fun W hS=>?_
    have hNW:=HN.out.trans hS.2;have h:=bySet_any W y x (HOy.out.1.nw hNW) (HOx.out.1.nw hNW) HOy.out.2 HOx.out.2;rw [hs] at h;refine h.mono ?_;rintro e w' ⟨rfl,hG⟩;have hN:=hG.nw;exact ⟨rfl,H0.out _ (hS.2.trans hN),hS.2.trans hN⟩
   have E0:=hid (And.intro (H0.out _ (Nw.refl wr)) (Nw.refl wr));have E1:=hid (And.intro (H0.out _ (Nw.drewO wr)) (Nw.drewO wr));clear hX HX hs;go_wp2_with fail;go_region_held3 (fun w'=>(w'.cell? ⟨b,o'+m*2,none⟩=some (.slice y.al y.labs.length y.cl)∧w'.cell? ⟨b,o'+m*2+1,none⟩=some (.slice y.as_ y.smps.length y.cs)∧w'.cell? ⟨b,o'+(m+1)*2,none⟩=some (.slice x.al x.labs.length x.cl)∧w'.cell? ⟨b,o'+(m+1)*2+1,none⟩=some (.slice x.as_ x.smps.length x.cs))∧Nw wr w')
    (first | exact E0.out | exact E1.out | exact hS)
    (first
     | (go_at_call 116;refine (HB.out _ (by assumption)).mono ?_;rintro e w5 ⟨rfl,hS⟩))
   have HNz:=hid (HN.out.trans hS.2);clear hS;rcases hsin with rfl | rfl | rfl
   ·have HX3:=hid (show C=asE (l.drop (m+1+1 - 1)) from by rw [HX2.out];rfl);go_wp2_with fail;go_roundw
    case rel=>exact ⟨rfl,m+1+1,by omega,by go_num,.inl (by omega),HX3,HNz⟩
    case measure=>simp [intOf];omega
   ·have HX3:=hid (show C=19 from by rw [HX2.out];rfl);go_wp2_with fail
    try simp only [Exit.noGoto]
    go_ret;rw [HX3.out];exact ⟨rfl,HNz.out⟩
   ·have HX3:=hid (show C=16 from by rw [HX2.out];rfl);go_wp2_with fail
    try simp only [Exit.noGoto]
    go_ret;rw [HX3.out];exact ⟨rfl,HNz.out⟩
  ·have hX:=HX.out;rw [asE_end (by omega)] at hX;have HX2:=hid hX;have hltI:¬ (k:Int) < (l.length:Int):=by omega
   clear hX HX;go_wp2;go_ret;rw [HX2.out];exact ⟨rfl,HN.out⟩
end
section
open Go Go.RowKit Go.Sort
theorem Ow.lt_some {w:World} {g n c:Nat} {e:TypeId} {size:Nat} {A:Option Addr} {xs:List Value} (h:Ow w g e size A n c xs) (hA:A≠none):g < w.heap.size:=by
 rcases h with ⟨h,_⟩ | ⟨_,h,_⟩
 ·exact (hA h).elim
 ·exact h
set_option maxRecDepth 100000 in
set_option maxHeartbeats 1600000 in
theorem Strings_any (w:World) (b:Nat) (A:Option Addr) (n c:Nat) (l:List Lab) (hn:n=l.length) (hm:n≤1000000) (hr:Rd w b A (cL l)) :
  Calls Tryz.prog 112 #[.slice A n c] w fun e w'=>∃ b' A' c',e=.returned (.slice A' (2*n) c')∧Ow w' b' 9 1 A' (2*n) c' (cT (strsOf l))∧w.heap.size≤b'∧Nw w w':=by
 subst hn;have HR:=hid hr;have i0:∀ W,(Instr.index 281 (.agg partFs) (.int .i64 0)).run Tryz.prog W=.ok (.agg #[.func (.func 242) #[] #[]]) W:=fun _=>by kernel_rfl
 have i1:∀ W,(Instr.index 281 (.agg partFs) (.int .i64 1)).run Tryz.prog W=.ok (.agg #[.func (.func 243) #[] #[]]) W:=fun _=>by kernel_rfl
 clear hr;go_enter Tryz.func112,Tryz.ntmps112
 go_wp2;go_loopw [3,10] (fun s i wr=>∃ k:Nat,k≤l.length∧i=.int .i64 k∧∃ (bk:Nat) (Ak:Option Addr) (ck:Nat),s=.slice Ak (2*k) ck∧Hid (Ow wr bk 9 1 Ak (2*k) ck (cT (strsOf (l.take k))))∧w.heap.size≤bk∧Hid (Nw w wr)) (fun _ i _=>l.length - (intOf i).toNat)
 case atStart=>exact ⟨0,by omega,rfl,w.heap.size,none,0,rfl,hid (Ow.nil _ _ _ _),Nat.le_refl _,hid (Nw.refl _)⟩
 case round =>
  obtain ⟨k,hk,rfl,bk,Ak,ck,rfl,HO,hbk,HN⟩:=hrel;by_cases hlt:k < l.length
  ·have hltI:(k:Int) < (l.length:Int):=by omega
   obtain ⟨o,rfl,hbw,hc0,hc1⟩:=two_at (HR.out.nw HN.out) hlt;have HT:=hid (show strsOf (l.take (k+1))=strsOf (l.take k)++[l[k].1,l[k].2] from by unfold strsOf;rw [List.take_succ_eq_append_getElem hlt,List.flatMap_append];rfl);generalize l[k]=x at *;obtain ⟨a,d⟩:=x;dsimp only at hc0 hc1 HT;obtain ⟨bx,hbx⟩:∃ o,o=Obj.cells #[.string a,.string d] 96:=⟨_,rfl⟩;have hNb:Nw wr (wr.alloc bx):=(Nw.refl wr).alloc' _;have hbb:(wr.alloc bx).heap[wr.heap.size]? = some bx:=heap_alloc_new _ _;go_wp2_with (go_at_call 183;refine (lparts_any _).mono ?_;rintro e w1 ⟨rfl,hgr⟩)
   rw [← hbx] at hgr;obtain ⟨nb,hnb⟩:∃ nb,wr.heap.size=nb:=⟨_,rfl⟩;rw [hnb] at hbb ⊢;have hb1:=(hgr.nw.block nb (lt_of_block hbb)).trans hbb;have HN1:=hid (hNb.trans hgr.nw);have hNB:=hid hnb;have hb1l:=lt_of_block hb1;have HB1:=hid (hb1.trans (congrArg some hbx));clear hNb hbb hgr hnb hc0 hc1 hb1 hbx;refine wp_loop_rounds 3 ?_;rw [rounds_succ];obtain ⟨pb,hpb⟩:∃ o,o=Obj.cells #[.func (.func 242) #[] #[]] 280:=⟨_,rfl⟩;have hNp:Nw w1 (w1.alloc pb):=(Nw.refl w1).alloc' _;have hbp:=(hNp.block nb hb1l).trans HB1.out;rw [hpb] at hbp;have e0:=cell_at (k:=0) hbp;have e1:=cell_at (k:=1) hbp;go_wp2_with fail;refine (part1_any _ a d).mono ?_;rintro e w2 ⟨rfl,hgr2⟩;have hN2:=(HN1.out.trans (by rw [hpb] at hNp;exact hNp)).trans hgr2.nw;have hb2:=(hgr2.nw.block nb (lt_of_block hbp)).trans hbp;have hO2:=HO.out.nw hN2;have HO2:=hid hO2;have HN2:=hid hN2;have HB2:=hid hb2;have HLT:=hid fun h=>(show bk < nb from by have:=HO.out.lt_some h;have:=hNB.out;omega)
   clear hbp e0 e1 hNp hpb hgr2 hO2 hN2 hb2 HB1;go_wp2_with (at_builtin;refine wpList_app1 E_str rfl (.tmp 18) (.tmp 23) rfl rfl HO2.out rfl rfl (by omega) (by omega) ?_;intro b3 A3 c3 w3 q1 q2 q3 q4;have Q1:=hid q1;have Q2:=hid q2;have Q3:=hid q3;have Q4:=hid q4;clear q1 q2 q3 q4)
   have hb3:w3.heap[nb]? = some (Obj.cells #[.string a,.string d] 96):=by
    have hl:=lt_of_block HB2.out;by_cases hA:Ak=none
    ·exact ((Q4.out hA).1.block nb hl).trans HB2.out
    ·have:=HLT.out hA;exact (Q3.out.block nb hl (by omega) (by omega)).trans HB2.out
   have hN3:Nw w w3:=Kp.nw (HN.out.trans HN2.out) Q3.out hbk hbk;have hb3w:w.heap.size≤b3:=by
    rcases Q2.out with h | h
    ·omega
    ·have:=(HN.out.trans HN2.out).size;omega
   have HN3:=hid hN3;have HB3:=hid hb3;have hl3:=lt_of_block hb3;clear hb3 hN3 HB2 HO2 HLT Q2 Q3 Q4;rw [rounds_succ];obtain ⟨pb,hpb⟩:∃ o,o=Obj.cells #[.func (.func 243) #[] #[]] 280:=⟨_,rfl⟩;have hNp:Nw w3 (w3.alloc pb):=(Nw.refl w3).alloc' _;have hbp:=(hNp.block nb hl3).trans HB3.out;rw [hpb] at hbp;have e0:=cell_at (k:=0) hbp;have e1:=cell_at (k:=1) hbp;go_wp2_with fail;refine (part2_any _ a d).mono ?_;rintro e w4 ⟨rfl,hgr4⟩;have hN4:Nw w3 w4:=(show Nw w3 (w3.alloc (.cells #[.func (.func 243) #[] #[]] 280)) from by rw [hpb] at hNp;exact hNp).trans hgr4.nw;have HO4:=hid (Q1.out.nw hN4);have HN4:=hid (HN3.out.trans hN4);clear hbp e0 e1 hNp hpb hgr4 hN4 HB3 Q1 hl3;go_wp2_with (at_builtin;refine wpList_app1 E_str rfl (.tmp 18) (.tmp 23) rfl rfl HO4.out rfl rfl (by omega) (by omega) ?_;intro b5 A5 c5 w5 q1 q2 q3 q4;have Q1:=hid q1;have Q2:=hid q2;have Q3:=hid q3;clear q1 q2 q3 q4)
   rw [rounds_succ];go_wp2_with fail;go_roundw
   case rel =>
    refine ⟨k+1,by omega,by go_num,b5,A5,c5,rfl,hid ?_,?_,hid (Kp.nw HN4.out Q3.out hb3w hb3w)⟩
    ·have h:=Q1.out;rw [List.append_assoc] at h;rw [HT.out];unfold cT at h ⊢;rw [List.map_append,show 2*(k+1)=2*k+1+1 from rfl];exact h
    ·rcases Q2.out with h | h
     ·omega
     ·have:=HN4.out.size;omega
   case measure=>simp [intOf];omega
  ·obtain rfl:k=l.length:=by omega
   go_wp2;go_ret;have h:=HO.out;rw [List.take_length] at h;exact ⟨bk,Ak,ck,rfl,h,hbk,HN.out⟩
end
section
open Go Go.RowKit Go.Sort
def chkB:Option Ser→List Ser→Nat
 | _,[]=>0
 | none,x::l=>if serE x≠0 then serE x else chkB (some x) l
 | some p,x::l=>if serE x≠0 then serE x else if cmpLs p.labs x.labs=0 then 19 else if cmpLs p.labs x.labs=1 then 16 else chkB (some x) l
def blkE (l:List Ser):Nat:=chkB none l
def prevS (l:List Ser) (k:Nat):Option Ser:=if k=0 then none else l[k - 1]?
theorem chkB_err {p:Option Ser} {x:Ser} {l:List Ser} (h:serE x≠0):chkB p (x::l)=serE x:=by
 cases p with
 | none=>show (if serE x≠0 then serE x else _)=_;rw [if_pos h]
 | some p=>show (if serE x≠0 then serE x else _)=_;rw [if_pos h]
theorem chkB_fst {x:Ser} {l:List Ser} (h:serE x=0):chkB none (x::l)=chkB (some x) l:=by
 show (if serE x≠0 then serE x else _)=_
 rw [if_neg (by simp [h])]
theorem chkB_nxt {p x:Ser} {l:List Ser} (h:serE x=0):chkB (some p) (x::l)=if cmpLs p.labs x.labs=0 then 19 else if cmpLs p.labs x.labs=1 then 16 else chkB (some x) l:=by
 show (if serE x≠0 then serE x else _)=_
 rw [if_neg (by simp [h])]
theorem prevS_succ {l:List Ser} {k:Nat} (h:k < l.length):prevS l (k+1)=some l[k]:=by
 unfold prevS;rw [if_neg (by omega),Nat.add_sub_cancel,List.getElem?_eq_getElem h]
theorem rd_two {w:World} {b o:Nat} {y x:Ser} (hb:b < w.heap.size) (h0:w.cell? ⟨b,o,none⟩=some (.slice y.al y.labs.length y.cl)) (h1:w.cell? ⟨b,o+1,none⟩=some (.slice y.as_ y.smps.length y.cs))
  (h2:w.cell? ⟨b,o+2,none⟩=some (.slice x.al x.labs.length x.cl)) (h3:w.cell? ⟨b,o+3,none⟩=some (.slice x.as_ x.smps.length x.cs)):Rd w b (some ⟨b,o,none⟩) (cR [y,x]) :=
 .inr ⟨o,rfl,hb,fun j u hu=>by
  match j,hu with
  | 0,hu=>obtain rfl:_=u:=by simpa [cR,c2] using hu
          exact h0
  | 1,hu=>obtain rfl:_=u:=by simpa [cR,c2] using hu
          exact h1
  | 2,hu=>obtain rfl:_=u:=by simpa [cR,c2] using hu
          exact h2
  | 3,hu=>obtain rfl:_=u:=by simpa [cR,c2] using hu
          exact h3
  | j+4,hu=>simp [cR,c2] at hu⟩
theorem rd_one {w:World} {b o:Nat} {x:Ser} (hb:b < w.heap.size) (h0:w.cell? ⟨b,o,none⟩=some (.slice x.al x.labs.length x.cl)) (h1:w.cell? ⟨b,o+1,none⟩=some (.slice x.as_ x.smps.length x.cs)):Rd w b (some ⟨b,o,none⟩) (cR [x]) :=
 .inr ⟨o,rfl,hb,fun j u hu=>by
  match j,hu with
  | 0,hu=>obtain rfl:_=u:=by simpa [cR,c2] using hu
          exact h0
  | 1,hu=>obtain rfl:_=u:=by simpa [cR,c2] using hu
          exact h1
  | j+2,hu=>simp [cR,c2] at hu⟩
theorem le_sum {l:List Ser} {s:Ser} (h:s∈l):s.smps.length≤smpSum l:=by
 induction l with
 | nil=>cases h
 | cons x l ih =>
  show _≤((x::l).map _).sum
  rw [List.map_cons,List.sum_cons];rcases List.mem_cons.1 h with rfl | h
  ·omega
  ·have:=ih h;unfold smpSum at this;omega
set_option maxRecDepth 100000 in
set_option maxHeartbeats 1600000 in
theorem Check_any (w:World) (b:Nat) (A:Option Addr) (n c:Nat) (l:List Ser) (hI:InSer w b A n c l) (hs:smpSum l≤10000000) (hn:n≤100000) (hL:∀ s∈l,s.labs.length≤1000000) :
  Calls Tryz.prog 63 #[.slice A n c] w fun e w'=>e=.returned (.int .i64 (blkE l:Nat))∧Nw w w':=by
 have HK:=hid (mcheck_any w b A n c l hI hs hn);have hl:=hI.len;subst hl;have HR:=hid hI.rd;have hcap:=hI.cap;have hmax:=hI.max;have HOK:=hid fun s (h:s∈l)=>And.intro (hI.ok s h) (And.intro (hL s h) (show s.smps.length≤10000000 from by have:=le_sum h;omega))
 obtain ⟨C,hC⟩:∃ C,blkE l=C:=⟨_,rfl⟩;rw [hC];have HC:=hid hC;clear hI hC hs hL;go_enter Tryz.func63,Tryz.ntmps63
 go_wp2_with (go_at_call 113;refine HK.out.mono ?_;rintro e w1 ⟨rfl,hN1⟩)
 have HN1:=hid hN1;clear hN1;go_loopw [15] (fun i wr=>∃ k:Nat,k≤l.length∧i=.int .i64 k∧Hid (C=chkB (prevS l k) (l.drop k))∧Hid (Nw w wr)) (fun i _=>l.length - (intOf i).toNat)
 case atStart=>exact ⟨0,by omega,rfl,hid (by rw [← HC.out];rfl),HN1⟩
 case round =>
  obtain ⟨k,hk,rfl,HX,HN⟩:=hrel;by_cases hlt:k < l.length
  ·have hltI:(k:Int) < (l.length:Int):=by omega
   obtain ⟨o,rfl,hbw,hc0,hc1⟩:=two_at (HR.out.nw HN.out) hlt;have hX:=HX.out;rw [drop_cons hlt] at hX;have HPX:=hid (prevS_succ hlt);have HPV:=hid fun (h:k - 1 < l.length)=>two_at (HR.out.nw HN.out) h
   have HOx:=hid (HOK.out l[k] (List.getElem_mem hlt));generalize l[k]=x at *;have HS:=hid fun W (hN:Nw wr W)=>singleSer_any W x ((HOx.out.1.nw HN.out).nw hN) HOx.out.2.1 HOx.out.2.2
   obtain ⟨E,hE⟩:∃ E,serE x=E:=⟨_,rfl⟩;rw [hE] at HS;have HE:=hid hE;have hNA:Nw wr (wr.alloc (.cells #[.slice x.al x.labs.length x.cl,.slice x.as_ x.smps.length x.cs] 86)):=(Nw.refl wr).alloc' _;clear hE;by_cases hE0:E=0
   ·have hE1:((E:Int) != 0)=false:=by rw [bne_eq_false_iff_eq];omega
    have HE0:=hid (HE.out.trans hE0);by_cases hk0:k=0
    ·subst hk0;rw [show prevS l 0=none from rfl,chkB_fst HE0.out] at hX;have HX2:=hid hX;simp only [Nat.zero_mul,Nat.add_zero] at hc0 hc1;have HOz:=hid fun W (hN:Nw wr W)=>(show ∀ s∈[x],SerOk W s∧s.labs.length≤1000000 from by
      intro s hs;obtain rfl:s=x:=List.mem_singleton.1 hs;exact ⟨(HOx.out.1.nw HN.out).nw hN,HOx.out.2.1⟩)
     have HA:=hid fun W (hN:Nw wr W)=>ascR_any W b (some ⟨b,o,none⟩) 1 c [x] rfl (by omega) (rd_one (Nat.lt_of_lt_of_le hbw hN.size) (cell_old hN hbw hc0) (cell_old hN hbw hc1)) (HOz.out W hN)
     rw [show asE [x]=0 from rfl] at HA;have i1:¬ (c=0):=by omega
     have i2:(1:Int)≤(c:Int):=by omega
     clear hX HX;go_wp2_with (first
      | (go_at_call 115;refine (HA.out _ (hNA.trans hN3)).mono ?_;rintro e w4 ⟨rfl,hN4⟩)
      | (go_at_call 114;refine (HS.out _ hNA).mono ?_;rintro e w3 ⟨rfl,hN3⟩))
     go_roundw
     case rel=>exact ⟨1,by omega,by go_num,by rw [HPX.out];exact HX2,hid (HN.out.trans ((hNA.trans hN3).trans hN4))⟩
     case measure=>simp [intOf];omega
    ·obtain ⟨m,rfl⟩:∃ m,k=m+1:=⟨k - 1,by omega⟩;obtain ⟨o',e',_,hp0,hp1⟩:=HPV.out (by omega);obtain rfl:o'=o:=by injection e' with e';injection e' with _ e' _;exact e'.symm
     have HOy:=hid (HOK.out l[m+1 - 1] (List.getElem_mem (by omega)));have HPP:=hid (prevS_succ (show m < l.length by omega));simp only [Nat.add_sub_cancel] at hp0 hp1 HOy;generalize l[m]=y at *;rw [HPP.out,chkB_nxt HE0.out] at hX;rw [show o'+(m+1)*2=o'+m*2+2 by omega] at hc0 hc1;have hF:C=if asE [y,x]≠0 then asE [y,x] else chkB (some x) (l.drop (m+1+1)):=by
      rw [hX,show asE [y,x]=if cmpLs y.labs x.labs=0 then 19 else if cmpLs y.labs x.labs=1 then 16 else 0 from rfl];rcases cmpLs_in y.labs x.labs with h | h | h<;>rw [h]<;>rfl
     have HOz:=hid fun W (hN:Nw wr W)=>(show ∀ s∈[y,x],SerOk W s∧s.labs.length≤1000000 from by
      intro s hs;rcases List.mem_cons.1 hs with rfl | hs
      ·exact ⟨(HOy.out.1.nw HN.out).nw hN,HOy.out.2.1⟩
      ·obtain rfl:s=x:=List.mem_singleton.1 hs;exact ⟨(HOx.out.1.nw HN.out).nw hN,HOx.out.2.1⟩)
     have HA:=hid fun W (hN:Nw wr W)=>ascR_any W b (some ⟨b,o'+m*2,none⟩) 2 (c - m) [y,x] rfl (by omega) (rd_two (Nat.lt_of_lt_of_le hbw hN.size) (cell_old hN hbw hp0) (cell_old hN hbw hp1) (cell_old hN hbw hc0) (cell_old hN hbw hc1)) (HOz.out W hN)
     obtain ⟨F,hFF⟩:∃ F,asE [y,x]=F:=⟨_,rfl⟩;rw [hFF] at hF HA;have i1:¬ (c=m):=by omega
     have i2:(m:Int)+1+1≤(c:Int):=by omega
     have i3:IntKind.i64.wrap (m:Int)=(m:Int):=IntWalk.i64_in _ (by omega);have i4:¬ ((m:Int) < 0):=by omega
     have i5:IntKind.i64.wrap ((m:Int)+1+1)=(m:Int)+1+1:=IntWalk.i64_in _ (by omega);have i6:((m:Int)+1+1).toNat=m+2:=by omega
     rw [show ((m+1:Nat):Int)=(m:Int)+1 from by push_cast;rfl] at hltI ⊢;have i7:(0:Int)≤(m:Int)+1:=by omega
     have i8:((m:Int)+1).toNat=m+1:=by omega
     have i9:(m:Int)≤(m:Int)+1+1:=by omega
     have i10:(0:Int)≤(m:Int)+1+1:=by omega
     rw [show o'+m*2+2=o'+(m+1)*2 by omega] at hc0 hc1;clear hX HX hFF;by_cases hF0:F=0
     ·have hF1:((F:Int) != 0)=false:=by rw [bne_eq_false_iff_eq];omega
      rw [if_neg (by simp [hF0])] at hF;have HX2:=hid hF;clear hF;go_wp2_with (first
       | (go_at_call 115;refine (HA.out _ (hNA.trans hN3)).mono ?_;rintro e w4 ⟨rfl,hN4⟩)
       | (go_at_call 114;refine (HS.out _ hNA).mono ?_;rintro e w3 ⟨rfl,hN3⟩))
      go_roundw
      case rel=>exact ⟨m+1+1,by omega,by go_num,by rw [HPX.out];exact HX2,hid (HN.out.trans ((hNA.trans hN3).trans hN4))⟩
      case measure=>simp [intOf];omega
     ·have hF1:((F:Int) != 0)=true:=by rw [bne_iff_ne];omega
      rw [if_pos hF0] at hF;have HX2:=hid hF;clear hF;go_wp2_with (first
       | (go_at_call 115;refine (HA.out _ (hNA.trans hN3)).mono ?_;rintro e w4 ⟨rfl,hN4⟩)
       | (go_at_call 114;refine (HS.out _ hNA).mono ?_;rintro e w3 ⟨rfl,hN3⟩))
      go_ret;rw [HX2.out];exact ⟨rfl,HN.out.trans ((hNA.trans hN3).trans hN4)⟩
   ·have hE1:((E:Int) != 0)=true:=by rw [bne_iff_ne];omega
    have HX2:=hid (show C=E from by rw [hX,chkB_err (by rw [HE.out];exact hE0),HE.out]);clear hX HX;go_wp2_with (go_at_call 114;refine (HS.out _ hNA).mono ?_;rintro e w3 ⟨rfl,hN3⟩)
    go_ret;rw [HX2.out];exact ⟨rfl,HN.out.trans (hNA.trans hN3)⟩
  ·obtain rfl:k=l.length:=by omega
   have hX:=HX.out;rw [List.drop_length] at hX;have HX2:=hid (show C=0 from by rw [hX];cases prevS l l.length<;>rfl);go_wp2;go_ret;rw [HX2.out];exact ⟨rfl,HN.out⟩
end
section
open Go Go.RowKit Go.Sort
theorem run_part {P:Program} {t:TypeId} {cs:Array Value} {k:Nat} {v:Value} (w:World) (h:∀ w,(isAgg t).run P w=.ok false w) (hc:cs[k]? = some v):(part t cs k).run P w=.ok v w:=by
 unfold part;simp [h,hc]
theorem aggS (w:World):(isAgg 9).run Tryz.prog w=.ok false w:=by kernel_rfl
theorem two_list {α β:Type} {f:α→β} {l:List α} {x y:β} (h:l.map f=[x,y]):∃ p q,l=[p,q]∧f p=x∧f q=y:=by
 match l,h with
 | [p,q],h=>simp only [List.map_cons,List.map_nil,List.cons.injEq,and_true] at h;exact ⟨p,q,rfl,h.1,h.2⟩
 | [],h=>simp at h
 | [_],h=>simp at h
 | _::_::_::_,h=>simp at h
end
section
open Go Go.RowKit Go.Sort
def Says (e:Ending) (p:Prop):Prop:=∃ r:Bool,e=.returned (.bool r)∧(r=true↔p)
theorem Says.yes {p:Prop} (h:p):Says (.returned (.bool true)) p:=⟨true,rfl,by simp [h]⟩
theorem Says.no {p:Prop} (h:¬ p):Says (.returned (.bool false)) p:=⟨false,rfl,by simp [h]⟩
end
section
open Go Go.RowKit Go.Sort
theorem Says.tt {e:Ending} {p:Prop} (h:Says e p) (hp:p):e=.returned (.bool true):=by
 obtain ⟨r,rfl,hr⟩:=h;rw [hr.2 hp]
theorem Says.ff {e:Ending} {p:Prop} (h:Says e p) (hp:¬ p):e=.returned (.bool false):=by
 obtain ⟨r,rfl,hr⟩:=h;cases r with
 | false=>rfl
 | true=>exact (hp (hr.1 rfl)).elim
end
section
open Go Go.RowKit Go.Sort
theorem Ow.of_heap {w:World} {g:Nat} {e:TypeId} {size n:Nat} {cs:Array Value} (h:w.heap[g]? = some (.cells cs e (0,0))) (hs:cs.size=n*size) (hn:n≤9223372036854775807):Ow w g e size (some ⟨g,0,none⟩) n n cs.toList :=
 .inr ⟨rfl,lt_of_block h,by simpa using hs,.inr ⟨g,n,cs,rfl,Nat.zero_le _,h,by omega,by simpa [maxLen] using hn,hs,by rw [← hs,← Array.length_toList,List.take_length]⟩⟩
theorem Ow.heap {w:World} {g:Nat} {e:TypeId} {size n c:Nat} {a:Addr} {xs:List Value} (h:Ow w g e size (some a) n c xs):∃ cs:Array Value,w.heap[g]? = some (.cells cs e (0,0))∧cs.size=c*size∧cs.toList.take (n*size)=xs∧a=⟨g,0,none⟩:=by
 rcases h with ⟨h,_⟩ | ⟨h1,_,h2⟩
 ·cases h
 ·obtain ⟨_,h3⟩:=h2;rcases h3 with ⟨hv,_⟩ | ⟨g0,cap,cur,hv,_,hh,q1,q2,q3,q4⟩
  ·cases hv
  ·injection hv with e1 e2 e3
   injection e1 with e1
   injection h1 with h1
   subst h1;injection e1 with e1 _
   subst e1 e3;exact ⟨cur,hh,by simpa using q3,by first | exact q4.symm | exact q4 | (have:=q4;simp at this;exact this.symm),rfl⟩
theorem E_ser:ElemT Tryz.prog 31 86 (.agg #[.slice none 0 0,.slice none 0 0]) 2 48:=ElemT.mk' Tryz.underlying31 (by kernel_rfl) rfl (by omega)
end
section
open Go Go.RowKit Go.Sort Go.Shelf Go.Lib
def LtB (a b:ByteArray):Prop:=Op.bytesLess a.toList b.toList=true
end
section
open Go Go.RowKit
def uw (x:Int):Nat:=(x % 18446744073709551616).toNat
def tform (x:Int):Nat:=if x=0 then 0 else if -64≤x∧x≤63 then 1 else if -2048≤x∧x≤2047 then 2 else if -2147483648≤x∧x≤2147483647 then 3 else 4
def tpre:Nat→Nat
 | 0=>0 | 1=>2 | 2=>6 | 3=>14 | _=>15
def tlen:Nat→Nat
 | 0=>1 | 1=>2 | 2=>3 | 3=>4 | _=>4
def twid:Nat→Nat
 | 0=>0 | 1=>7 | 2=>12 | 3=>32 | _=>64
def tbits (x:Int):List Bool:=bitsOf (tpre (tform x)) (tlen (tform x))++bitsOf (uw x) (twid (tform x))
def chgF (t d:Int):List Int→List Int
 | []=>[]
 | t'::r=>wrap64 (wrap64 (t' - t) - d)::chgF t' (wrap64 (t' - t)) r
def tput:List Int→List Bool
 | []=>[]
 | t::r=>bitsOf (uw t) 64++(chgF t 0 r).flatMap tbits
def sext (u w:Nat):Int:=if w=0 then 0 else if 2 ^ (w - 1)≤u then (u:Int) - 2 ^ w else u
def gform:Nat→Nat→List Bool→Option (Nat × List Bool)
 | 0,k,bs=>some (k,bs)
 | _+1,_,[]=>none
 | _+1,k,false::r=>some (k,r)
 | f+1,k,true::r=>gform f (k+1) r
def gchg (bs:List Bool):Except Nat (Int × List Bool) :=
 match gform 4 0 bs with
 | none=>.error 3
 | some (k,r) =>
  if r.length < twid k then .error 3
  else if tform (sext (bv (r.take (twid k))) (twid k))=k then .ok (sext (bv (r.take (twid k))) (twid k),r.drop (twid k)) else .error 8
def tgetF (t d:Int):Nat→List Bool→Except Nat (List Int × List Bool)
 | 0,bs=>.ok ([],bs)
 | n+1,bs =>
  match gchg bs with
  | .error e=>.error e
  | .ok (x,r) =>
   match tgetF (wrap64 (t+wrap64 (d+x))) (wrap64 (d+x)) n r with
   | .error e=>.error e
   | .ok (l,r')=>.ok (wrap64 (t+wrap64 (d+x))::l,r')
def tget:Nat→List Bool→Except Nat (List Int × List Bool)
 | 0,bs=>.ok ([],bs)
 | n+1,bs =>
  if bs.length < 64 then .error 3
  else match tgetF (wrap64 (bv (bs.take 64))) 0 n (bs.drop 64) with
   | .error e=>.error e
   | .ok (l,r)=>.ok (wrap64 (bv (bs.take 64))::l,r)
theorem I6.w (x:Int):I6 (wrap64 x):=by unfold I6 wrap64;omega
theorem uw_lt (x:Int):uw x < 18446744073709551616:=by unfold uw;omega
theorem uw_nat {u:Nat} (h:u < 18446744073709551616):uw (wrap64 u)=u:=by unfold uw wrap64;omega
theorem tform_le (x:Int):tform x≤4:=by unfold tform;split<;>(try omega)<;>split<;>(try omega)<;>split<;>(try omega)<;>split<;>omega
theorem sext_uw {x:Int} (h:I6 x):sext (uw x % 2 ^ twid (tform x)) (twid (tform x))=x:=by
 unfold I6 at h;unfold tform;split
 ·rename_i h0;subst h0;rfl
 ·split
  ·rename_i h0 h1
   simp only [twid,sext,uw];split<;>omega
  ·split
   ·rename_i h0 h1 h2
    simp only [twid,sext,uw];split<;>omega
   ·split
    ·rename_i h0 h1 h2 h3
     simp only [twid,sext,uw];split<;>omega
    ·rename_i h0 h1 h2 h3
     simp only [twid,sext,uw];split<;>omega
theorem uw_sext {u k:Nat} (hk:k≤4) (h:u < 2 ^ twid k):uw (sext u (twid k)) % 2 ^ twid k=u:=by
 have:k=0∨k=1∨k=2∨k=3∨k=4:=by omega
 rcases this with rfl | rfl | rfl | rfl | rfl<;>simp only [twid,sext,uw] at h ⊢
 ·omega
 all_goals
  rw [if_neg (by omega)];split<;>omega
theorem sext_in {u k:Nat} (hk:k≤4) (h:u < 2 ^ twid k):I6 (sext u (twid k)):=by
 unfold I6;have:k=0∨k=1∨k=2∨k=3∨k=4:=by omega
 rcases this with rfl | rfl | rfl | rfl | rfl<;>simp only [twid,sext] at h ⊢
 ·omega
 all_goals
  rw [if_neg (by omega)];split<;>omega
theorem gform_inv {bs r:List Bool} {k:Nat} (h:gform 4 0 bs=some (k,r)):k≤4∧bs=bitsOf (tpre k) (tlen k)++r:=by
 match bs,h with
 | [],h=>cases h
 | false::r',h=>cases h;exact ⟨by omega,rfl⟩
 | [true],h=>cases h
 | true::false::r',h=>cases h;exact ⟨by omega,rfl⟩
 | [true,true],h=>cases h
 | true::true::false::r',h=>cases h;exact ⟨by omega,rfl⟩
 | [true,true,true],h=>cases h
 | true::true::true::false::r',h=>cases h;exact ⟨by omega,rfl⟩
 | true::true::true::true::r',h=>cases h;exact ⟨by omega,rfl⟩
theorem gchg_inv {bs r:List Bool} {x:Int} (h:gchg bs=.ok (x,r)):I6 x∧bs=tbits x++r:=by
 unfold gchg at h;split at h
 ·cases h
 ·rename_i k r1 hk
  obtain ⟨hk4,rfl⟩:=gform_inv hk;split at h
  ·cases h
  ·rename_i hl
   split at h
   ·rename_i hf
    cases h;have hlt:(r1.take (twid k)).length=twid k:=by rw [List.length_take];omega
    have hb:=bv_lt (r1.take (twid k));rw [hlt] at hb;refine ⟨sext_in hk4 hb,?_⟩;unfold tbits;rw [hf,← bitsOf_mod (uw _),uw_sext hk4 hb,List.append_assoc];congr 1
    have:=bitsOf_bv (r1.take (twid k));rw [hlt] at this;rw [this,List.take_append_drop]
   ·cases h
theorem wrap_sub_add {d x:Int} (hx:I6 x):wrap64 (wrap64 (d+x) - d)=x:=by
 unfold I6 at hx;unfold wrap64;omega
theorem tgetF_inv:∀ (n:Nat) (t d:Int) (bs r:List Bool) (l:List Int),I6 t→I6 d→tgetF t d n bs=.ok (l,r)→l.length=n∧(∀ x∈l,I6 x)∧bs=(chgF t d l).flatMap tbits++r:=by
 intro n;induction n with
 | zero=>intro t d bs r l _ _ h;cases h;exact ⟨rfl,by simp,rfl⟩
 | succ n ih =>
  intro t d bs r l ht hd h;unfold tgetF at h;split at h
  ·cases h
  ·rename_i x r1 hx
   obtain ⟨hx6,rfl⟩:=gchg_inv hx;split at h
   ·cases h
   ·rename_i l1 r2 h2
    cases h;obtain ⟨h3,h4,h5⟩:=ih _ _ _ _ _ (I6.w _) (I6.w _) h2;refine ⟨by simp [h3],?_,?_⟩
    ·intro y hy;rcases List.mem_cons.1 hy with rfl | hy
     ·exact I6.w _
     ·exact h4 y hy
    ·simp only [chgF,List.flatMap_cons,wrap_sub_add (I6.w _),wrap_sub_add hx6];rw [h5,List.append_assoc]
theorem tget_inv {n:Nat} {bs r:List Bool} {l:List Int} (h:tget n bs=.ok (l,r)):l.length=n∧(∀ x∈l,I6 x)∧bs=tput l++r:=by
 cases n with
 | zero=>cases h;exact ⟨rfl,by simp,rfl⟩
 | succ n =>
  simp only [tget] at h;split at h
  ·cases h
  ·rename_i hl
   split at h
   ·cases h
   ·rename_i l1 r1 h1
    cases h;obtain ⟨h3,h4,h5⟩:=tgetF_inv _ _ _ _ _ _ (I6.w _) (by unfold I6;omega) h1;refine ⟨by simp [h3],?_,?_⟩
    ·intro y hy;rcases List.mem_cons.1 hy with rfl | hy
     ·exact I6.w _
     ·exact h4 y hy
    ·have hlt:(bs.take 64).length=64:=by rw [List.length_take];omega
     have hb:=bv_lt (bs.take 64);rw [hlt] at hb;have e:=bitsOf_bv (bs.take 64);rw [hlt] at e;simp only [tput];rw [uw_nat (by simpa using hb),e,List.append_assoc,← h5,List.take_append_drop]
end
section
open Go Go.RowKit
theorem ret_int {k:IntKind} {a b:Int} (h:a=b):Ending.returned (.int k a)=.returned (.int k b):=by rw [h]
theorem ret_bool {a b:Bool} (h:a=b):Ending.returned (.bool a)=.returned (.bool b):=by rw [h]
theorem isNaN_any (w:World) (x:Nat):Calls Tryz.prog 322 #[.int .u64 (x:Int)] w fun e w'=>e=.returned (.bool false)∧w=w':=by
 go_enter Tryz.func322,Tryz.ntmps322
 go_wp2;go_ret;exact ⟨rfl,rfl⟩
theorem Less_any (w:World) (x y:Nat):Calls Tryz.prog 309 #[.int .u64 (x:Int),.int .u64 (y:Int)] w fun e w'=>e=.returned (.bool (decide (x < y)))∧w=w':=by
 go_enter Tryz.func309,Tryz.ntmps309
 go_wp2_with (go_at_call 322;refine (isNaN_any _ _).mono ?_;rintro e w' ⟨rfl,rfl⟩)
 go_ret;exact ⟨ret_bool (by simp),rfl⟩
end
section
open Go Go.RowKit
theorem E_u64:ElemT Tryz.prog 224 97 (.int .u64 0) 1 8:=ElemT.mk' Tryz.underlying224 (by kernel_rfl) (by kernel_rfl) (by omega)
theorem oc_N (k:IntKind) (xs:List Nat):∀ u∈cN k xs,u.oneCell'=true:=by
 intro u hu;obtain ⟨x,_,rfl⟩:=List.mem_map.1 hu;rfl
theorem CloneB_any (w:World) (b:Nat) (A:Option Addr) (n c:Nat) (xs:List Nat) (hn:n=xs.length) (hm:n≤140737488355328) (hr:Rd w b A (cN .u8 xs)) (hA:A=none→c=0) :
  Calls Tryz.prog 174 #[.slice A n c] w fun e w'=>∃ b' A' c',e=.returned (.slice A' n c')∧Ow w' b' 5 1 A' n c' (cN .u8 xs)∧w.heap.size≤b'∧Nw w w':=by
 subst hn;cases A with
 | none =>
  obtain rfl:xs=[]:=by
   rcases hr with h | ⟨o,h,_⟩
   ·simpa using h
   ·cases h
  obtain rfl:=hA rfl;have hnil:=fun W=>Lib.run_eql_slice_nil (P:=Tryz.prog) W 22 5 none 0 0 0 0 Tryz.underlying22
  go_enter Tryz.func174,Tryz.ntmps174
  go_wp2;go_ret;exact ⟨w.heap.size,none,0,rfl,Ow.nil _ _ _ _,Nat.le_refl _,Nw.refl w⟩
 | some ad =>
  have hnil:=fun W=>Lib.run_eql_slice_nil (P:=Tryz.prog) W 22 5 (some ad) xs.length c 0 0 Tryz.underlying22
  go_enter Tryz.func174,Tryz.ntmps174
  go_wp2_with (at_builtin;refine wpList_app E_u8 rfl (.tmp 5) (.tmp 6) rfl rfl (Ow.empty w _ _) rfl (hr.nw (Nw.alloc' (Nw.refl w) _)) (by simp) (by intro h;cases h) (oc_N _ _) (by simp only [maxLen];omega) (by omega) ?_;intro b' A' c' w' h1 h2 h3 _)
  go_ret;refine ⟨b',A',c',by simp,by simpa using h1,?_,Kp.nw (Nw.alloc' (Nw.refl w) _) h3 (by simp) (by simp)⟩;have:=(Nw.alloc' (Nw.refl w) (.cells #[] 5)).size;rcases h2 with h2 | h2<;>omega
end
section
open Go Go.RowKit
section
variable {α:Type} (xs ys:List α) (k:Nat)
theorem take_eq_next (hx:k < xs.length) (hy:k < ys.length) (h:xs[k]=ys[k]) (he:xs.take k=ys.take k):xs.take (k+1)=ys.take (k+1):=by
 rw [List.take_succ_eq_append_getElem hx,List.take_succ_eq_append_getElem hy,he,h]
theorem take_eq_all (hl:xs.length=ys.length) (hk:¬ k < xs.length) (he:xs.take k=ys.take k):xs=ys:=by
 rw [← List.take_of_length_le (l:=xs) (i:=k) (by omega),he,List.take_of_length_le (by omega)]
theorem ne_of_at (hx:k < xs.length) (hy:k < ys.length) (h:¬ xs[k]=ys[k]):¬ xs=ys:=by
 rintro rfl;exact h rfl
end
theorem bytesIn_of {w:World} {b:Nat} {A:Option Addr} {xs:List Nat} (h:Rd w b A (cN .u8 xs)):Lib.BytesIn w A xs.length (xs.map fun x:Nat=>(x:Int)):=by
 intro h0;obtain ⟨o,rfl,hlt,_⟩:=h.get (k:=0) (by simpa using h0);refine ⟨b,o,rfl,fun i hi=>?_⟩;obtain ⟨o',had,_,hc⟩:=h.get (k:=i) (by simpa using hi);obtain rfl:o=o':=by simpa using had
 rw [hc,List.getElem_map];simp [List.getD,hi]
theorem bytesOf_inj (xs:List Nat):∀ (ys:List Nat),(∀ x∈xs,x < 256)→(∀ y∈ys,y < 256) →
  (Lib.bytesOf (xs.map fun x:Nat=>(x:Int)) == Lib.bytesOf (ys.map fun x:Nat=>(x:Int)))=decide (xs=ys):=by
 induction xs with
 | nil=>intro ys _ _;cases ys<;>simp [Lib.bytesOf]
 | cons a l ih =>
  intro ys hx hy;cases ys with
  | nil=>simp [Lib.bytesOf]
  | cons a' l' =>
   have h1:a < 256:=hx a (by simp);have h2:a' < 256:=hy a' (by simp);have:=ih l' (fun x h=>hx x (by simp [h])) (fun x h=>hy x (by simp [h]));have e:(UInt8.ofNat a == UInt8.ofNat a')=decide (a=a'):=by
    rw [Bool.eq_iff_iff];simp only [beq_iff_eq,decide_eq_true_eq];constructor
    ·intro h;have:=congrArg UInt8.toNat h;simp [UInt8.toNat_ofNat'] at this;omega
    ·rintro rfl;rfl
   simp only [Lib.bytesOf,List.map_cons,List.map_map,Int.toNat_natCast,List.cons_beq_cons,e] at this ⊢;rw [this];simp
theorem bytesEqual_any (w:World) (b b':Nat) (A A':Option Addr) (n c n' c':Nat) (xs ys:List Nat) (hn:n=xs.length) (hn':n'=ys.length)
  (hr:Rd w b A (cN .u8 xs)) (hr':Rd w b' A' (cN .u8 ys)) (hx:∀ x∈xs,x < 256) (hy:∀ y∈ys,y < 256) :
  Calls Tryz.prog 40 #[.slice A n c,.slice A' n' c'] w fun e w'=>e=.returned (.bool (decide (xs=ys)))∧w=w':=by
 refine (Tryz.bytes_Equal_all A A' n c n' c' (xs.map fun x:Nat=>(x:Int)) (ys.map fun x:Nat=>(x:Int)) w (by simp [hn]) (by simp [hn']) (by rw [hn];exact bytesIn_of hr) (by rw [hn'];exact bytesIn_of hr')).mono ?_;rintro e w' ⟨rfl,rfl⟩;exact ⟨ret_bool (bytesOf_inj xs ys hx hy),rfl⟩
end
section
open Go Go.RowKit
structure Rdr (w:World) (g b:Nat) (bytes:List Nat) (pos:Nat):Prop where
 blk:∃ A c,w.heap[g]? = some (.cells #[.slice A bytes.length c,.int .i64 (pos:Int)] 294 (0,0))∧Rd w b A (cN .u8 bytes)
 ne:bytes=[]∨b≠g
 byte:∀ x∈bytes,x < 256
 small:bytes.length≤140737488355328
 within:pos≤8*bytes.length
section
variable {w w':World} {g b:Nat} {bytes:List Nat} {pos:Nat}
theorem Rdr.lt (h:Rdr w g b bytes pos):g < w.heap.size:=by
 obtain ⟨A,c,hb,_⟩:=h.blk;exact lt_of_block hb
theorem Rdr.nw (h:Rdr w g b bytes pos) (hk:Nw w w'):Rdr w' g b bytes pos:=by
 have hlt:=h.lt;obtain ⟨⟨A,c,hb,hr⟩,h2,h3,h4,h5⟩:=h;exact ⟨⟨A,c,(hk.block g hlt).trans hb,hr.nw hk⟩,h2,h3,h4,h5⟩
theorem Rdr.kp {g1 g2:Nat} (h:Rdr w g b bytes pos) (hk:Kp g1 g2 w w') (e1:g≠g1) (e2:g≠g2) (e3:b≠g1) (e4:b≠g2):Rdr w' g b bytes pos:=by
 have hlt:=h.lt;obtain ⟨⟨A,c,hb,hr⟩,h2,h3,h4,h5⟩:=h;exact ⟨⟨A,c,(hk.block g hlt e1 e2).trans hb,hr.kp hk e3 e4⟩,h2,h3,h4,h5⟩
theorem Rdr.step (h:Rdr w g b bytes pos) (p:Nat) (hp:p≤8*bytes.length):Rdr (w.setCell ⟨g,1,none⟩ (.int .i64 (p:Int))) g b bytes p:=by
 have hlt:=h.lt;obtain ⟨⟨A,c,hb,hr⟩,h2,h3,h4,h5⟩:=h;refine ⟨⟨A,c,?_,?_⟩,h2,h3,h4,hp⟩
 ·simp [World.setCell,Array.getElem?_modify,hb]
 ·rcases h2 with rfl | h2
  ·exact Rd.nil _ _ _
  ·exact hr.kp ((Kp.refl g g w).setCell' (p:=⟨g,1,none⟩) (.inl rfl) _) h2 h2
end
theorem bit_value (x s:Nat) (hx:x < 256):bits .and .u64 (IntKind.u64.wrap ((x:Int) / 2 ^ s)) 1=((x / 2 ^ s % 2:Nat):Int):=by
 have h1:((x:Int) / 2 ^ s)=((x / 2 ^ s:Nat):Int):=by simp
 have h2:x / 2 ^ s≤x:=Nat.div_le_self _ _;rw [h1];generalize x / 2 ^ s=y at *;rw [IntWalk.u64_in _ (by omega),and_one_u64 _ (by omega) (by omega)];omega
theorem ret_u64 {a b:Int} (h:a=b):Ending.returned (.int .u64 a)=.returned (.int .u64 b):=by rw [h]
theorem up_bit (bytes:List Nat) (i:Nat) (h:i < 8*bytes.length):b2n ((up bytes)[i]'(by rw [up_length];exact h))=bytes[i / 8]'(by omega) / 2 ^ (7 - i % 8) % 2:=by
 rw [up_get];generalize bytes[i / 8] / 2 ^ (7 - i % 8)=y;have:y % 2=0∨y % 2=1:=by omega
 rcases this with h | h<;>simp [b2n,h]
theorem bit_any (w:World) (g b:Nat) (bytes:List Nat) (pos at_:Nat) (h:Rdr w g b bytes pos) (hat:at_ < 8*bytes.length) :
  Calls Tryz.prog 209 #[.pointer (some ⟨g,0,none⟩),.int .i64 (at_:Int)] w fun e w'=>e=.returned (.int .u64 (b2n ((up bytes)[at_]'(by rw [up_length];exact hat)):Nat))∧w=w':=by
 obtain ⟨⟨A,c,hb,hr⟩,hne,hby,hsm,hwi⟩:=h;have hk:at_ / 8 < bytes.length:=by omega
 obtain ⟨o,rfl,hlt,hc⟩:=hr.get (k:=at_ / 8) (by simpa using hk);rw [List.getElem_map] at hc;have hc0:w.cell? ⟨g,0,none⟩=some (.slice (some ⟨b,o,none⟩) bytes.length c):=by simp [World.cell?,hb]
 have hx:bytes[at_ / 8] < 256:=hby _ (List.getElem_mem _);have i0:(0:Int)≤(at_:Int) / 8:=by omega
 have i1:(at_:Int) / 8 < (bytes.length:Int):=by omega
 have i2:((at_:Int) / 8).toNat=at_ / 8:=by omega
 clear hr hb hby hne;go_enter Tryz.func209,Tryz.ntmps209
 go_wp2;go_ret;exact ⟨ret_u64 (by rw [bit_value _ _ hx,up_bit _ _ hat]),rfl⟩
def rest (bytes:List Nat) (pos:Nat):List Bool:=(up bytes).drop pos
theorem rest_length (bytes:List Nat) (pos:Nat):(rest bytes pos).length=8*bytes.length - pos:=by simp [rest,up_length]
theorem rest_drop (bytes:List Nat) (pos n:Nat):(rest bytes pos).drop n=rest bytes (pos+n):=by simp [rest]
theorem rest_take_next (bytes:List Nat) (pos k:Nat) (h:pos+k < 8*bytes.length):(rest bytes pos).take (k+1)=(rest bytes pos).take k++[(up bytes)[pos+k]'(by rw [up_length];exact h)]:=by
 have hk:k < (rest bytes pos).length:=by rw [rest_length];omega
 rw [List.take_succ_eq_append_getElem hk];simp [rest]
theorem RLeft_any (w:World) (g b:Nat) (bytes:List Nat) (pos:Nat) (h:Rdr w g b bytes pos) :
  Calls Tryz.prog 208 #[.pointer (some ⟨g,0,none⟩)] w fun e w'=>e=.returned (.int .i64 ((8*bytes.length - pos:Nat):Int))∧Dr w w':=by
 obtain ⟨⟨A,c,hb,hr⟩,hne,hby,hsm,hwi⟩:=h;have hc0:w.cell? ⟨g,0,none⟩=some (.slice A bytes.length c):=by simp [World.cell?,hb]
 have hc1:w.cell? ⟨g,1,none⟩=some (.int .i64 (pos:Int)):=by simp [World.cell?,hb]
 have hnil:∀ W,(binOp .eql 219 (.pointer (some ⟨g,0,none⟩)) (.pointer none)).run Tryz.prog W=.ok (.bool false) W:=fun _=>by kernel_rfl
 clear hr hb hby hne;go_enter Tryz.func208,Tryz.ntmps208
 go_wp2;go_quiet (fail)
 go_wp2;go_ret;exact ⟨ret_int (by omega),Dr.mk _ _⟩
theorem bits_step (x d k:Nat) (hx:x < 2 ^ k) (hk:k < 64) (hd:d≤1):bits .or .u64 (IntKind.u64.wrap ((x:Int)*2)) (d:Int)=((2*x+d:Nat):Int):=by
 have h2:2 ^ k≤2 ^ 63:=Nat.pow_le_pow_right (by omega) (by omega);have h3:(2:Nat) ^ 63=9223372036854775808:=by decide
 rw [IntWalk.u64_in _ (by omega),show (x:Int)*2=((2*x:Nat):Int) from by omega,u64_or_nat _ _ (by omega) (by omega),nat_join 1 _ _ (by omega) (by omega)]
theorem RBits_ok (w:World) (g b:Nat) (bytes:List Nat) (pos n:Nat) (h:Rdr w g b bytes pos) (hn:n≤64) (hfit:pos+n≤8*bytes.length) :
  Calls Tryz.prog 197 #[.pointer (some ⟨g,0,none⟩),.int .i64 (n:Int)] w fun e w' =>
   e=.returned (.tuple #[.int .u64 (bv ((rest bytes pos).take n):Nat),.int .i64 0])∧Rdr w' g b bytes (pos+n)∧Kp g g w w':=by
 have hnil:∀ W,(binOp .eql 219 (.pointer (some ⟨g,0,none⟩)) (.pointer none)).run Tryz.prog W=.ok (.bool false) W:=fun _=>by kernel_rfl
 have hlen:(n:Int)≤((8*bytes.length - pos:Nat):Int):=by omega
 have H:=hid h;clear h;go_enter Tryz.func197,Tryz.ntmps197
 go_wp2_with (go_at_call 208;refine (RLeft_any _ _ _ _ _ H.out).mono ?_;rintro e w' ⟨rfl,hd⟩)
 go_loopw [6,23] (fun x i wr=>∃ k:Nat,k≤n∧i=.int .i64 k∧x=.int .u64 (bv ((rest bytes pos).take k):Nat)∧Rdr wr g b bytes (pos+k)∧Kp g g w wr) (fun _ i _=>n - (intOf i).toNat)
 case atStart=>exact ⟨0,by omega,rfl,rfl,H.out.nw hd.nw,hd.nw.kp g g⟩
 case round =>
  obtain ⟨k,hk,rfl,rfl,hR,hK⟩:=hrel;by_cases hlt:k < n
  ·have hpk:pos+k < 8*bytes.length:=by omega
   obtain ⟨A,c,hb,_⟩:=hR.blk;have hc1:wr.cell? ⟨g,1,none⟩=some (.int .i64 ((pos+k:Nat):Int)):=by simp [World.cell?,hb]
   have hf1:wr.frozen? ⟨g,1,none⟩=false:=by simp [World.frozen?,hb]
   have hsm:=hR.small;clear hb;generalize hpp:pos+k=p at *;have HP:=hid hpp;clear hpp;go_wp2;go_quiet ((go_at_call 209;exact Calls.quiet_of_same ((bit_any _ _ _ _ _ _ (hR.nw (Nw.drewN _ _)) hpk).mono fun _ _ h=>⟨h.1,h.2.symm⟩)))
   go_wp2;go_roundw
   case rel =>
    have hp1:pos+(k+1)=p+1:=by have:=HP.out;omega
    refine ⟨k+1,by omega,by go_num,?_,?_,(hK.drewN' nq).setCell' (.inl rfl) _⟩
    ·rw [rest_take_next bytes pos k (by have:=HP.out;omega),bv_snoc];have e:(up bytes)[p]'(by rw [up_length];exact hpk)=(up bytes)[pos+k]'(by rw [up_length];have:=HP.out;omega):=by
      have:=HP.out;subst this;rfl
     rw [e];congr 1
     exact bits_step _ _ k (Nat.lt_of_lt_of_le (bv_lt _) (Nat.pow_le_pow_right (by omega) (by rw [List.length_take];omega))) (by omega) (b2n_le _)
    ·rw [hp1];have:=(hR.nw (Nw.drewN wr nq)).step (p+1) (by omega);simpa using this
   case measure=>simp [intOf];omega
  ·obtain rfl:k=n:=by omega
   go_wp2;go_ret2;exact ⟨rfl,hR,hK⟩
theorem RBits_eof (w:World) (g b:Nat) (bytes:List Nat) (pos n:Nat) (h:Rdr w g b bytes pos) (hn:n≤64) (hfit:8*bytes.length < pos+n) :
  Calls Tryz.prog 197 #[.pointer (some ⟨g,0,none⟩),.int .i64 (n:Int)] w fun e w'=>e=.returned (.tuple #[.int .u64 0,.int .i64 3])∧Dr w w':=by
 have hnil:∀ W,(binOp .eql 219 (.pointer (some ⟨g,0,none⟩)) (.pointer none)).run Tryz.prog W=.ok (.bool false) W:=fun _=>by kernel_rfl
 have hlen:8*bytes.length - pos < n:=by have:=h.within;omega
 have H:=hid h;clear h;go_enter Tryz.func197,Tryz.ntmps197
 go_wp2_with (go_at_call 208;refine (RLeft_any _ _ _ _ _ H.out).mono ?_;rintro e w' ⟨rfl,hd⟩)
 go_ret2;exact ⟨rfl,hd⟩
def endE (bs:List Bool):Nat:=if 8≤bs.length∨true∈bs then 4 else 0
theorem rest_get (bytes:List Nat) (pos k:Nat) (h:pos+k < 8*bytes.length):(rest bytes pos)[k]'(by rw [rest_length];omega)=(up bytes)[pos+k]'(by rw [up_length];exact h):=by simp [rest]
theorem REnd_any (w:World) (g b:Nat) (bytes:List Nat) (pos:Nat) (h:Rdr w g b bytes pos) :
  Calls Tryz.prog 140 #[.pointer (some ⟨g,0,none⟩)] w fun e w'=>e=.returned (.int .i64 (endE (rest bytes pos):Nat))∧Dr w w':=by
 have hnil:∀ W,(binOp .eql 219 (.pointer (some ⟨g,0,none⟩)) (.pointer none)).run Tryz.prog W=.ok (.bool false) W:=fun _=>by kernel_rfl
 have H:=hid h;have hwi:=h.within;have hsm:=h.small;have HL:=hid (rest_length bytes pos);clear h;by_cases h8:8≤8*bytes.length - pos
 ·have he:endE (rest bytes pos)=4:=by unfold endE;rw [if_pos (.inl (by rw [HL.out];exact h8))]
  have HE:=hid he;clear he;go_enter Tryz.func140,Tryz.ntmps140
  go_wp2_with (go_at_call 208;refine (RLeft_any _ _ _ _ _ H.out).mono ?_;rintro e w' ⟨rfl,hd⟩)
  go_ret;exact ⟨ret_int (by rw [HE.out];rfl),hd⟩
 ·go_enter Tryz.func140,Tryz.ntmps140
  go_wp2_with (go_at_call 208;refine (RLeft_any _ _ _ _ _ H.out).mono ?_;rintro e w' ⟨rfl,hd⟩)
  go_loopw [12] (fun i wr=>∃ k:Nat,k≤8*bytes.length - pos∧i=.int .i64 k∧true ∉ (rest bytes pos).take k∧Dr w wr) (fun i _=>8*bytes.length - pos - (intOf i).toNat)
  case atStart=>exact ⟨0,by omega,rfl,by simp,hd⟩
  case round =>
   obtain ⟨k,hk,rfl,hno,hd'⟩:=hrel;have HNO:=hid hno;clear hno;by_cases hlt:k < 8*bytes.length - pos
   ·have hpk:pos+k < 8*bytes.length:=by omega
    have hR:=H.out.nw hd'.nw;obtain ⟨A,c,hb,_⟩:=hR.blk;have hc1:wr.cell? ⟨g,1,none⟩=some (.int .i64 (pos:Int)):=by simp [World.cell?,hb]
    clear hb;have hlt2:(k:Int) < ((8*bytes.length - pos:Nat):Int):=by omega
    have hws:IntKind.i64.wrap ((pos:Int)+(k:Int))=((pos+k:Nat):Int):=by rw [IntWalk.i64_in _ (by omega)];omega
    have hb0:=rest_get bytes pos k hpk;have HB:=hid hb0;clear hb0;cases hv:(up bytes)[pos+k]'(by rw [up_length];exact hpk);all_goals
     have HV:=hid hv;have hcall:∀ W,Nw wr W→Calls Tryz.prog 209 #[.pointer (some ⟨g,0,none⟩),.int .i64 ((pos+k:Nat):Int)] W fun e w'=>e=.returned (.int .u64 (b2n ((up bytes)[pos+k]'(by rw [up_length];exact hpk)):Nat))∧w'=W :=
      fun W hW=>(bit_any W g b bytes pos (pos+k) (hR.nw hW) hpk).mono fun _ _ h=>⟨h.1,h.2.symm⟩
     rw [hv] at hcall;clear hv;have HC:=hid hcall;clear hcall;go_wp2;go_quiet ((go_at_call 209;exact Calls.quiet_of_same (HC.out _ (Nw.drewN _ _))))
     go_wp2
    ·go_roundw
     case rel =>
      refine ⟨k+1,by omega,by go_num,?_,hd'.step _⟩;rw [List.take_succ_eq_append_getElem (by rw [rest_length];omega),List.mem_append,List.mem_singleton,HB.out,HV.out];exact fun h=>h.elim HNO.out (by simp)
     case measure=>simp [intOf];omega
    ·go_ret;refine ⟨ret_int ?_,hd'.step _⟩;unfold endE;rw [if_pos (.inr (by rw [← HV.out,← HB.out];exact List.getElem_mem _))];rfl
   ·go_wp2;go_ret;refine ⟨ret_int ?_,hd'⟩;unfold endE;rw [if_neg]
    ·rfl
    ·rw [HL.out];rintro (h | h)
     ·omega
     ·exact HNO.out (by rw [List.take_of_length_le (by rw [HL.out];omega)];exact h)
theorem NewReader_any (w:World) (b:Nat) (A:Option Addr) (n c:Nat) (bytes:List Nat) (hn:n=bytes.length) (hm:n≤140737488355328) (hr:Rd w b A (cN .u8 bytes)) (hA:A=none→c=0) (hby:∀ x∈bytes,x < 256) :
  Calls Tryz.prog 137 #[.slice A n c] w fun e w'=>∃ g b',e=.returned (.pointer (some ⟨g,0,none⟩))∧Rdr w' g b' bytes 0∧w.heap.size≤g∧w.heap.size≤b'∧Nw w w':=by
 have HN:=hid hn;clear hn;go_enter Tryz.func137,Tryz.ntmps137
 go_wp2_with (go_at_call 174;refine (CloneB_any w b A n c bytes HN.out hm hr hA).mono ?_;rintro e w' ⟨b',A',c',rfl,hO,hge,hN⟩)
 go_ret;have hblk:(w'.alloc (.cells #[.slice A' n c',.int .i64 0] 294)).heap[w'.heap.size]? = some (.cells #[.slice A' bytes.length c',.int .i64 ((0:Nat):Int)] 294 (0,0)):=by
  rw [heap_alloc_new,HN.out];rfl
 by_cases h0:bytes=[]
 ·subst h0;exact ⟨w'.heap.size,w'.heap.size,by simp,⟨⟨A',c',hblk,Rd.nil _ _ _⟩,.inl rfl,hby,by simp,by simp⟩,hN.size,hN.size,hN.alloc' _⟩
 ·have hlt:b' < w'.heap.size:=hO.lt (by have:=HN.out;have:=List.length_pos_iff.2 h0;omega);exact ⟨w'.heap.size,b',by simp,⟨⟨A',c',hblk,hO.rd.nw (Nw.alloc' (Nw.refl _) _)⟩,.inr (by omega),hby,by have:=HN.out;omega,by omega⟩,hN.size,hge,hN.alloc' _⟩
end
section
open Go Go.RowKit Go.Sort
abbrev winV (a n:Int):Value:=.agg #[.int .i64 a,.int .i64 n]
def winOf:Win→Value
 | none=>winV 0 0
 | some (a,b)=>winV a ((64 - a - b:Nat):Int)
theorem trail_any (w:World) (a n:Nat) (h:a+n≤64):Calls Tryz.prog 304 #[winV a n] w fun e w'=>e=.returned (.int .i64 ((64 - a - n:Nat):Int))∧Gr w w':=by
 have e1:(64:Int) - (a:Int) - (n:Int)=((64 - a - n:Nat):Int):=by omega
 go_enter Tryz.func304,Tryz.ntmps304
 go_wp2;go_ret;exact ⟨by simp,Gr.alloc _ _⟩
theorem LeadingZeros64_any (w:World) (x:Nat) (hx:x < 18446744073709551616):Calls Tryz.prog 319 #[.int .u64 (x:Int)] w fun e w'=>e=.returned (.int .i64 (lz x:Int))∧w=w':=by
 have h:=Tryz.bits_LeadingZeros64 (x:Int) w (by omega) (by omega);have hl:=Lib.bitLen_le x 64 (by omega) (by rw [pow64];exact hx);have e1:(64:Int) - (Lib.bitLen x:Int)=(lz x:Int):=by unfold lz;omega
 simp only [Int.toNat_natCast,e1] at h;exact h.mono fun e w' h=>⟨h.1,h.2.symm⟩
theorem windowOf_any (w:World) (x:Nat) (hG:Gl w) (h0:x≠0) (hx:x < 18446744073709551616):Calls Tryz.prog 305 #[.int .u64 (x:Int)] w fun e w'=>e=.returned (winV (lz x) ((64 - lz x - tz x:Nat):Int))∧Gr w w':=by
 have hlt:=lz_tz h0 hx;have HL:=hid fun W:World=>LeadingZeros64_any W x hx
 have HT:=hid fun (W:World) (hN:Nw w W)=>TrailingZeros64_any W x (hG.nw hN) h0 hx
 have e1:(64:Int) - (lz x:Int) - (tz x:Int)=((64 - lz x - tz x:Nat):Int):=by omega
 clear hG h0 hx;generalize lz x=a at *;generalize tz x=b at *;go_enter Tryz.func305,Tryz.ntmps305
 go_wp2_with (first
  | (go_at_call 319;refine (HL.out _).mono ?_;rintro e w1 ⟨rfl,rfl⟩)
  | (go_at_call 320;refine (HT.out _ (Nw.alloc' (Nw.refl w) _)).mono ?_;rintro e w1 ⟨rfl,rfl⟩))
 refine bodyPost_ret (results_cell_row rfl _ _ w.heap.size 355 _ _ _ rfl (heap_alloc_new _ _) Tryz.underlying355 rfl (by kernel_rfl)) rfl ?_;exact ⟨rfl,Gr.alloc _ _⟩
set_option maxHeartbeats 2000000 in
theorem fits_any (w:World) (g x:Nat) (win:Win) (hG:Gl w) (hw:WinOk win) (h0:x≠0) (hx:x < 18446744073709551616) (hg:g < w.heap.size)
  (hc:∃ a n:Int,winOf win=winV a n∧w.cell? ⟨g,1,none⟩=some (.int .i64 a)∧w.cell? ⟨g,2,none⟩=some (.int .i64 n)) :
  Calls Tryz.prog 306 #[.pointer (some ⟨g,0,none⟩),.int .u64 (x:Int)] w fun e w'=>e=.returned (.bool (decide (fits win x)))∧Gr w w':=by
 obtain ⟨a0,n0,hwv,hc1,hc2⟩:=hc;cases win with
 | none =>
  injection hwv with e;injection e with e;injection e with e1 e2;injection e2 with e2 _;injection e1 with _ e1;injection e2 with _ e2
  subst e1 e2;clear hG;go_enter Tryz.func306,Tryz.ntmps306
  go_wp2;go_ret;exact ⟨by show _=Ending.returned (.bool (decide False));simp,Gr.refl _⟩
 | some ab =>
  obtain ⟨a,b⟩:=ab;injection hwv with e;injection e with e;injection e with e1 e2;injection e2 with e2 _;injection e1 with _ e1;injection e2 with _ e2
  subst e1 e2;have hw':a+b≤63:=hw;have hlt:=lz_tz h0 hx;have HW:=hid (windowOf_any w x hG h0 hx);have HT:=hid fun (W:World) (a n:Nat) (h:a+n≤64)=>trail_any W a n h
  clear hG h0 hx hw;have hn:(((64 - a - b:Nat):Int) == 0)=false:=by rw [beq_eq_false_iff_ne];omega
  go_enter Tryz.func306,Tryz.ntmps306
  go_wp2_with (go_at_call 305;refine HW.out.mono ?_;rintro e w1 ⟨rfl,hgr⟩)
  have hgn:Nw w w1:=hgr.nw;generalize hwq:World.alloc w1 _=wq;have hs1:=hgn.size;have hlw:w1.heap.size < wq.heap.size:=by rw [← hwq];simp
  have hd1:∀ p:Gp,(grow (wq.drewN p.n) p.os).cell? ⟨w1.heap.size,0,none⟩=some (.int .i64 (lz x:Int)):=cell_gr hlw (by rw [← hwq];simp);have hd2:∀ p:Gp,(grow (wq.drewN p.n) p.os).cell? ⟨w1.heap.size,1,none⟩=some (.int .i64 ((64 - lz x - tz x:Nat):Int)):=cell_gr hlw (by rw [← hwq];simp);have hnq:Nw w wq:=by rw [← hwq];exact hgn.alloc' _
  have hgq:Gr w wq:=by rw [← hwq];exact hgr.trans (Gr.alloc _ _)
  have hd3:∀ p:Gp,(grow (wq.drewN p.n) p.os).cell? ⟨g,1,none⟩=some (.int .i64 (a:Int)):=cell_gr (Nat.lt_of_lt_of_le hg hnq.size) (cell_old hnq hg hc1);have hd4:∀ p:Gp,(grow (wq.drewN p.n) p.os).cell? ⟨g,2,none⟩=some (.int .i64 ((64 - a - b:Nat):Int)):=cell_gr (Nat.lt_of_lt_of_le hg hnq.size) (cell_old hnq hg hc2);have HQ:=hid hgq;clear hgq hnq hwq hgn hgr hs1 hc1 hc2 HW;by_cases hle:a≤lz x
  ·have hd:decide ((a:Int)≤(lz x:Int))=true:=by simp [hle]
   refine wp_region_gr (by kernel_rfl) (by kernel_rfl) ?_
   repeat (quiet_step (first | (go_at_call 304;refine Calls.gr (HT.out _ _ _ (by omega)))))
   refine wpQuiet_nil ?_;rintro _ ⟨p,rfl⟩;go_wp2;go_ret;refine ⟨?_,HQ.out.trans ⟨p,rfl⟩⟩;refine congrArg Ending.returned (congrArg Value.bool ?_);show decide _=decide (a≤lz x∧b≤tz x)
   rw [decide_eq_decide];omega
  ·have hd:decide ((a:Int)≤(lz x:Int))=false:=by simp;omega
   refine wp_region_gr (by kernel_rfl) (by kernel_rfl) ?_
   repeat (with_reducible refine wpQuiet_step ?_;intro K hK;go_simp;refine hK _ ?_;clear hK K)
   refine wpQuiet_nil ?_;rintro _ ⟨p,rfl⟩;go_wp2;go_ret;refine ⟨?_,HQ.out.trans ⟨p,rfl⟩⟩;rw [show decide (fits (some (a,b)) x)=false from decide_eq_false (fun h=>hle h.1)];rfl
end
end Go.Proofs.YtmmonehfnfbpbaaGreatDoor
