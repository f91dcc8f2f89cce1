/- Laws that the last text builds on. -/
import Derived.Test.YticphebaflnedaaGreatDoorD2
import Derived.Test.YticphebaflnedaaGreatDoorChecked
namespace Go.Proofs.YticphebaflnedaaGreatDoor
open Go.Lib(hid)
section
open Go Go.RowKit Go.Sort
def serE (s:Ser):Nat:=if chkL s.labs≠0 then chkL s.labs else if s.smps.length=0 then 21 else tmE s.smps
abbrev vSer (s:Ser):Value:=.agg #[.slice s.al s.labs.length s.cl,.slice s.as_ s.smps.length s.cs]
theorem singleSer_any (w:World) (s:Ser) (hs:SerOk w s) (h1:s.labs.length≤1000000) (h2:s.smps.length≤1000000) :
  Calls Tryz.prog 101 #[vSer s] w fun e w'=>e=.returned (.int .i64 (serE s:Nat))∧Nw w w':=by
 have HL:=hid fun W (hN:Nw w W)=>CheckL_any W s.bl s.al s.labs.length s.cl s.labs rfl h1 (hs.1.rd.nw hN)
 have HA:=hid fun W (hN:Nw w W)=>ascS_any W s.bs s.as_ s.smps.length s.cs s.smps rfl h2 (hs.2.rd.nw hN)
 have HE:=hid (show serE s=if chkL s.labs≠0 then chkL s.labs else if s.smps.length=0 then 21 else tmE s.smps from rfl);generalize serE s=E at *;generalize chkL s.labs=e1 at *;generalize tmE s.smps=e2 at *;clear hs;have hN1:Nw w (w.alloc (.cells #[.slice s.al s.labs.length s.cl,.slice s.as_ s.smps.length s.cs] 80)):=(Nw.refl _).alloc' _;have hb:(w.alloc (.cells #[.slice s.al s.labs.length s.cl,.slice s.as_ s.smps.length s.cs] 80)).heap[w.heap.size]? = some (.cells #[.slice s.al s.labs.length s.cl,.slice s.as_ s.smps.length s.cs] 80 (0,0)):=heap_alloc_new _ _;by_cases h0:e1=0
 ·have h0b:((e1:Int) != 0)=false:=by rw [bne_eq_false_iff_eq];omega
  have hE:=HE.out;rw [if_neg (by simp [h0])] at hE;by_cases hl:s.smps.length=0
  ·rw [if_pos hl] at hE;have HE2:=hid hE;have hlb:((s.smps.length:Int) == 0)=true:=by rw [beq_iff_eq];omega
   have HL0:=hid hl;clear hE hl;go_enter Tryz.func101,Tryz.ntmps101
   go_wp2_with (go_at_call 170;refine (HL.out _ hN1).mono ?_;rintro e w1 ⟨rfl,hN⟩;have hc1:=(cell_at (k:=1) ((hN.block _ (lt_of_block hb)).trans hb)).trans rfl)
   go_ret;rw [HE2.out];exact ⟨rfl,hN1.trans hN⟩
  ·rw [if_neg hl] at hE;have HE2:=hid hE;have hlb:((s.smps.length:Int) == 0)=false:=by rw [beq_eq_false_iff_ne];omega
   clear hE;go_enter Tryz.func101,Tryz.ntmps101
   go_wp2_with (first
    | (go_at_call 171;refine (HA.out _ (hN1.trans hN)).mono ?_;rintro e w2 ⟨rfl,hN2⟩)
    | (go_at_call 170;refine (HL.out _ hN1).mono ?_;rintro e w1 ⟨rfl,hN⟩;have hc1:=(cell_at (k:=1) ((hN.block _ (lt_of_block hb)).trans hb)).trans rfl))
   go_ret;rw [HE2.out];exact ⟨rfl,(hN1.trans hN).trans hN2⟩
 ·have h0b:((e1:Int) != 0)=true:=by rw [bne_iff_ne];omega
  have hE:=HE.out;rw [if_pos h0] at hE;have HE2:=hid hE;clear hE;go_enter Tryz.func101,Tryz.ntmps101
  go_wp2_with (go_at_call 170;refine (HL.out _ hN1).mono ?_;rintro e w1 ⟨rfl,hN⟩)
  go_ret;rw [HE2.out];exact ⟨rfl,hN1.trans hN⟩
theorem bySet_any (w:World) (s t:Ser) (hs:SerOk w s) (ht:SerOk w t) (h1:s.labs.length≤1000000) (h2:t.labs.length≤1000000) :
  Calls Tryz.prog 103 #[vSer s,vSer t] w fun e w'=>e=.returned (.int .i64 (cmpLs s.labs t.labs))∧Gr w w':=by
 have HC:=hid fun W (hN:Nw w W)=>CompareL_any W s.bl t.bl s.al t.al s.labs.length s.cl t.labs.length t.cl s.labs t.labs rfl rfl h1 h2 (hs.1.rd.nw hN) (ht.1.rd.nw hN)
 generalize cmpLs s.labs t.labs=C at *;clear hs ht;go_enter Tryz.func103,Tryz.ntmps103
 go_wp2_with (go_at_call 172;refine (HC.out _ (((Nw.refl w).alloc' _).alloc' _)).mono ?_;rintro e w1 ⟨rfl,hN⟩)
 go_ret;exact ⟨rfl,(((Gr.refl w).alloc' _).alloc' _).trans hN⟩
theorem cmpL_in (x y:Lab):cmpL x y = -1∨cmpL x y=0∨cmpL x y=1:=by
 unfold cmpL;split
 ·exact cmpS_in _ _
 ·exact cmpS_in _ _
theorem cmpLs_in:∀ a b:List Lab,cmpLs a b = -1∨cmpLs a b=0∨cmpLs a b=1:=by
 intro a;induction a with
 | nil=>intro b;cases b with | nil=>exact .inr (.inl rfl) | cons _ _=>exact .inl rfl
 | cons x a ih =>
  intro b;cases b with
  | nil=>exact .inr (.inr rfl)
  | cons y b =>
   have e:cmpLs (x::a) (y::b)=if cmpL x y≠0 then cmpL x y else cmpLs a b:=rfl
   rw [e];split
   ·exact cmpL_in x y
   ·exact ih b
def asF:Ser→List Ser→Nat
 | _,[]=>0
 | p,x::l=>if cmpLs p.labs x.labs=0 then 19 else if cmpLs p.labs x.labs=1 then 16 else asF x l
def asE:List Ser→Nat
 | []=>0
 | x::l=>asF x l
theorem asE_step {l:List Ser} {k:Nat} (h0:0 < k) (h:k < l.length):asE (l.drop (k - 1))=if cmpLs l[k - 1].labs l[k].labs=0 then 19 else if cmpLs l[k - 1].labs l[k].labs=1 then 16 else asE (l.drop k):=by
 rw [drop_cons (show k - 1 < l.length by omega),show k - 1+1=k by omega,drop_cons h];rfl
theorem asE_end {l:List Ser} {k:Nat} (h:l.length≤k):asE (l.drop (k - 1))=0:=by
 by_cases h1:k - 1 < l.length
 ·rw [drop_cons h1,List.drop_eq_nil_of_le (by omega)];rfl
 ·rw [List.drop_eq_nil_of_le (by omega)];rfl
set_option maxRecDepth 100000 in
set_option maxHeartbeats 1600000 in
theorem ascR_any (w:World) (b:Nat) (A:Option Addr) (n c:Nat) (l:List Ser) (hn:n=l.length) (hm:n≤1000000) (hr:Rd w b A (cR l)) (hok:∀ s∈l,SerOk w s∧s.labs.length≤1000000) :
  Calls Tryz.prog 102 #[.slice A n c,.func (.func 103) #[] #[],.int .i64 19] w fun e w'=>e=.returned (.int .i64 (asE l:Nat))∧Nw w w':=by
 subst hn;have HR:=hid hr;have HOK:=hid hok;obtain ⟨C,hC⟩:∃ C,asE l=C:=⟨_,rfl⟩;rw [hC];have HC:=hid hC;clear hr hC hok;go_enter Tryz.func102,Tryz.ntmps102
 go_wp2
 go_step3
 go_wp2
 go_step3
 go_wp2;go_loopw [7,8] (fun v i wr=>v=.int .i64 0∧∃ k:Nat,1≤k∧i=.int .i64 k∧(k≤l.length∨k=1)∧Hid (C=asE (l.drop (k - 1)))∧Hid (Nw w wr)) (fun _ i _=>l.length - (intOf i).toNat)
 case atStart=>exact ⟨rfl,1,by omega,rfl,.inr rfl,hid HC.out.symm,hid (Nw.refl _)⟩
 case round =>
  obtain ⟨rfl,k,hk,rfl,hkl,HX,HN⟩:=hrel;by_cases hlt:k < l.length
  ·obtain ⟨m,rfl⟩:∃ m,k=m+1:=⟨k - 1,by omega⟩;have hltI:(m:Int)+1 < (l.length:Int):=by omega
   obtain ⟨o,rfl,hbw,hc0,hc1⟩:=two_at (HR.out.nw HN.out) hlt;obtain ⟨o',e',_,hp0,hp1⟩:=two_at (HR.out.nw HN.out) (show m < l.length by omega);obtain rfl:o'=o:=by injection e' with e';injection e' with _ e' _;exact e'.symm
   have hX:=HX.out;rw [asE_step (by omega) hlt] at hX;simp only [Nat.add_sub_cancel] at hX;rw [show ((m+1:Nat):Int)=(m:Int)+1 from by push_cast;rfl];have HX2:=hid hX;have HOx:=hid (HOK.out l[m+1] (List.getElem_mem hlt));have HOy:=hid (HOK.out l[m] (List.getElem_mem (by omega)));generalize l[m+1]=x at *;generalize l[m]=y at *;have j0:(0:Int)≤(m:Int)+1:=by omega
   have j1:(m:Int) < (l.length:Int):=by omega
   have j2:((m:Int)+1).toNat=m+1:=by omega
   have j3:IntKind.i64.wrap (m:Int)=(m:Int):=IntWalk.i64_in _ (by omega);obtain ⟨s,hs⟩:∃ s,cmpLs y.labs x.labs=s:=⟨_,rfl⟩;have hsin:=cmpLs_in y.labs x.labs;rw [hs] at hsin HX2;have H0:Hid (∀ W,Nw wr W→W.cell? ⟨b,o'+m*2,none⟩=some (.slice y.al y.labs.length y.cl)∧W.cell? ⟨b,o'+m*2+1,none⟩=some (.slice y.as_ y.smps.length y.cs)∧W.cell? ⟨b,o'+(m+1)*2,none⟩=some (.slice x.al x.labs.length x.cl)∧W.cell? ⟨b,o'+(m+1)*2+1,none⟩=some (.slice x.as_ x.smps.length x.cs)) :=
    hid fun W hN=>⟨cell_old hN hbw hp0,cell_old hN hbw hp1,cell_old hN hbw hc0,cell_old hN hbw hc1⟩
   have HB:Hid (∀ W,(W.cell? ⟨b,o'+m*2,none⟩=some (.slice y.al y.labs.length y.cl)∧W.cell? ⟨b,o'+m*2+1,none⟩=some (.slice y.as_ y.smps.length y.cs)∧W.cell? ⟨b,o'+(m+1)*2,none⟩=some (.slice x.al x.labs.length x.cl)∧W.cell? ⟨b,o'+(m+1)*2+1,none⟩=some (.slice x.as_ x.smps.length x.cs))∧Nw wr W →
     Calls Tryz.prog 103 #[vSer y,vSer x] W fun e w'=>e=.returned (.int .i64 s)∧((w'.cell? ⟨b,o'+m*2,none⟩=some (.slice y.al y.labs.length y.cl)∧w'.cell? ⟨b,o'+m*2+1,none⟩=some (.slice y.as_ y.smps.length y.cs)∧w'.cell? ⟨b,o'+(m+1)*2,none⟩=some (.slice x.al x.labs.length x.cl)∧w'.cell? ⟨b,o'+(m+1)*2+1,none⟩=some (.slice x.as_ x.smps.length x.cs))∧Nw wr w')):=by
    refine hid fun W hS=>?_
    have hNW:=HN.out.trans hS.2;have h:=bySet_any W y x (HOy.out.1.nw hNW) (HOx.out.1.nw hNW) HOy.out.2 HOx.out.2;rw [hs] at h;refine h.mono ?_;rintro e w' ⟨rfl,hG⟩;have hN:=hG.nw;exact ⟨rfl,H0.out _ (hS.2.trans hN),hS.2.trans hN⟩
   have E0:=hid (And.intro (H0.out _ (Nw.refl wr)) (Nw.refl wr));have E1:=hid (And.intro (H0.out _ (Nw.drewO wr)) (Nw.drewO wr));clear hX HX hs;go_wp2_with fail;go_region_held3 (fun w'=>(w'.cell? ⟨b,o'+m*2,none⟩=some (.slice y.al y.labs.length y.cl)∧w'.cell? ⟨b,o'+m*2+1,none⟩=some (.slice y.as_ y.smps.length y.cs)∧w'.cell? ⟨b,o'+(m+1)*2,none⟩=some (.slice x.al x.labs.length x.cl)∧w'.cell? ⟨b,o'+(m+1)*2+1,none⟩=some (.slice x.as_ x.smps.length x.cs))∧Nw wr w')
    (first | exact E0.out | exact E1.out | exact hS)
    (first
     | (go_at_call 103;refine (HB.out _ (by assumption)).mono ?_;rintro e w5 ⟨rfl,hS⟩))
   have HNz:=hid (HN.out.trans hS.2);clear hS;rcases hsin with rfl | rfl | rfl
   ·have HX3:=hid (show C=asE (l.drop (m+1+1 - 1)) from by rw [HX2.out];rfl);go_wp2_with fail;go_roundw
    case rel=>exact ⟨rfl,m+1+1,by omega,by go_num,.inl (by omega),HX3,HNz⟩
    case measure=>simp [intOf];omega
   ·have HX3:=hid (show C=19 from by rw [HX2.out];rfl);go_wp2_with fail
    try simp only [Exit.noGoto]
    go_ret;rw [HX3.out];exact ⟨rfl,HNz.out⟩
   ·have HX3:=hid (show C=16 from by rw [HX2.out];rfl);go_wp2_with fail
    try simp only [Exit.noGoto]
    go_ret;rw [HX3.out];exact ⟨rfl,HNz.out⟩
  ·have hX:=HX.out;rw [asE_end (by omega)] at hX;have HX2:=hid hX;have hltI:¬ (k:Int) < (l.length:Int):=by omega
   clear hX HX;go_wp2;go_ret;rw [HX2.out];exact ⟨rfl,HN.out⟩
end
section
open Go Go.RowKit Go.Sort
theorem Ow.lt_some {w:World} {g n c:Nat} {e:TypeId} {size:Nat} {A:Option Addr} {xs:List Value} (h:Ow w g e size A n c xs) (hA:A≠none):g < w.heap.size:=by
 rcases h with ⟨h,_⟩ | ⟨_,h,_⟩
 ·exact (hA h).elim
 ·exact h
set_option maxRecDepth 100000 in
set_option maxHeartbeats 1600000 in
theorem Strings_any (w:World) (b:Nat) (A:Option Addr) (n c:Nat) (l:List Lab) (hn:n=l.length) (hm:n≤1000000) (hr:Rd w b A (cL l)) :
  Calls Tryz.prog 107 #[.slice A n c] w fun e w'=>∃ b' A' c',e=.returned (.slice A' (2*n) c')∧Ow w' b' 9 1 A' (2*n) c' (cT (strsOf l))∧w.heap.size≤b'∧Nw w w':=by
 subst hn;have HR:=hid hr;have i0:∀ W,(Instr.index 281 (.agg partFs) (.int .i64 0)).run Tryz.prog W=.ok (.agg #[.func (.func 253) #[] #[]]) W:=fun _=>by kernel_rfl
 have i1:∀ W,(Instr.index 281 (.agg partFs) (.int .i64 1)).run Tryz.prog W=.ok (.agg #[.func (.func 254) #[] #[]]) W:=fun _=>by kernel_rfl
 clear hr;go_enter Tryz.func107,Tryz.ntmps107
 go_wp2;go_loopw [3,10] (fun s i wr=>∃ k:Nat,k≤l.length∧i=.int .i64 k∧∃ (bk:Nat) (Ak:Option Addr) (ck:Nat),s=.slice Ak (2*k) ck∧Hid (Ow wr bk 9 1 Ak (2*k) ck (cT (strsOf (l.take k))))∧w.heap.size≤bk∧Hid (Nw w wr)) (fun _ i _=>l.length - (intOf i).toNat)
 case atStart=>exact ⟨0,by omega,rfl,w.heap.size,none,0,rfl,hid (Ow.nil _ _ _ _),Nat.le_refl _,hid (Nw.refl _)⟩
 case round =>
  obtain ⟨k,hk,rfl,bk,Ak,ck,rfl,HO,hbk,HN⟩:=hrel;by_cases hlt:k < l.length
  ·have hltI:(k:Int) < (l.length:Int):=by omega
   obtain ⟨o,rfl,hbw,hc0,hc1⟩:=two_at (HR.out.nw HN.out) hlt;have HT:=hid (show strsOf (l.take (k+1))=strsOf (l.take k)++[l[k].1,l[k].2] from by unfold strsOf;rw [List.take_succ_eq_append_getElem hlt,List.flatMap_append];rfl);generalize l[k]=x at *;obtain ⟨a,d⟩:=x;dsimp only at hc0 hc1 HT;obtain ⟨bx,hbx⟩:∃ o,o=Obj.cells #[.string a,.string d] 124:=⟨_,rfl⟩;have hNb:Nw wr (wr.alloc bx):=(Nw.refl wr).alloc' _;have hbb:(wr.alloc bx).heap[wr.heap.size]? = some bx:=heap_alloc_new _ _;go_wp2_with (go_at_call 180;refine (lparts_any _).mono ?_;rintro e w1 ⟨rfl,hgr⟩)
   rw [← hbx] at hgr;obtain ⟨nb,hnb⟩:∃ nb,wr.heap.size=nb:=⟨_,rfl⟩;rw [hnb] at hbb ⊢;have hb1:=(hgr.nw.block nb (lt_of_block hbb)).trans hbb;have HN1:=hid (hNb.trans hgr.nw);have hNB:=hid hnb;have hb1l:=lt_of_block hb1;have HB1:=hid (hb1.trans (congrArg some hbx));clear hNb hbb hgr hnb hc0 hc1 hb1 hbx;refine wp_loop_rounds 3 ?_;rw [rounds_succ];obtain ⟨pb,hpb⟩:∃ o,o=Obj.cells #[.func (.func 253) #[] #[]] 280:=⟨_,rfl⟩;have hNp:Nw w1 (w1.alloc pb):=(Nw.refl w1).alloc' _;have hbp:=(hNp.block nb hb1l).trans HB1.out;rw [hpb] at hbp;have e0:=cell_at (k:=0) hbp;have e1:=cell_at (k:=1) hbp;go_wp2_with fail;refine (part1_any _ a d).mono ?_;rintro e w2 ⟨rfl,hgr2⟩;have hN2:=(HN1.out.trans (by rw [hpb] at hNp;exact hNp)).trans hgr2.nw;have hb2:=(hgr2.nw.block nb (lt_of_block hbp)).trans hbp;have hO2:=HO.out.nw hN2;have HO2:=hid hO2;have HN2:=hid hN2;have HB2:=hid hb2;have HLT:=hid fun h=>(show bk < nb from by have:=HO.out.lt_some h;have:=hNB.out;omega)
   clear hbp e0 e1 hNp hpb hgr2 hO2 hN2 hb2 HB1;go_wp2_with (at_builtin;refine wpList_app1 E_str rfl (.tmp 18) (.tmp 23) rfl rfl HO2.out rfl rfl (by omega) (by omega) ?_;intro b3 A3 c3 w3 q1 q2 q3 q4;have Q1:=hid q1;have Q2:=hid q2;have Q3:=hid q3;have Q4:=hid q4;clear q1 q2 q3 q4)
   have hb3:w3.heap[nb]? = some (Obj.cells #[.string a,.string d] 124):=by
    have hl:=lt_of_block HB2.out;by_cases hA:Ak=none
    ·exact ((Q4.out hA).1.block nb hl).trans HB2.out
    ·have:=HLT.out hA;exact (Q3.out.block nb hl (by omega) (by omega)).trans HB2.out
   have hN3:Nw w w3:=Kp.nw (HN.out.trans HN2.out) Q3.out hbk hbk;have hb3w:w.heap.size≤b3:=by
    rcases Q2.out with h | h
    ·omega
    ·have:=(HN.out.trans HN2.out).size;omega
   have HN3:=hid hN3;have HB3:=hid hb3;have hl3:=lt_of_block hb3;clear hb3 hN3 HB2 HO2 HLT Q2 Q3 Q4;rw [rounds_succ];obtain ⟨pb,hpb⟩:∃ o,o=Obj.cells #[.func (.func 254) #[] #[]] 280:=⟨_,rfl⟩;have hNp:Nw w3 (w3.alloc pb):=(Nw.refl w3).alloc' _;have hbp:=(hNp.block nb hl3).trans HB3.out;rw [hpb] at hbp;have e0:=cell_at (k:=0) hbp;have e1:=cell_at (k:=1) hbp;go_wp2_with fail;refine (part2_any _ a d).mono ?_;rintro e w4 ⟨rfl,hgr4⟩;have hN4:Nw w3 w4:=(show Nw w3 (w3.alloc (.cells #[.func (.func 254) #[] #[]] 280)) from by rw [hpb] at hNp;exact hNp).trans hgr4.nw;have HO4:=hid (Q1.out.nw hN4);have HN4:=hid (HN3.out.trans hN4);clear hbp e0 e1 hNp hpb hgr4 hN4 HB3 Q1 hl3;go_wp2_with (at_builtin;refine wpList_app1 E_str rfl (.tmp 18) (.tmp 23) rfl rfl HO4.out rfl rfl (by omega) (by omega) ?_;intro b5 A5 c5 w5 q1 q2 q3 q4;have Q1:=hid q1;have Q2:=hid q2;have Q3:=hid q3;clear q1 q2 q3 q4)
   rw [rounds_succ];go_wp2_with fail;go_roundw
   case rel =>
    refine ⟨k+1,by omega,by go_num,b5,A5,c5,rfl,hid ?_,?_,hid (Kp.nw HN4.out Q3.out hb3w hb3w)⟩
    ·have h:=Q1.out;rw [List.append_assoc] at h;rw [HT.out];unfold cT at h ⊢;rw [List.map_append,show 2*(k+1)=2*k+1+1 from rfl];exact h
    ·rcases Q2.out with h | h
     ·omega
     ·have:=HN4.out.size;omega
   case measure=>simp [intOf];omega
  ·obtain rfl:k=l.length:=by omega
   go_wp2;go_ret;have h:=HO.out;rw [List.take_length] at h;exact ⟨bk,Ak,ck,rfl,h,hbk,HN.out⟩
end
section
open Go Go.RowKit Go.Sort Go.Shelf
attribute [local go_sem] Oper.semAt_some
def upto {α:Type} (f:Nat→α) (k:Nat):List α:=(List.range k).map f
theorem upto_succ {α:Type} (f:Nat→α) (k:Nat):upto f (k+1)=upto f k++[f k]:=by simp [upto,List.range_succ]
theorem upto_length {α:Type} (f:Nat→α) (k:Nat):(upto f k).length=k:=by simp [upto]
theorem upto_all (zs:List ByteArray):upto (fun j=>zs[j]?.getD .empty) zs.length=zs:=by
 apply List.ext_getElem
 ·simp [upto]
 ·intro i h1 h2;simp [upto,h2]
theorem upto_take (zs:List ByteArray) {k:Nat} (hk:k≤zs.length):upto (fun j=>zs[j]?.getD .empty) k=zs.take k:=by
 apply List.ext_getElem
 ·simp [upto,hk]
 ·intro i h1 h2;have:i < zs.length:=by simp [upto] at h1;omega
  simp [upto,this]
set_option maxRecDepth 100000 in
set_option maxHeartbeats 2000000 in
theorem values1_in (F:Fence) (n:Nat) (h7:F.fn 257) (hro:F.round=none) (hn:1≤n) (l Bs n₀ b off len cap:Nat) (zs:List ByteArray) (hreach:len*16≤140737488351232) (hb:b < n₀) (J Jx:List ByteArray→World→Prop)
  (hY:∀ pre x W,J pre W→pre.length < len→YieldAt F (n - 1) Tryz.prog l #[.string x] W fun e W' =>
   (e=.returned (.bool true)∧J (pre++[x]) W'∧RowKit.Below n₀ W W')∨(e=.returned (.bool false)∧Jx (pre++[x]) W'))
  (W:World) (hBs:W.cell? ⟨Bs,0,none⟩=some (.slice (some ⟨b,off,none⟩) len cap)) (hc:∀ j,j < len→W.cell? ⟨b,off+j,none⟩=some (.string (zs[j]?.getD .empty))) (h0:J [] W) :
  CallsIn F n Tryz.prog 257 #[.func (.yield l) #[] #[],.pointer (some ⟨Bs,0,none⟩)] W fun e W'=>(∃ v,e=.returned v) ∧
   ((∃ ys,ys=upto (fun j=>zs[j]?.getD .empty) len∧J ys W')∨(∃ pre,(∃ k,k≤len∧pre=upto (fun j=>zs[j]?.getD .empty) k)∧Jx pre W')):=by
 refine callsIn_of_wp Tryz.func257 rfl h7 ?_ hro;simp only [Tryz.ntmps257,List.size_toArray,List.length_cons,List.length_nil,Nat.reduceAdd,Nat.reduceSub,Array.replicate_succ,Array.replicate_zero,List.push_toArray,List.append_toArray,List.nil_append,List.cons_append]
 gi_wp2
 gi_loopw [7] (fun i wr=>∃ k:Nat,k≤len∧i=.int .i64 k∧J (upto (fun j=>zs[j]?.getD .empty) k) wr∧RowKit.Below n₀ W wr)
  (fun i _=>len - (intOf i).toNat)
 case atStart=>exact ⟨0,Nat.zero_le _,rfl,h0,RowKit.Below.refl _ _⟩
 case round =>
  obtain ⟨k,hk,rfl,hJs,hnx⟩:=hrel;have hcx:k < len→wr.cell? ⟨b,off+k,none⟩=some (.string (zs[k]?.getD .empty)):=fun h=>(hnx.cell (p:=⟨b,off+k,none⟩) hb).trans (hc k h)
  by_cases hlt:k < len
  ·obtain ⟨fn,tmps,assign,body,hy,hR⟩:=hY _ (zs[k]?.getD .empty) wr hJs (by rw [upto_length];exact hlt);have hcx':=hcx hlt
   gi_wp2
   refine hR.mono ?_;rintro e W3 (⟨rfl,hJ3,hk3⟩ | ⟨rfl,hJx3⟩)
   ·gi_wp2
    go_roundw
    case rel=>exact ⟨k+1,by omega,by simp,by rw [upto_succ];exact hJ3,hnx.trans hk3⟩
    case measure=>simp [intOf];omega
   ·gi_wp2
    refine bodyPost_ret (results_none rfl _ _ _) rfl ?_;exact ⟨⟨_,rfl⟩,.inr ⟨_,⟨k+1,by omega,(upto_succ _ _).symm⟩,hJx3⟩⟩
  ·obtain rfl:k=len:=by omega
   gi_wp2
   go_end0
   exact ⟨⟨_,rfl⟩,.inl ⟨_,rfl,hJs⟩⟩
set_option maxRecDepth 100000 in
set_option maxHeartbeats 1000000 in
theorem values1_nil_in (F:Fence) (n:Nat) (h7:F.fn 257) (hro:F.round=none) (l Bs cap:Nat) (A:Option Addr) (J:List ByteArray→World→Prop) (W:World) (hBs:W.cell? ⟨Bs,0,none⟩=some (.slice A 0 cap)) (h0:J [] W) :
  CallsIn F n Tryz.prog 257 #[.func (.yield l) #[] #[],.pointer (some ⟨Bs,0,none⟩)] W fun e W'=>(∃ v,e=.returned v)∧J [] W':=by
 refine callsIn_of_wp Tryz.func257 rfl h7 ?_ hro;simp only [Tryz.ntmps257,List.size_toArray,List.length_cons,List.length_nil,Nat.reduceAdd,Nat.reduceSub,Array.replicate_succ,Array.replicate_zero,List.push_toArray,List.append_toArray,List.nil_append,List.cons_append]
 gi_wp2
 gi_loopw [7] (fun i wr=>i=.int .i64 0∧J [] wr) (fun _ _=>0)
 case atStart=>exact ⟨rfl,h0⟩
 case round =>
  obtain ⟨rfl,hJs⟩:=hrel
  gi_wp2
  go_end0
  exact ⟨⟨_,rfl⟩,hJs⟩
def StrsAt (n₀:Nat) (W:World) (A:Option Addr) (len:Nat) (zs:List ByteArray):Prop :=
 len=zs.length∧(zs=[]∨∃ b off,A=some ⟨b,off,none⟩∧b < n₀∧∀ j,j < zs.length→W.cell? ⟨b,off+j,none⟩=some (.string (zs[j]?.getD .empty)))
theorem StrsAt.below {n₀:Nat} {A B:World} (h:RowKit.Below n₀ A B) {a:Option Addr} {len:Nat} {zs:List ByteArray}:StrsAt n₀ A a len zs→StrsAt n₀ B a len zs
 | ⟨hl,.inl e⟩=>⟨hl,.inl e⟩
 | ⟨hl,.inr ⟨b,off,e,hb,hc⟩⟩=>⟨hl,.inr ⟨b,off,e,hb,fun j hj=>(h.cell (p:=⟨b,off+j,none⟩) hb).trans (hc j hj)⟩⟩
theorem values_stops (F:Fence) (n:Nat) (h7:F.fn 257) (hro:F.round=none) (hn:1≤n) (Bs n₀:Nat) (A:Option Addr) (len cap:Nat) (zs:List ByteArray) (hreach:zs.length*16≤140737488351232) (w:World) (hBs:Bs < w.heap.size) (hn₀:n₀≤w.heap.size)
  (hc:w.cell? ⟨Bs,0,none⟩=some (.slice A len cap)) (hI:StrsAt n₀ w A len zs) :
  SeqStopsK F n Tryz.prog 257 #[.pointer (some ⟨Bs,0,none⟩)] (fun x:ByteArray=>#[Value.string x]) (RowKit.Below n₀) (fun ys=>ys=zs) (fun pre=>pre <+: zs) zs.length w:=fun l J Jx W hW _ _ hY h0=>by
 have hc':=(hW.cell (p:=⟨Bs,0,none⟩) hBs).trans hc;obtain ⟨hl,h⟩:=hI.below (hW.mono hn₀);subst hl;by_cases hz:zs=[]
 ·subst hz;exact (values1_nil_in F n h7 hro l Bs cap A J W hc' h0).mono fun e W' ⟨he,hj⟩=>⟨he,.inl ⟨_,rfl,hj⟩⟩
 ·rcases h with h | ⟨b,off,rfl,hb,hcs⟩
  ·exact (hz h).elim
  ·refine (values1_in F n h7 hro hn l Bs n₀ b off zs.length cap zs hreach hb J Jx hY W hc' hcs h0).mono ?_;rintro e W' ⟨he,⟨ys,rfl,hj⟩ | ⟨pre,⟨k,hk,rfl⟩,hj⟩⟩
   ·exact ⟨he,.inl ⟨_,upto_all zs,hj⟩⟩
   ·exact ⟨he,.inr ⟨_,by rw [upto_take zs hk];exact List.take_prefix _ _,hj⟩⟩
theorem Values_any (w:World) (A:Option Addr) (n c:Nat):Calls Tryz.prog 183 #[.slice A n c] w fun e w'=>e=.returned (.func (.func 257) #[] #[.pointer (some ⟨w.heap.size,0,none⟩)])∧w'=w.alloc (.cells #[.slice A n c] 34):=by
 go_enter Tryz.func183,Tryz.ntmps183
 go_wp2;go_ret;exact ⟨rfl,rfl⟩
set_option maxRecDepth 100000 in
set_option maxHeartbeats 2000000 in
theorem AppendSeq_in (F:Fence) (n:Nat) (h3:F.fn 301) (h5:F.fn 257) (hro:F.round=none) (hn:3≤n) (Bs:Nat) (A:Option Addr) (len cap:Nat) (xs:List ByteArray) (hlen:xs.length≤maxLen) (hbytes:xs.length*16≤140737488351232) (w:World) (hBs:Bs < w.heap.size)
  (hc0:w.cell? ⟨Bs,0,none⟩=some (.slice A len cap)) (hL:StrsAt w.heap.size w A len xs) :
  CallsIn F n Tryz.prog 301 #[.slice none 0 0,.func (.func 257) #[] #[.pointer (some ⟨Bs,0,none⟩)]] w fun e W'=>∃ v,e=.returned v∧W'.ownsRow w.heap.size 9 1 v xs.length (xs.map Value.string)∧(v=.slice none 0 0↔xs=[])∧RowKit.Below w.heap.size w W':=by
 have h1:1≤n:=by omega
 obtain ⟨i0,hi,hz0,hz1,hz2⟩:=E_str.info;refine callsIn_of_wp_marks Tryz.func301 rfl h3 ?_ hro;simp only [Tryz.ntmps301,List.size_toArray,List.length_cons,List.length_nil,Nat.reduceAdd,Nat.reduceSub,Array.replicate_succ,Array.replicate_zero,List.push_toArray,List.append_toArray,List.nil_append,List.cons_append]
 gi_wp2
 have bO:=Boxed.new w 34 (.slice none 0 0);have hB0:RowKit.Below w.heap.size w (w.alloc (.cells #[.slice none 0 0] 34)):=(RowKit.Below.refl _ w).alloc (Nat.le_refl _) _;refine wpIn_rangeFunc_ownG hro h1 (gf:=257) (lb:=#[.pointer (some ⟨Bs,0,none⟩)]) rfl h5 (enters_of Tryz.func257 (by kernel_rfl) rfl)
  (values_stops F (n - 1) h5 hro (by omega) Bs w.heap.size A len cap xs hbytes _ (by simp;omega) (by simp) ((hB0.cell (p:=⟨Bs,0,none⟩) hBs).trans hc0) (hL.below hB0)) belowK_t (belowK_b (by simp)) (RowKit.Below.refl _ _) (fun _=>rfl)
  (fun pre W=>(∃ v,Boxed W w.heap.size 34 v∧W.ownsRow w.heap.size 9 1 v pre.length (pre.map Value.string)∧(v=.slice none 0 0↔pre=[]))∧RowKit.Below w.heap.size w W)
  (fun _ _ _=>False)
  (OwnFrom.and (Own.from (holdsRow_own w.heap.size w.heap.size 34 9 1 (fun pre=>pre.length) (fun pre=>pre.map Value.string) (fun pre v=>v=.slice none 0 0↔pre=[])) _) (ownFrom_below (Nat.le_refl _) (by simp)))
  (fun _ _ _ _ _ hs _ _=>hs)
  ⟨⟨_,bO,World.ownsRow_nil _ _ _ _,by simp⟩,hB0⟩
  (fun x=>{ tmps:=#[.slice none 0 0,.func (.func 257) #[] #[.pointer (some ⟨Bs,0,none⟩)],.pointer (some ⟨w.heap.size,0,none⟩),undef,.slice none 0 0,.string x,.func (.func 257) #[] #[.pointer (some ⟨Bs,0,none⟩)],.string x,undef,undef,undef,undef,undef],defers:=[] }) ?assign ?body ?done ?stop
 case assign =>
  intro l x W K hK
  gi_wp2
  exact hK
 case body =>
  rintro l pre x W ⟨⟨v,hv,hrow,hnil⟩,hB⟩ hlt;have hc:=hv.cell
  gi_wp2_with (gi_at_builtin;refine wpListIn_append_own _ rfl _ _ 34 rfl w.heap.size 9 i0 (.string .empty) 1 16 Tryz.underlying34 hi hz0 hz1 hz2 rfl (by decide) _ _ _ rfl (hrow.alloc _) ⟨W.heap.size,0,none⟩ 1 1 [.string x] rfl rfl (cell_one_new _ _ _) (by simp [Value.oneCell']) (by omega) (by omega) (by have:=hB.size;simp;omega) ?_;intro v' w1 hown' hgrow _;obtain ⟨g',cap',rfl⟩:=ownsRow_succ hown';obtain ⟨hv1,hv2,hr2,hk2,hb2⟩:=hv.appended (by decide) hrow hB.size (Nat.le_refl _) hown' hgrow;have hc1:=hv1.cell;have hf1:=hv1.frozen)
  exact ⟨hk2.from _,hb2,⟨_,hv2,by simpa using hr2,by simp⟩,hB.trans hb2⟩
 case done =>
  rintro D ys W hD rfl ⟨⟨v,hv,hrow,hnil⟩,hB⟩ hK;have hc:=hv.cell
  gi_wp2
  refine ⟨by simp,.inl ⟨_,_,rfl,run_takeDeferred hK,?_⟩⟩;exact ⟨_,results_tmp rfl _ _ _,v,rfl,ownsRow_putObj hrow _ hK rfl,hnil,hB.trans (belowK_b (w:=w) (Nat.le_refl _) W D _ _ (by simp at hD;omega) hK rfl rfl)⟩
 case stop =>
  rintro D c pre W _ _ h _;exact h.elim
end
section
open Go Go.RowKit Go.Sort
def chkB:Option Ser→List Ser→Nat
 | _,[]=>0
 | none,x::l=>if serE x≠0 then serE x else chkB (some x) l
 | some p,x::l=>if serE x≠0 then serE x else if cmpLs p.labs x.labs=0 then 19 else if cmpLs p.labs x.labs=1 then 16 else chkB (some x) l
def blkE (l:List Ser):Nat:=chkB none l
def prevS (l:List Ser) (k:Nat):Option Ser:=if k=0 then none else l[k - 1]?
theorem chkB_err {p:Option Ser} {x:Ser} {l:List Ser} (h:serE x≠0):chkB p (x::l)=serE x:=by
 cases p with
 | none=>show (if serE x≠0 then serE x else _)=_;rw [if_pos h]
 | some p=>show (if serE x≠0 then serE x else _)=_;rw [if_pos h]
theorem chkB_fst {x:Ser} {l:List Ser} (h:serE x=0):chkB none (x::l)=chkB (some x) l:=by
 show (if serE x≠0 then serE x else _)=_
 rw [if_neg (by simp [h])]
theorem chkB_nxt {p x:Ser} {l:List Ser} (h:serE x=0):chkB (some p) (x::l)=if cmpLs p.labs x.labs=0 then 19 else if cmpLs p.labs x.labs=1 then 16 else chkB (some x) l:=by
 show (if serE x≠0 then serE x else _)=_
 rw [if_neg (by simp [h])]
theorem prevS_succ {l:List Ser} {k:Nat} (h:k < l.length):prevS l (k+1)=some l[k]:=by
 unfold prevS;rw [if_neg (by omega),Nat.add_sub_cancel,List.getElem?_eq_getElem h]
theorem rd_two {w:World} {b o:Nat} {y x:Ser} (hb:b < w.heap.size) (h0:w.cell? ⟨b,o,none⟩=some (.slice y.al y.labs.length y.cl)) (h1:w.cell? ⟨b,o+1,none⟩=some (.slice y.as_ y.smps.length y.cs))
  (h2:w.cell? ⟨b,o+2,none⟩=some (.slice x.al x.labs.length x.cl)) (h3:w.cell? ⟨b,o+3,none⟩=some (.slice x.as_ x.smps.length x.cs)):Rd w b (some ⟨b,o,none⟩) (cR [y,x]) :=
 .inr ⟨o,rfl,hb,fun j u hu=>by
  match j,hu with
  | 0,hu=>obtain rfl:_=u:=by simpa [cR,c2] using hu
          exact h0
  | 1,hu=>obtain rfl:_=u:=by simpa [cR,c2] using hu
          exact h1
  | 2,hu=>obtain rfl:_=u:=by simpa [cR,c2] using hu
          exact h2
  | 3,hu=>obtain rfl:_=u:=by simpa [cR,c2] using hu
          exact h3
  | j+4,hu=>simp [cR,c2] at hu⟩
theorem rd_one {w:World} {b o:Nat} {x:Ser} (hb:b < w.heap.size) (h0:w.cell? ⟨b,o,none⟩=some (.slice x.al x.labs.length x.cl)) (h1:w.cell? ⟨b,o+1,none⟩=some (.slice x.as_ x.smps.length x.cs)):Rd w b (some ⟨b,o,none⟩) (cR [x]) :=
 .inr ⟨o,rfl,hb,fun j u hu=>by
  match j,hu with
  | 0,hu=>obtain rfl:_=u:=by simpa [cR,c2] using hu
          exact h0
  | 1,hu=>obtain rfl:_=u:=by simpa [cR,c2] using hu
          exact h1
  | j+2,hu=>simp [cR,c2] at hu⟩
theorem le_sum {l:List Ser} {s:Ser} (h:s∈l):s.smps.length≤smpSum l:=by
 induction l with
 | nil=>cases h
 | cons x l ih =>
  show _≤((x::l).map _).sum
  rw [List.map_cons,List.sum_cons];rcases List.mem_cons.1 h with rfl | h
  ·omega
  ·have:=ih h;unfold smpSum at this;omega
set_option maxRecDepth 100000 in
set_option maxHeartbeats 1600000 in
theorem Check_any (w:World) (b:Nat) (A:Option Addr) (n c:Nat) (l:List Ser) (hI:InSer w b A n c l) (hs:smpSum l≤100000) (hn:n≤100000) (hL:∀ s∈l,s.labs.length≤1000000) :
  Calls Tryz.prog 52 #[.slice A n c] w fun e w'=>e=.returned (.int .i64 (blkE l:Nat))∧Nw w w':=by
 have HK:=hid (mcheck_any w b A n c l hI hs hn);have hl:=hI.len;subst hl;have HR:=hid hI.rd;have hcap:=hI.cap;have hmax:=hI.max;have HOK:=hid fun s (h:s∈l)=>And.intro (hI.ok s h) (And.intro (hL s h) (show s.smps.length≤1000000 from by have:=le_sum h;omega))
 obtain ⟨C,hC⟩:∃ C,blkE l=C:=⟨_,rfl⟩;rw [hC];have HC:=hid hC;clear hI hC hs hL;go_enter Tryz.func52,Tryz.ntmps52
 go_wp2_with (go_at_call 100;refine HK.out.mono ?_;rintro e w1 ⟨rfl,hN1⟩)
 have HN1:=hid hN1;clear hN1;go_loopw [15] (fun i wr=>∃ k:Nat,k≤l.length∧i=.int .i64 k∧Hid (C=chkB (prevS l k) (l.drop k))∧Hid (Nw w wr)) (fun i _=>l.length - (intOf i).toNat)
 case atStart=>exact ⟨0,by omega,rfl,hid (by rw [← HC.out];rfl),HN1⟩
 case round =>
  obtain ⟨k,hk,rfl,HX,HN⟩:=hrel;by_cases hlt:k < l.length
  ·have hltI:(k:Int) < (l.length:Int):=by omega
   obtain ⟨o,rfl,hbw,hc0,hc1⟩:=two_at (HR.out.nw HN.out) hlt;have hX:=HX.out;rw [drop_cons hlt] at hX;have HPX:=hid (prevS_succ hlt);have HPV:=hid fun (h:k - 1 < l.length)=>two_at (HR.out.nw HN.out) h
   have HOx:=hid (HOK.out l[k] (List.getElem_mem hlt));generalize l[k]=x at *;have HS:=hid fun W (hN:Nw wr W)=>singleSer_any W x ((HOx.out.1.nw HN.out).nw hN) HOx.out.2.1 HOx.out.2.2
   obtain ⟨E,hE⟩:∃ E,serE x=E:=⟨_,rfl⟩;rw [hE] at HS;have HE:=hid hE;have hNA:Nw wr (wr.alloc (.cells #[.slice x.al x.labs.length x.cl,.slice x.as_ x.smps.length x.cs] 80)):=(Nw.refl wr).alloc' _;clear hE;by_cases hE0:E=0
   ·have hE1:((E:Int) != 0)=false:=by rw [bne_eq_false_iff_eq];omega
    have HE0:=hid (HE.out.trans hE0);by_cases hk0:k=0
    ·subst hk0;rw [show prevS l 0=none from rfl,chkB_fst HE0.out] at hX;have HX2:=hid hX;simp only [Nat.zero_mul,Nat.add_zero] at hc0 hc1;have HOz:=hid fun W (hN:Nw wr W)=>(show ∀ s∈[x],SerOk W s∧s.labs.length≤1000000 from by
      intro s hs;obtain rfl:s=x:=List.mem_singleton.1 hs;exact ⟨(HOx.out.1.nw HN.out).nw hN,HOx.out.2.1⟩)
     have HA:=hid fun W (hN:Nw wr W)=>ascR_any W b (some ⟨b,o,none⟩) 1 c [x] rfl (by omega) (rd_one (Nat.lt_of_lt_of_le hbw hN.size) (cell_old hN hbw hc0) (cell_old hN hbw hc1)) (HOz.out W hN)
     rw [show asE [x]=0 from rfl] at HA;have i1:¬ (c=0):=by omega
     have i2:(1:Int)≤(c:Int):=by omega
     clear hX HX;go_wp2_with (first
      | (go_at_call 102;refine (HA.out _ (hNA.trans hN3)).mono ?_;rintro e w4 ⟨rfl,hN4⟩)
      | (go_at_call 101;refine (HS.out _ hNA).mono ?_;rintro e w3 ⟨rfl,hN3⟩))
     go_roundw
     case rel=>exact ⟨1,by omega,by go_num,by rw [HPX.out];exact HX2,hid (HN.out.trans ((hNA.trans hN3).trans hN4))⟩
     case measure=>simp [intOf];omega
    ·obtain ⟨m,rfl⟩:∃ m,k=m+1:=⟨k - 1,by omega⟩;obtain ⟨o',e',_,hp0,hp1⟩:=HPV.out (by omega);obtain rfl:o'=o:=by injection e' with e';injection e' with _ e' _;exact e'.symm
     have HOy:=hid (HOK.out l[m+1 - 1] (List.getElem_mem (by omega)));have HPP:=hid (prevS_succ (show m < l.length by omega));simp only [Nat.add_sub_cancel] at hp0 hp1 HOy;generalize l[m]=y at *;rw [HPP.out,chkB_nxt HE0.out] at hX;rw [show o'+(m+1)*2=o'+m*2+2 by omega] at hc0 hc1;have hF:C=if asE [y,x]≠0 then asE [y,x] else chkB (some x) (l.drop (m+1+1)):=by
      rw [hX,show asE [y,x]=if cmpLs y.labs x.labs=0 then 19 else if cmpLs y.labs x.labs=1 then 16 else 0 from rfl];rcases cmpLs_in y.labs x.labs with h | h | h<;>rw [h]<;>rfl
     have HOz:=hid fun W (hN:Nw wr W)=>(show ∀ s∈[y,x],SerOk W s∧s.labs.length≤1000000 from by
      intro s hs;rcases List.mem_cons.1 hs with rfl | hs
      ·exact ⟨(HOy.out.1.nw HN.out).nw hN,HOy.out.2.1⟩
      ·obtain rfl:s=x:=List.mem_singleton.1 hs;exact ⟨(HOx.out.1.nw HN.out).nw hN,HOx.out.2.1⟩)
     have HA:=hid fun W (hN:Nw wr W)=>ascR_any W b (some ⟨b,o'+m*2,none⟩) 2 (c - m) [y,x] rfl (by omega) (rd_two (Nat.lt_of_lt_of_le hbw hN.size) (cell_old hN hbw hp0) (cell_old hN hbw hp1) (cell_old hN hbw hc0) (cell_old hN hbw hc1)) (HOz.out W hN)
     obtain ⟨F,hFF⟩:∃ F,asE [y,x]=F:=⟨_,rfl⟩;rw [hFF] at hF HA;have i1:¬ (c=m):=by omega
     have i2:(m:Int)+1+1≤(c:Int):=by omega
     have i3:IntKind.i64.wrap (m:Int)=(m:Int):=IntWalk.i64_in _ (by omega);have i4:¬ ((m:Int) < 0):=by omega
     have i5:IntKind.i64.wrap ((m:Int)+1+1)=(m:Int)+1+1:=IntWalk.i64_in _ (by omega);have i6:((m:Int)+1+1).toNat=m+2:=by omega
     rw [show ((m+1:Nat):Int)=(m:Int)+1 from by push_cast;rfl] at hltI ⊢;have i7:(0:Int)≤(m:Int)+1:=by omega
     have i8:((m:Int)+1).toNat=m+1:=by omega
     have i9:(m:Int)≤(m:Int)+1+1:=by omega
     have i10:(0:Int)≤(m:Int)+1+1:=by omega
     rw [show o'+m*2+2=o'+(m+1)*2 by omega] at hc0 hc1;clear hX HX hFF;by_cases hF0:F=0
     ·have hF1:((F:Int) != 0)=false:=by rw [bne_eq_false_iff_eq];omega
      rw [if_neg (by simp [hF0])] at hF;have HX2:=hid hF;clear hF;go_wp2_with (first
       | (go_at_call 102;refine (HA.out _ (hNA.trans hN3)).mono ?_;rintro e w4 ⟨rfl,hN4⟩)
       | (go_at_call 101;refine (HS.out _ hNA).mono ?_;rintro e w3 ⟨rfl,hN3⟩))
      go_roundw
      case rel=>exact ⟨m+1+1,by omega,by go_num,by rw [HPX.out];exact HX2,hid (HN.out.trans ((hNA.trans hN3).trans hN4))⟩
      case measure=>simp [intOf];omega
     ·have hF1:((F:Int) != 0)=true:=by rw [bne_iff_ne];omega
      rw [if_pos hF0] at hF;have HX2:=hid hF;clear hF;go_wp2_with (first
       | (go_at_call 102;refine (HA.out _ (hNA.trans hN3)).mono ?_;rintro e w4 ⟨rfl,hN4⟩)
       | (go_at_call 101;refine (HS.out _ hNA).mono ?_;rintro e w3 ⟨rfl,hN3⟩))
      go_ret;rw [HX2.out];exact ⟨rfl,HN.out.trans ((hNA.trans hN3).trans hN4)⟩
   ·have hE1:((E:Int) != 0)=true:=by rw [bne_iff_ne];omega
    have HX2:=hid (show C=E from by rw [hX,chkB_err (by rw [HE.out];exact hE0),HE.out]);clear hX HX;go_wp2_with (go_at_call 101;refine (HS.out _ hNA).mono ?_;rintro e w3 ⟨rfl,hN3⟩)
    go_ret;rw [HX2.out];exact ⟨rfl,HN.out.trans (hNA.trans hN3)⟩
  ·obtain rfl:k=l.length:=by omega
   have hX:=HX.out;rw [List.drop_length] at hX;have HX2:=hid (show C=0 from by rw [hX];cases prevS l l.length<;>rfl);go_wp2;go_ret;rw [HX2.out];exact ⟨rfl,HN.out⟩
set_option maxRecDepth 100000 in
set_option maxHeartbeats 3200000 in
theorem RCheck_any (w:World) (b:Nat) (A:Option Addr) (n c:Nat) (l:List Ser) (hI:InSer w b A n c l) (hs:smpSum l≤100000) (hn:n≤100000) (hL:∀ s∈l,s.labs.length≤1000000) :
  Calls Tryz.prog 16 #[.slice A n c] w fun e w'=>e=.returned (.int .i64 (blkE l:Nat))∧Nw w w':=by
 have HK:=hid (large_any w b A n c l hI hs hn);have hl:=hI.len;subst hl;have HR:=hid hI.rd;have HOK:=hid fun s (h:s∈l)=>And.intro (hI.ok s h) (And.intro (hL s h) (show s.smps.length≤1000000 from by have:=le_sum h;omega))
 obtain ⟨C,hC⟩:∃ C,blkE l=C:=⟨_,rfl⟩;rw [hC];have HC:=hid hC;clear hI hC hs hL;go_enter Tryz.func16,Tryz.ntmps16
 go_wp2_with (go_at_call 47;refine HK.out.mono ?_;rintro e w1 ⟨rfl,hw1⟩;subst hw1)
 clear HK;go_loopw [3] (fun i wr=>∃ k:Nat,k≤l.length∧i=.int .i64 k∧Hid (C=chkB (prevS l k) (l.drop k))∧Hid (Nw w wr)) (fun i _=>l.length - (intOf i).toNat)
 case atStart=>exact ⟨0,by omega,rfl,hid (by rw [← HC.out];rfl),hid (Nw.refl _)⟩
 case round =>
  obtain ⟨k,hk,rfl,HX,HN⟩:=hrel;by_cases hlt:k < l.length
  ·have hltI:(k:Int) < (l.length:Int):=by omega
   obtain ⟨o,rfl,hbw,hc0,hc1⟩:=two_at (HR.out.nw HN.out) hlt;have hX:=HX.out;rw [drop_cons hlt] at hX;have HPX:=hid (prevS_succ hlt);have HPV:=hid fun (h:k - 1 < l.length)=>two_at (HR.out.nw HN.out) h
   have HOx:=hid (HOK.out l[k] (List.getElem_mem hlt));generalize l[k]=x at *;have HCE:=hid fun W (hN:Nw wr W)=>And.intro (cell_old hN hbw hc0) (cell_old hN hbw hc1)
   have HS:=hid fun W (hN:Nw wr W)=>RCheckL_any W x.bl x.al x.labs.length x.cl x.labs rfl HOx.out.2.1 ((HOx.out.1.1.rd.nw HN.out).nw hN)
   have HT:=hid fun W (hN:Nw wr W)=>times_any W x.bs x.as_ x.smps.length x.cs x.smps rfl HOx.out.2.2 ((HOx.out.1.2.rd.nw HN.out).nw hN)
   have HE:=hid (show serE x=if chkL x.labs≠0 then chkL x.labs else if x.smps.length=0 then 21 else tmE x.smps from rfl);obtain ⟨E1,hE1⟩:∃ E,chkL x.labs=E:=⟨_,rfl⟩;obtain ⟨E2,hE2⟩:∃ E,tmE x.smps=E:=⟨_,rfl⟩;rw [hE1] at HS HE;rw [hE2] at HT HE;clear hE1 hE2;by_cases h1:E1=0
   ·by_cases h2:x.smps.length=0
    ·have hE:=HE.out;rw [if_neg (by simp [h1]),if_pos h2] at hE;have HX2:=hid (show C=21 from by rw [hX,chkB_err (by rw [hE];decide),hE]);have h1b:((E1:Int) == 0)=true:=by rw [beq_iff_eq];omega
     have h2b:((x.smps.length:Int) == 0)=true:=by rw [beq_iff_eq];omega
     clear hX HX hE h2;go_wp2_with (go_at_call 48;refine (HS.out _ (Nw.refl _)).mono ?_;rintro e w3 ⟨rfl,hN3⟩;obtain ⟨d0,d1⟩:=HCE.out _ hN3)
     go_ret;rw [HX2.out];exact ⟨rfl,HN.out.trans hN3⟩
    ·have h1b:((E1:Int) == 0)=true:=by rw [beq_iff_eq];omega
     have h2b:((x.smps.length:Int) == 0)=false:=by rw [beq_eq_false_iff_ne];omega
     have hE:=HE.out;rw [if_neg (by simp [h1]),if_neg h2] at hE;by_cases h3:E2=0
     ·have h3b:((E2:Int) != 0)=false:=by rw [bne_eq_false_iff_eq];omega
      have hE0:=hE.trans h3;by_cases hk0:k=0
      ·subst hk0;rw [show prevS l 0=none from rfl,chkB_fst hE0] at hX;have HX2:=hid hX;simp only [Nat.zero_mul,Nat.add_zero] at hc0 hc1 HCE;clear hX HX hE hE0;go_wp2_with (first
        | (go_at_call 49;refine (HT.out _ hN3).mono ?_;rintro e w4 ⟨rfl,hD⟩;have hN4:=hN3.trans hD.nw)
        | (go_at_call 48;refine (HS.out _ (Nw.refl _)).mono ?_;rintro e w3 ⟨rfl,hN3⟩;obtain ⟨d0,d1⟩:=HCE.out _ hN3))
       go_roundw
       case rel=>exact ⟨1,by omega,by go_num,by rw [HPX.out];exact HX2,hid (HN.out.trans hN4)⟩
       case measure=>simp [intOf];omega
      ·obtain ⟨m,rfl⟩:∃ m,k=m+1:=⟨k - 1,by omega⟩;obtain ⟨o',e',_,hp0,hp1⟩:=HPV.out (by omega);obtain rfl:o'=o:=by injection e' with e';injection e' with _ e' _;exact e'.symm
       have HOy:=hid (HOK.out l[m+1 - 1] (List.getElem_mem (by omega)));have HPP:=hid (prevS_succ (show m < l.length by omega));simp only [Nat.add_sub_cancel] at hp0 hp1 HOy;generalize l[m]=y at *;rw [HPP.out,chkB_nxt hE0] at hX;have HCP:=hid fun W (hN:Nw wr W)=>cell_old hN hbw hp0
       have HB:=hid fun W (hN:Nw wr W)=>RCompareL_any W y.bl x.bl y.al x.al y.labs.length y.cl x.labs.length x.cl y.labs x.labs rfl rfl HOy.out.2.1 HOx.out.2.1 ((HOy.out.1.1.rd.nw HN.out).nw hN) ((HOx.out.1.1.rd.nw HN.out).nw hN)
       obtain ⟨s,hs⟩:∃ s,cmpLs y.labs x.labs=s:=⟨_,rfl⟩;have hsin:=cmpLs_in y.labs x.labs;rw [hs] at hX HB hsin;have HXX:=hid hX;rw [show ((m+1:Nat):Int)=(m:Int)+1 from by push_cast;rfl] at hltI ⊢;have i1:(0:Int) < (m:Int)+1:=by omega
       have i2:(m:Int) < (l.length:Int):=by omega
       have i3:IntKind.i64.wrap (m:Int)=(m:Int):=IntWalk.i64_in _ (by omega);have i7:(0:Int)≤(m:Int)+1:=by omega
       have i8:((m:Int)+1).toNat=m+1:=by omega
       clear hX HX hE hE0 hs;go_wp2_with (first
        | (go_at_call 49;refine (HT.out _ hN3).mono ?_;rintro e w4 ⟨rfl,hD⟩;have hN4:=hN3.trans hD.nw)
        | (go_at_call 48;refine (HS.out _ (Nw.refl _)).mono ?_;rintro e w3 ⟨rfl,hN3⟩;obtain ⟨d0,d1⟩:=HCE.out _ hN3))
       have hb4:b < w4.heap.size:=Nat.lt_of_lt_of_le hbw hN4.size;obtain ⟨g0,_⟩:=HCE.out _ hN4;have q0:∀ p':Gp,(grow (w4.drewN p'.n) p'.os).cell? ⟨b,o'+m*2,none⟩=some (.slice y.al y.labs.length y.cl):=cell_gr hb4 (HCP.out _ hN4);have q1:∀ p':Gp,(grow (w4.drewN p'.n) p'.os).cell? ⟨b,o'+(m+1)*2,none⟩=some (.slice x.al x.labs.length x.cl):=cell_gr hb4 g0;have HN4:=hid hN4;clear d0 d1 hc0 hc1 hp0 hp1 g0 hN4 hN3;refine wp_region_gr (by kernel_rfl) (by kernel_rfl) ?_
       repeat (go_big_quiet_step (first | (go_at_call 50;refine Calls.gr ((HB.out _ (HN4.out.trans (Gr.nw ⟨_,rfl⟩))).mono fun _ _ h=>⟨h.1,Gr.of_dr h.2⟩))))
       refine wpQuiet_nil ?_;rintro _ ⟨p',rfl⟩;have HNz:=hid (HN.out.trans (HN4.out.trans (Gr.nw ⟨p',rfl⟩:Nw w4 _)));rcases hsin with rfl | rfl | rfl
       ·have HX3:=hid (show C=chkB (some x) (l.drop (m+1+1)) from by rw [HXX.out];rfl);go_wp2_with fail;go_roundw
        case rel=>exact ⟨m+1+1,by omega,by go_num,by rw [HPX.out];exact HX3,HNz⟩
        case measure=>simp [intOf];omega
       ·have HX3:=hid (show C=19 from by rw [HXX.out];rfl);go_wp2_with fail;go_ret;rw [HX3.out];exact ⟨rfl,HNz.out⟩
       ·have HX3:=hid (show C=16 from by rw [HXX.out];rfl);go_wp2_with fail;go_ret;rw [HX3.out];exact ⟨rfl,HNz.out⟩
     ·have h3b:((E2:Int) != 0)=true:=by rw [bne_iff_ne];omega
      have HX2:=hid (show C=E2 from by rw [hX,chkB_err (by rw [hE];exact h3),hE]);clear hX HX hE;go_wp2_with (first
       | (go_at_call 49;refine (HT.out _ hN3).mono ?_;rintro e w4 ⟨rfl,hD⟩;have hN4:=hN3.trans hD.nw)
       | (go_at_call 48;refine (HS.out _ (Nw.refl _)).mono ?_;rintro e w3 ⟨rfl,hN3⟩;obtain ⟨d0,d1⟩:=HCE.out _ hN3))
      go_ret;rw [HX2.out];exact ⟨rfl,HN.out.trans hN4⟩
   ·have h1b:((E1:Int) == 0)=false:=by rw [beq_eq_false_iff_ne];omega
    have h1c:((E1:Int) != 0)=true:=by rw [bne_iff_ne];omega
    have hE:=HE.out;rw [if_pos h1] at hE;have HX2:=hid (show C=E1 from by rw [hX,chkB_err (by rw [hE];exact h1),hE]);clear hX HX hE;go_wp2_with (go_at_call 48;refine (HS.out _ (Nw.refl _)).mono ?_;rintro e w3 ⟨rfl,hN3⟩;obtain ⟨d0,d1⟩:=HCE.out _ hN3)
    go_ret;rw [HX2.out];exact ⟨rfl,HN.out.trans hN3⟩
  ·obtain rfl:k=l.length:=by omega
   have hX:=HX.out;rw [List.drop_length] at hX;have HX2:=hid (show C=0 from by rw [hX];cases prevS l l.length<;>rfl);go_wp2;go_ret;rw [HX2.out];exact ⟨rfl,HN.out⟩
end
section
open Go Go.RowKit Go.Sort
theorem gdSmp (op:BinOp) (x y:Operand) (xs ys:Array Value) (w:World):(eqGuard op 126 x y (.agg xs) (.agg ys)).run Tryz.prog w=.ok () w:=run_eqGuard_agg w op _ x y xs ys (by kernel_rfl)
theorem run_part {P:Program} {t:TypeId} {cs:Array Value} {k:Nat} {v:Value} (w:World) (h:∀ w,(isAgg t).run P w=.ok false w) (hc:cs[k]? = some v):(part t cs k).run P w=.ok v w:=by
 unfold part;simp [h,hc]
theorem aggI (w:World):(isAgg 2).run Tryz.prog w=.ok false w:=by kernel_rfl
theorem aggU (w:World):(isAgg 106).run Tryz.prog w=.ok false w:=by kernel_rfl
theorem two_list {α β:Type} {f:α→β} {l:List α} {x y:β} (h:l.map f=[x,y]):∃ p q,l=[p,q]∧f p=x∧f q=y:=by
 match l,h with
 | [p,q],h=>simp only [List.map_cons,List.map_nil,List.cons.injEq,and_true] at h;exact ⟨p,q,rfl,h.1,h.2⟩
 | [],h=>simp at h
 | [_],h=>simp at h
 | _::_::_::_,h=>simp at h
theorem neqSmp (a c:Int) (b d:Nat) (w:World):(binOp .neq 126 (.agg #[.int .i64 a,.int .u64 (b:Int)]) (.agg #[.int .i64 c,.int .u64 (d:Int)])).run Tryz.prog w=.ok (.bool (!(a == c && (b:Int) == (d:Int)))) w:=by
 have hf:(Tryz.prog.fieldsOf 126).toList.map (fun f=>(f.name,f.type,f.offset))=[("T",2,0),("V",106,1)]:=by kernel_rfl
 rw [run_neq_struct,run_equalIn_agg w 9999 _ _ _ (by kernel_rfl) (by kernel_rfl)];generalize (Tryz.prog.fieldsOf 126).toList=fs at *;obtain ⟨f1,f2,rfl,e1,e2⟩:=two_list hf;simp only [Prod.mk.injEq] at e1 e2;obtain ⟨h1,h2,h3⟩:=e1;obtain ⟨h4,h5,h6⟩:=e2;simp only [Op.eqFields,h1,h2,h3,h4,h5,h6];simp [run_part _ aggI,run_part _ aggU,run_equalIn_int w 9998 2 _ _ _ _ Tryz.underlying2,run_equalIn_int w 9998 106 _ _ _ _ Tryz.underlying106];by_cases h:a=c<;>by_cases g:(b:Int)=(d:Int)<;>simp [h,g]
end
section
open Go Go.RowKit Go.Sort
theorem drop_ends {α:Type} {l1 l2:List α} {k:Nat} (hn:l1.length=l2.length) (h:l1.length≤k):l1.drop k=l2.drop k:=by
 rw [List.drop_eq_nil_of_le h,List.drop_eq_nil_of_le (by omega)]
def Says (e:Ending) (p:Prop):Prop:=∃ r:Bool,e=.returned (.bool r)∧(r=true↔p)
theorem Says.yes {p:Prop} (h:p):Says (.returned (.bool true)) p:=⟨true,rfl,by simp [h]⟩
theorem Says.no {p:Prop} (h:¬ p):Says (.returned (.bool false)) p:=⟨false,rfl,by simp [h]⟩
set_option maxRecDepth 100000 in
set_option maxHeartbeats 1600000 in
theorem Same_any (w:World) (b1 b2:Nat) (A1 A2:Option Addr) (n1 c1 n2 c2:Nat) (l1 l2:List Smpl) (hn1:n1=l1.length) (hn2:n2=l2.length) (hm1:n1≤1000000) (hm2:n2≤1000000) (hr1:Rd w b1 A1 (cS l1)) (hr2:Rd w b2 A2 (cS l2)) :
  Calls Tryz.prog 43 #[.slice A1 n1 c1,.slice A2 n2 c2] w fun e w'=>Says e (l1=l2)∧Gr w w':=by
 subst hn1 hn2;have HR1:=hid hr1;have HR2:=hid hr2;clear hr1 hr2;by_cases hlen:l1.length=l2.length
 ·have HLN:=hid hlen;have hlI:((l1.length:Int) != (l2.length:Int))=false:=by rw [bne_eq_false_iff_eq];omega
  go_enter Tryz.func43,Tryz.ntmps43
  go_wp2;go_loopw [5] (fun i wr=>∃ k:Nat,k≤l1.length∧i=.int .i64 k∧Hid (l1=l2↔l1.drop k=l2.drop k)∧Hid (Gr w wr)) (fun i _=>l1.length - (intOf i).toNat)
  case atStart=>exact ⟨0,by omega,rfl,hid (by simp),hid (Gr.refl _)⟩
  case round =>
   obtain ⟨k,hk,rfl,HX,HD⟩:=hrel;by_cases hlt:k < l1.length
   ·have hltI:(k:Int) < (l1.length:Int):=by omega
    have hltJ:(k:Int) < (l2.length:Int):=by omega
    obtain ⟨o1,rfl,hb1,hc0,hc1⟩:=two_at (HR1.out.nw HD.out.nw) hlt;obtain ⟨o2,rfl,hb2,hd0,hd1⟩:=two_at (HR2.out.nw HD.out.nw) (show k < l2.length by omega);have hX:=HX.out;rw [drop_cons hlt,drop_cons (show k < l2.length by omega)] at hX;have HX2:=hid hX;generalize l1[k]=x at *;generalize l2[k]=y at *;obtain ⟨a,d⟩:=x;obtain ⟨p,r⟩:=y;dsimp only at hc0 hc1 hd0 hd1;have q0:∀ p':Gp,(grow (wr.drewN p'.n) p'.os).cell? ⟨b1,o1+k*2,none⟩=some (.int .i64 a):=cell_gr hb1 hc0;have q1:∀ p':Gp,(grow (wr.drewN p'.n) p'.os).cell? ⟨b1,o1+k*2+1,none⟩=some (.int .u64 (d:Int)):=cell_gr hb1 hc1;have q2:∀ p':Gp,(grow (wr.drewN p'.n) p'.os).cell? ⟨b2,o2+k*2,none⟩=some (.int .i64 p):=cell_gr hb2 hd0;have q3:∀ p':Gp,(grow (wr.drewN p'.n) p'.os).cell? ⟨b2,o2+k*2+1,none⟩=some (.int .u64 (r:Int)):=cell_gr hb2 hd1;have nq:=fun W=>neqSmp a p d r W
    have gq:=fun W=>gdSmp .neq (.tmp 20) (.tmp 24) #[.int .i64 a,.int .u64 (d:Int)] #[.int .i64 p,.int .u64 (r:Int)] W
    obtain ⟨B,hB⟩:∃ B,(a == p && (d:Int) == (r:Int))=B:=⟨_,rfl⟩;rw [hB] at nq;have HB:=hid hB;clear hX HX hlen hB hc0 hc1 hd0 hd1;cases B with
    | false =>
     have HNE:=hid (show ¬ l1=l2 from by
      intro h;have h2:=HX2.out.1 h;injection h2 with h2 _
      injection h2 with h3 h4
      have h5:=HB.out;subst h3 h4;simp at h5)
     go_wp2_with fail;refine wp_region_gr (by kernel_rfl) (by kernel_rfl) ?_
     repeat (go_big_quiet_step (first | fail))
     refine wpQuiet_nil ?_;rintro _ ⟨p',rfl⟩;have HDz:=hid (HD.out.trans (⟨p',rfl⟩:Gr wr _));go_wp2_with fail;go_ret;exact ⟨Says.no HNE.out,HDz.out⟩
    | true =>
     have HEQ:=hid (show l1=l2↔l1.drop (k+1)=l2.drop (k+1) from by
      have h5:=HB.out;simp only [Bool.and_eq_true,beq_iff_eq] at h5;obtain ⟨rfl,h4⟩:=h5;obtain rfl:d=r:=by omega
      rw [HX2.out];simp)
     go_wp2_with fail;refine wp_region_gr (by kernel_rfl) (by kernel_rfl) ?_
     repeat (go_big_quiet_step (first | fail))
     refine wpQuiet_nil ?_;rintro _ ⟨p',rfl⟩;have HDz:=hid (HD.out.trans (⟨p',rfl⟩:Gr wr _));go_wp2_with fail;go_roundw
     case rel=>exact ⟨k+1,by omega,by go_num,HEQ,HDz⟩
     case measure=>simp [intOf];omega
   ·have HEQ:=hid (show l1=l2 from HX.out.2 (drop_ends HLN.out (by omega)));have hltI:¬ (k:Int) < (l1.length:Int):=by omega
    have hltJ:¬ (k:Int) < (l2.length:Int):=by omega
    go_wp2;go_ret;exact ⟨Says.yes HEQ.out,HD.out⟩
 ·have HLN:=hid hlen;have hlI:((l1.length:Int) != (l2.length:Int))=true:=by rw [bne_iff_ne];omega
  go_enter Tryz.func43,Tryz.ntmps43
  go_wp2;go_ret;exact ⟨Says.no fun h=>HLN.out (by rw [h]),Gr.refl _⟩
end
section
open Go Go.RowKit Go.Sort
theorem Says.tt {e:Ending} {p:Prop} (h:Says e p) (hp:p):e=.returned (.bool true):=by
 obtain ⟨r,rfl,hr⟩:=h;rw [hr.2 hp]
theorem Says.ff {e:Ending} {p:Prop} (h:Says e p) (hp:¬ p):e=.returned (.bool false):=by
 obtain ⟨r,rfl,hr⟩:=h;cases r with
 | false=>rfl
 | true=>exact (hp (hr.1 rfl)).elim
abbrev valS (s:Ser):List Lab × List Smpl:=(s.labs,s.smps)
abbrev Small (s:Ser):Prop:=s.labs.length≤1000000∧s.smps.length≤1000000
theorem cmpLs_zero:∀ a b:List Lab,cmpLs a b=0↔a=b:=by
 intro a;induction a with
 | nil =>
  intro b;cases b with
  | nil=>exact ⟨fun _=>rfl,fun _=>rfl⟩
  | cons y b =>
   have e:cmpLs [] (y::b) = -1:=rfl;rw [e];simp
 | cons x a ih =>
  intro b;cases b with
  | nil =>
   have e:cmpLs (x::a) []=1:=rfl;rw [e];simp
  | cons y b =>
   have e:cmpLs (x::a) (y::b)=if cmpL x y≠0 then cmpL x y else cmpLs a b:=rfl
   have z:cmpL x y=0↔x=y:=by
    unfold cmpL;by_cases h:cmpS x.1 y.1=0
    ·rw [if_neg (by simp [h]),cmpS_zero];have:=cmpS_zero.1 h;constructor
     ·intro h2;exact Prod.ext this h2
     ·intro h2;rw [h2]
    ·rw [if_pos h];exact ⟨fun h2=>(h h2).elim,fun h2=>(h (cmpS_zero.2 (by rw [h2]))).elim⟩
   rw [e];by_cases h:cmpL x y=0
   ·rw [if_neg (by simp [h]),ih b,z.1 h];simp
   ·rw [if_pos h];exact ⟨fun h2=>(h h2).elim,fun h2=>by injection h2 with h3 _;exact (h (z.2 h3)).elim⟩
set_option maxRecDepth 100000 in
set_option maxHeartbeats 3200000 in
theorem REqual_any (w:World) (b1 b2:Nat) (A1 A2:Option Addr) (n1 c1 n2 c2:Nat) (l1 l2:List Ser) (hn1:n1=l1.length) (hn2:n2=l2.length) (hm1:n1≤1000000) (hm2:n2≤1000000) (hr1:Rd w b1 A1 (cR l1)) (hr2:Rd w b2 A2 (cR l2)) (hk1:∀ s∈l1,SerOk w s∧Small s) (hk2:∀ s∈l2,SerOk w s∧Small s) :
  Calls Tryz.prog 24 #[.slice A1 n1 c1,.slice A2 n2 c2] w fun e w'=>Says e (l1.map valS=l2.map valS)∧Nw w w':=by
 subst hn1 hn2;have HR1:=hid hr1;have HR2:=hid hr2;have HK1:=hid hk1;have HK2:=hid hk2;clear hr1 hr2 hk1 hk2;by_cases hlen:l1.length=l2.length
 ·have HLN:=hid hlen;have hlI:((l1.length:Int) != (l2.length:Int))=false:=by rw [bne_eq_false_iff_eq];omega
  go_enter Tryz.func24,Tryz.ntmps24
  go_wp2;go_loopw [5] (fun i wr=>∃ k:Nat,k≤l1.length∧i=.int .i64 k∧Hid (l1.map valS=l2.map valS↔(l1.drop k).map valS=(l2.drop k).map valS)∧Hid (Nw w wr)) (fun i _=>l1.length - (intOf i).toNat)
  case atStart=>exact ⟨0,by omega,rfl,hid (by simp),hid (Nw.refl _)⟩
  case round =>
   obtain ⟨k,hk,rfl,HX,HN⟩:=hrel;by_cases hlt:k < l1.length
   ·have hlt2:k < l2.length:=by omega
    have hltI:(k:Int) < (l1.length:Int):=by omega
    have hltJ:(k:Int) < (l2.length:Int):=by omega
    obtain ⟨o1,rfl,hb1,hc0,hc1⟩:=two_at (HR1.out.nw HN.out) hlt;obtain ⟨o2,rfl,hb2,hd0,hd1⟩:=two_at (HR2.out.nw HN.out) hlt2;have hX:=HX.out;rw [drop_cons hlt,drop_cons hlt2,List.map_cons,List.map_cons,List.cons.injEq] at hX;have HX2:=hid hX;have HOx:=hid (HK1.out l1[k] (List.getElem_mem hlt));have HOy:=hid (HK2.out l2[k] (List.getElem_mem hlt2));generalize l1[k]=x at *;generalize l2[k]=y at *;have HCm:=hid fun W (hN:Nw wr W)=>RCompareL_any W x.bl y.bl x.al y.al x.labs.length x.cl y.labs.length y.cl x.labs y.labs rfl rfl HOx.out.2.1 HOy.out.2.1 ((HOx.out.1.1.rd.nw HN.out).nw hN) ((HOy.out.1.1.rd.nw HN.out).nw hN)
    have HSm:=hid fun W (hN:Nw wr W)=>Same_any W x.bs y.bs x.as_ y.as_ x.smps.length x.cs y.smps.length y.cs x.smps y.smps rfl rfl HOx.out.2.2 HOy.out.2.2 ((HOx.out.1.2.rd.nw HN.out).nw hN) ((HOy.out.1.2.rd.nw HN.out).nw hN)
    obtain ⟨s,hs⟩:∃ s,cmpLs x.labs y.labs=s:=⟨_,rfl⟩;rw [hs] at HCm;have HZ:=hid (show s=0↔x.labs=y.labs from by rw [← hs];exact cmpLs_zero _ _);have q0:∀ p':Gp,(grow (wr.drewN p'.n) p'.os).cell? ⟨b1,o1+k*2,none⟩=some (.slice x.al x.labs.length x.cl):=cell_gr hb1 hc0;have q1:∀ p':Gp,(grow (wr.drewN p'.n) p'.os).cell? ⟨b1,o1+k*2+1,none⟩=some (.slice x.as_ x.smps.length x.cs):=cell_gr hb1 hc1;have q2:∀ p':Gp,(grow (wr.drewN p'.n) p'.os).cell? ⟨b2,o2+k*2,none⟩=some (.slice y.al y.labs.length y.cl):=cell_gr hb2 hd0;have q3:∀ p':Gp,(grow (wr.drewN p'.n) p'.os).cell? ⟨b2,o2+k*2+1,none⟩=some (.slice y.as_ y.smps.length y.cs):=cell_gr hb2 hd1;clear hX HX hlen hs hc0 hc1 hd0 hd1;by_cases hz:s=0
    ·have hzb:(s != 0)=false:=by rw [bne_eq_false_iff_eq];exact hz
     have HLq:=hid (HZ.out.1 hz);by_cases hm:x.smps=y.smps
     ·have HM:=hid hm;have HEQ:=hid (show l1.map valS=l2.map valS↔(l1.drop (k+1)).map valS=(l2.drop (k+1)).map valS from by rw [HX2.out];exact ⟨fun h=>h.2,fun h=>⟨by unfold valS;rw [HLq.out,HM.out],h⟩⟩);clear hm hz;go_wp2_with fail;refine wp_region_gr (by kernel_rfl) (by kernel_rfl) ?_
      repeat (go_big_quiet_step (first
       | (go_at_call 50;refine Calls.gr ((HCm.out _ (Gr.nw ⟨_,rfl⟩)).mono fun _ _ h=>⟨h.1,Gr.of_dr h.2⟩))
       | (go_at_call 43;refine Calls.gr ((HSm.out _ (Gr.nw ⟨_,rfl⟩)).mono fun _ _ h=>⟨h.1.tt HM.out,h.2⟩))))
      refine wpQuiet_nil ?_;rintro _ ⟨p',rfl⟩;have HNz:=hid (HN.out.trans (Gr.nw ⟨p',rfl⟩:Nw wr _));go_wp2_with fail;go_roundw
      case rel=>exact ⟨k+1,by omega,by go_num,HEQ,HNz⟩
      case measure=>simp [intOf];omega
     ·have HM:=hid hm;have HNE:=hid (show ¬ l1.map valS=l2.map valS from fun h=>hm (by have:=(HX2.out.1 h).1;injection this));clear hm hz;go_wp2_with fail;refine wp_region_gr (by kernel_rfl) (by kernel_rfl) ?_
      repeat (go_big_quiet_step (first
       | (go_at_call 50;refine Calls.gr ((HCm.out _ (Gr.nw ⟨_,rfl⟩)).mono fun _ _ h=>⟨h.1,Gr.of_dr h.2⟩))
       | (go_at_call 43;refine Calls.gr ((HSm.out _ (Gr.nw ⟨_,rfl⟩)).mono fun _ _ h=>⟨h.1.ff HM.out,h.2⟩))))
      refine wpQuiet_nil ?_;rintro _ ⟨p',rfl⟩;have HNz:=hid (HN.out.trans (Gr.nw ⟨p',rfl⟩:Nw wr _));go_wp2_with fail;go_ret;exact ⟨Says.no HNE.out,HNz.out⟩
    ·have hzb:(s != 0)=true:=by rw [bne_iff_ne];exact hz
     have HNE:=hid (show ¬ l1.map valS=l2.map valS from fun h=>hz (HZ.out.2 (by have:=(HX2.out.1 h).1;injection this)));clear hz;go_wp2_with fail;refine wp_region_gr (by kernel_rfl) (by kernel_rfl) ?_
     repeat (go_big_quiet_step (first
      | (go_at_call 50;refine Calls.gr ((HCm.out _ (Gr.nw ⟨_,rfl⟩)).mono fun _ _ h=>⟨h.1,Gr.of_dr h.2⟩))))
     refine wpQuiet_nil ?_;rintro _ ⟨p',rfl⟩;have HNz:=hid (HN.out.trans (Gr.nw ⟨p',rfl⟩:Nw wr _));go_wp2_with fail;go_ret;exact ⟨Says.no HNE.out,HNz.out⟩
   ·have HEQ:=hid (show l1.map valS=l2.map valS from HX.out.2 (by rw [List.drop_eq_nil_of_le (show l1.length≤k by omega),List.drop_eq_nil_of_le (show l2.length≤k by omega)]));have hltI:¬ (k:Int) < (l1.length:Int):=by omega
    have hltJ:¬ (k:Int) < (l2.length:Int):=by omega
    go_wp2;go_ret;exact ⟨Says.yes HEQ.out,HN.out⟩
 ·have HLN:=hid hlen;have hlI:((l1.length:Int) != (l2.length:Int))=true:=by rw [bne_iff_ne];omega
  go_enter Tryz.func24,Tryz.ntmps24
  go_wp2;go_ret;exact ⟨Says.no fun h=>HLN.out (by have:=congrArg List.length h;simpa using this),Nw.refl _⟩
end
section
open Go Go.RowKit Go.Sort
theorem Ow.of_heap {w:World} {g:Nat} {e:TypeId} {size n:Nat} {cs:Array Value} (h:w.heap[g]? = some (.cells cs e (0,0))) (hs:cs.size=n*size) (hn:n≤9223372036854775807):Ow w g e size (some ⟨g,0,none⟩) n n cs.toList :=
 .inr ⟨rfl,lt_of_block h,by simpa using hs,.inr ⟨g,n,cs,rfl,Nat.zero_le _,h,by omega,by simpa [maxLen] using hn,hs,by rw [← hs,← Array.length_toList,List.take_length]⟩⟩
theorem Ow.heap {w:World} {g:Nat} {e:TypeId} {size n c:Nat} {a:Addr} {xs:List Value} (h:Ow w g e size (some a) n c xs):∃ cs:Array Value,w.heap[g]? = some (.cells cs e (0,0))∧cs.size=c*size∧cs.toList.take (n*size)=xs∧a=⟨g,0,none⟩:=by
 rcases h with ⟨h,_⟩ | ⟨h1,_,h2⟩
 ·cases h
 ·obtain ⟨_,h3⟩:=h2;rcases h3 with ⟨hv,_⟩ | ⟨g0,cap,cur,hv,_,hh,q1,q2,q3,q4⟩
  ·cases hv
  ·injection hv with e1 e2 e3
   injection e1 with e1
   injection h1 with h1
   subst h1;injection e1 with e1 _
   subst e1 e3;exact ⟨cur,hh,by simpa using q3,by first | exact q4.symm | exact q4 | (have:=q4;simp at this;exact this.symm),rfl⟩
theorem run_copyK {P:Program} (w:World) (dT sT ty elem:TypeId) (k g n dCap:Nat) (b:Nat) (A:Option Addr) (sCap:Nat) (cur:Array Value) (t:TypeId) (cs:List Value)
  (hu:P.underlying dT=some (.slice elem)) (hs:(P.info? elem).map (·.size)=some k)
  (hg:w.heap[g]? = some (.cells cur t (0,0))) (hn:cs.length=n*k) (hc:cur.size=n*k) (hr:Rd w b A cs) (h1:∀ v∈cs,v.oneCell'=true) :
  (Builtin.copy_ #[dT,sT] ty #[.slice (some ⟨g,0,none⟩) n dCap,.slice A n sCap]).run P w=.ok (goInt n) (w.setRow g cs.toArray):=by
 have hst:=run_storeCells_at P g 0 t cs 0 cur w hg (by simp;omega) h1;have he:(cur.toList.take (0+0)++cs++cur.toList.drop (0+0+cs.length)).toArray=cs.toArray:=by
  rw [List.drop_eq_nil_of_le (by simp;omega)];simp
 rw [he] at hst;cases hq:P.info? elem with
 | none=>simp [hq] at hs
 | some i =>
  have hi:i.size=k:=by simpa [hq] using hs
  cases A with
  | none =>
   have hcs:cs=[]:=by
    rcases hr with h | ⟨o,h,_⟩
    ·exact h
    ·cases h
   subst hcs;simp [Builtin.copy_,run_underlying hu,Builtin.lenOf,Builtin.firstCells,sizeOf,typeInfo,hq,hst]
  | some a =>
   have hl:=run_loadCells_list (P:=P) w a cs (by
    intro j v hv;rcases hr with h | ⟨o,h,_,hcc⟩
    ·rw [h] at hv;simp at hv
    ·injection h with h;subst h;rw [add_lit'];exact hcc j v hv)
   rw [hn] at hl;simp [Builtin.copy_,run_underlying hu,Builtin.lenOf,Builtin.firstCells,sizeOf,typeInfo,hq,hi,hl,hst]
theorem wpList_copyK {P:Program} {w:World} {ops:Array Oper} {rest:List Oper} {o:Oper} {a:Act} {Q:Exit→Act→World→Prop} {t e:TypeId} {z:Value} {size bytes:Nat} (E:ElemT P t e z size bytes) (hgd:o.guard=none) (d s:Operand)
  (ho:o.op=.call { callee:=.builtin .copy,args:=#[d,s],argTypes:=#[t,t] })
  {g n dCap b sCap:Nat} {A:Option Addr} {cur:List Value} {cs:List Value} (hd:a.eval d=.slice (some ⟨g,0,none⟩) n dCap) (hs:a.eval s=.slice A n sCap)
  (hg:Ow w g e size (some ⟨g,0,none⟩) n n cur) (hr:Rd w b A cs) (hn:cs.length=n*size) (h1:∀ v∈cs,v.oneCell'=true)
  (h:∀ w',Ow w' g e size (some ⟨g,0,none⟩) n n cs→Kp g g w w'→w'.heap.size=w.heap.size→wpList P ops Q rest (a.put o.dst (goInt n)) w'):wpList P ops Q (o::rest) a w:=by
 refine wpList_plain hgd fun K hK=>?_
 obtain ⟨ca,hh,q3,q4,_⟩:=hg.heap;obtain ⟨i,hi,hz,hsz,hby⟩:=E.info;have hcap:=hg.cap;have hrun:=run_copyK (P:=P) w t t o.type e size g n dCap b A sCap ca e cs E.und (by rw [hi];simp [hsz]) hh hn q3 hr h1;unfold Oper.wp;simp [execOp,ho,resolve,invoke,builtin,hd,hs,hrun,Result.andThen];refine hK _ _ (h _ ?_ ?_ (by simp [World.setRow]))
 ·have:=Ow.of_heap (size:=size) (n:=n) (setRow_heap w g ca cs.toArray e (0,0) hh) (by simpa using hn) hcap.2;simpa using this
 ·exact ⟨rfl,rfl,rfl,by simp [World.setRow],fun k hk h2 _=>setRow_other w g k _ (by omega)⟩
theorem c2_set {α:Type} {f h:α→Value}:∀ (L:List α) (k:Nat) (z:α),((c2 f h L).set (k*2) (f z)).set (k*2+1) (h z)=c2 f h (L.set k z):=by
 intro L;induction L with
 | nil=>intro k z;simp [c2]
 | cons y L ih =>
  intro k z;have e:∀ (M:List α) y,c2 f h (y::M)=f y::h y::c2 f h M:=fun _ _=>rfl
  cases k with
  | zero=>simp [e]
  | succ k =>
   rw [e,show (k+1)*2=k*2+1+1 by omega,show k*2+1+1+1=k*2+1+1+1 from rfl,List.set_cons_succ,List.set_cons_succ,List.set_cons_succ,List.set_cons_succ,ih,← e];rfl
theorem E_ser:ElemT Tryz.prog 22 80 (.agg #[.slice none 0 0,.slice none 0 0]) 2 48:=ElemT.mk' Tryz.underlying22 (by kernel_rfl) rfl (by omega)
theorem make_any {P:Program} {t e:TypeId} {z:Value} {size bytes:Nat} (E:ElemT P t e z size bytes) (W:World) (n:Nat) (h:n≤1000000) (hb:bytes≤64):(Instr.makeSlice t (.int .i64 (n:Int)) (.int .i64 (n:Int))).run P W=.ok (.slice (some ⟨W.heap.size,0,none⟩) n n) (W.alloc (.cells (madeCells z.cells (n*size)) e)):=by
 obtain ⟨i0,hi,hz0,hz1,hz2⟩:=E.info;have hb2:n*bytes≤1000000*64:=Nat.mul_le_mul h hb;have hb3:(bytes:Int)*(n:Int)≤281474976710656:=by
  have h4:=Int.ofNat_le.2 hb2;rw [Int.natCast_mul] at h4;rw [Int.mul_comm];omega
 have:=run_make (P:=P) (w:=W) t e i0 z E.und hi hz0 .i64 .i64 n n (by omega) (by omega) (by rw [hz2];exact hb3) (by omega);rw [hz1] at this;exact this
theorem made_ow (e:TypeId) (z:Value) (size:Nat) (W:World) (n:Nat) (h:n≤1000000):Ow (W.alloc (.cells (madeCells z.cells (n*size)) e)) W.heap.size e size (some ⟨W.heap.size,0,none⟩) n n (madeCells z.cells (n*size)).toList :=
 Ow.of_heap (heap_alloc_new _ _) (by simp [madeCells]) (by omega)
end
section
open Go Go.RowKit Go.Sort Go.Shelf Go.Lib
theorem Ow.of_heapT {w:World} {g:Nat} {e:TypeId} {size n c:Nat} {cs:Array Value} (h:w.heap[g]? = some (.cells cs e (0,0))) (hs:cs.size=c*size) (hnc:n≤c) (hn:c≤9223372036854775807):Ow w g e size (some ⟨g,0,none⟩) n c (cs.toList.take (n*size)):=by
 have hle:n*size≤c*size:=Nat.mul_le_mul_right _ hnc;exact .inr ⟨rfl,lt_of_block h,by simp;omega,.inr ⟨g,c,cs,rfl,Nat.zero_le _,h,hnc,by simpa [maxLen] using hn,hs,rfl⟩⟩
theorem Ow.cut {w:World} {g:Nat} {e:TypeId} {size n c k:Nat} {A:Option Addr} {xs:List Value} (h:Ow w g e size A n c xs) (hk:k≤n):Ow w g e size A k c (xs.take (k*size)):=by
 cases A with
 | none =>
  rcases h with ⟨_,rfl,rfl,rfl⟩ | ⟨h,_⟩
  ·obtain rfl:k=0:=by omega
   simpa using Ow.nil w g e size
  ·cases h
 | some a =>
  obtain ⟨cs,hh,hs,ht,rfl⟩:=h.heap;have hc:=h.cap;have:=Ow.of_heapT (n:=k) hh hs (by omega) hc.2;rw [← ht,List.take_take,Nat.min_eq_left (Nat.mul_le_mul_right _ hk)];exact this
theorem put_ow {α:Type} [Inhabited α] {enc:α→Value} {w:World} {g:Nat} {e:TypeId} {a:Addr} {n c m:Nat} {d:Array α} {xs:List Value} (hO:Ow w g e 1 (some a) n c xs) (hd:d.size=n) (os:Array Obj) :
  Ow (grow (putRow enc (Sort.ahead w m) g 0 d) os) g e 1 (some ⟨g,0,none⟩) n c (d.toList.map enc)∧Kp g g w (grow (putRow enc (Sort.ahead w m) g 0 d) os):=by
 obtain ⟨cs,hh,hs,_,_⟩:=hO.heap;have hcap:=hO.cap;have hg:=lt_of_block hh;have hheap:(grow (putRow enc (Sort.ahead w m) g 0 d) os).heap[g]? = some (.cells (putCells enc 0 d cs) e (0,0)):=by
  rw [heap_grow_old _ _ (by simpa [putRow,mapBlock,Sort.ahead] using hg)];simp [putRow,mapBlock,Sort.ahead,Array.getElem?_modify,hh,onCells]
 constructor
 ·have:=Ow.of_heapT (size:=1) (n:=n) hheap (by simpa [putCells] using hs) hcap.1 hcap.2;have ht:(putCells enc 0 d cs).toList.take (n*1)=d.toList.map enc:=by
   apply List.ext_getElem?
   intro j;by_cases hj:j < n
   ·rw [List.getElem?_take_of_lt (by omega),Array.getElem?_toList];have hcs:j < cs.size:=by rw [hs];omega
    simp only [putCells,Array.getElem?_mapIdx,Array.getElem?_eq_getElem hcs,Option.map_some];rw [if_pos ⟨Nat.zero_le _,by omega⟩];simp [hd,hj]
   ·rw [List.getElem?_take_eq_none (by omega),List.getElem?_eq_none (by simp;omega)]
  rwa [ht] at this
 ·refine ⟨rfl,rfl,rfl,by simp [putRow,mapBlock,Sort.ahead],fun k hk h1 _=>?_⟩;rw [heap_grow_old _ _ (by simpa [putRow,mapBlock,Sort.ahead] using hk)];have:g≠k:=fun e=>h1 e.symm
  simp [putRow,mapBlock,Sort.ahead,Array.getElem?_modify,this]
theorem holds_one {α:Type} [Inhabited α] {enc:α→Value} {w:World} {g:Nat} {e:TypeId} {a:Addr} {c:Nat} {d:Array α} (hO:Ow w g e 1 (some a) d.size c (d.toList.map enc)):Holds enc w g 0 d:=by
 intro j hj;obtain ⟨_,_,h1,h2⟩:=hO.at_ (j:=j) (by omega);rw [Nat.zero_add];refine ⟨?_,h2⟩;rw [h1,List.getElem?_map,List.getElem?_eq_getElem (by simpa using hj),Option.map_some,getElem!_pos d j hj];simp
abbrev bys (l:List ByteArray):List (List UInt8):=l.map (·.toList)
theorem enc_bys (l:List ByteArray):(bys l).map encStr=cT l:=by
 unfold bys cT;rw [List.map_map];apply List.map_congr_left
 intro x _;show Value.string ⟨x.toList.toArray⟩=.string x
 rw [ByteArray.toList_eq]
def tbl (l:List ByteArray):List (List UInt8):=compact ((bys l).mergeSort fun x y=>decide (x≤y))
theorem compact_le {α:Type} [Inhabited α] [DecidableEq α] (zs:List α):(compact zs).length≤zs.length:=by
 unfold compact compactUpTo;rw [List.length_map];exact Nat.le_trans (List.length_filter_le _ _) (by simp)
theorem Collect_any (w:World) (Bs:Nat) (A:Option Addr) (len cap:Nat) (xs:List ByteArray) (hm:xs.length≤1000000) (hBs:Bs < w.heap.size) (hc0:w.cell? ⟨Bs,0,none⟩=some (.slice A len cap)) (hL:StrsAt w.heap.size w A len xs) :
  Calls Tryz.prog 255 #[.func (.func 257) #[] #[.pointer (some ⟨Bs,0,none⟩)]] w fun e W'=>∃ v,e=.returned v∧W'.ownsRow w.heap.size 9 1 v xs.length (xs.map Value.string)∧(v=.slice none 0 0↔xs=[])∧RowKit.Below w.heap.size w W':=by
 have HA:=hid (callsIn_wide.1 (AppendSeq_in Fence.wide 3 trivial trivial rfl (by omega) Bs A len cap xs (by simp only [maxLen];omega) (by omega) w hBs hc0 hL));go_enter Tryz.func255,Tryz.ntmps255
 go_wp2_with (go_at_call 301;refine HA.out.mono ?_;rintro e w1 ⟨v,rfl,h1,h2,h3⟩)
 go_ret;exact ⟨v,rfl,h1,h2,h3⟩
theorem Sorted_any (w:World) (Bs:Nat) (A:Option Addr) (len cap:Nat) (xs:List ByteArray) (hm:xs.length≤1000000) (hBs:Bs < w.heap.size) (hc0:w.cell? ⟨Bs,0,none⟩=some (.slice A len cap)) (hL:StrsAt w.heap.size w A len xs) :
  Calls Tryz.prog 182 #[.func (.func 257) #[] #[.pointer (some ⟨Bs,0,none⟩)]] w fun e W'=>∃ g A' c',e=.returned (.slice A' xs.length c')∧((A'=none∧c'=0∧xs=[])∨(A'=some ⟨g,0,none⟩∧w.heap.size≤g))∧Ow W' g 9 1 A' xs.length c' (((bys xs).mergeSort fun x y=>decide (x≤y)).map encStr)∧Nw w W':=by
 have HC:=hid (Collect_any w Bs A len cap xs hm hBs hc0 hL);clear hBs hc0 hL;by_cases h0:xs=[]
 ·subst h0;go_enter Tryz.func182,Tryz.ntmps182
  go_wp2_with (first
   | (go_at_call 256;refine (Tryz.slices_Sort_string_none none 0 _).mono ?_;rintro e w2 ⟨rfl,rfl⟩)
   | (go_at_call 255;refine HC.out.mono ?_;rintro e w1 ⟨v,rfl,h1,h2,h3⟩;obtain rfl:=h2.2 rfl))
  go_ret;exact ⟨0,none,0,rfl,by simp,by simpa using Ow.nil _ _ _ _,h3⟩
 ·go_enter Tryz.func182,Tryz.ntmps182
  go_wp2_with fail;refine HC.out.mono ?_;rintro e w1 ⟨v,rfl,h1,h2,h3⟩;obtain ⟨hl1,h4⟩:=h1;rcases h4 with ⟨hv,_⟩ | ⟨g,cp,cur,hv,hg,hh,q1,q2,q3,q4⟩
  ·exact (h0 (h2.1 hv)).elim
  ·subst hv;have hO:Ow w1 g 9 1 (some ⟨g,0,none⟩) xs.length cp (cT xs):=.inr ⟨rfl,lt_of_block hh,hl1,.inr ⟨g,cp,cur,rfl,Nat.zero_le _,hh,q1,q2,q3,q4⟩⟩;have hlb:(bys xs).length=xs.length:=List.length_map _;have hO':Ow w1 g 9 1 (some ⟨g,0,none⟩) (bys xs).toArray.size cp ((bys xs).toArray.toList.map encStr):=by
    rw [List.size_toArray,List.toList_toArray,enc_bys,hlb];exact hO
   have hS:=Tryz.slices_Sort_string g 0 cp (bys xs) w1 (holds_one hO') (lt_of_block hh) (by rw [hlb];omega);rw [hlb] at hS;have hms:((bys xs).mergeSort fun x y=>decide (x≤y)).toArray.size=xs.length:=by simp
   have HO:=hid fun m os=>put_ow (enc:=encStr) (m:=m) hO hms os
   obtain ⟨Z,hZ⟩:∃ Z,(bys xs).mergeSort (fun x y=>decide (x≤y))=Z:=⟨_,rfl⟩;rw [hZ] at hS hms HO;have HZ:=hid hZ;have HS:=hid hS;have H3:=hid h3;clear hO hO' hS hh q1 q2 q3 q4 hl1 h2 h3 hZ;go_wp2_with (go_at_call 256;refine HS.out.mono ?_;rintro e w2 ⟨rfl,m,os,rfl⟩)
   go_ret;have h5:=HO.out m os;rw [HZ.out];refine ⟨g,_,cp,rfl,.inr ⟨rfl,hg⟩,h5.1,Kp.nw H3.out h5.2 hg hg⟩
theorem StrsAt.of_rd {w:World} {b n:Nat} {A:Option Addr} {l:List ByteArray} (hn:n=l.length) (hr:Rd w b A (cT l)):StrsAt w.heap.size w A n l:=by
 refine ⟨hn,?_⟩;rcases hr with h | ⟨o,rfl,hb,hc⟩
 ·left
  cases l with
  | nil=>rfl
  | cons x l=>simp [cT] at h
 ·refine .inr ⟨b,o,rfl,hb,fun j hj=>hc j _ ?_⟩;rw [List.getElem?_map,List.getElem?_eq_getElem hj];simp
theorem tbl_nil:tbl []=[]:=by simp [tbl,bys,compact,compactUpTo]
theorem Table_any (w:World) (b:Nat) (A:Option Addr) (n c:Nat) (l:List ByteArray) (hn:n=l.length) (hm:n≤1000000) (hr:Rd w b A (cT l)) :
  Calls Tryz.prog 108 #[.slice A n c] w fun e w'=>∃ g A' c',e=.returned (.slice A' (tbl l).length c')∧Ow w' g 9 1 A' (tbl l).length c' ((tbl l).map encStr)∧Nw w w':=by
 subst hn;have hN1:Nw w (w.alloc (.cells #[.slice A l.length c] 34)):=(Nw.refl w).alloc' _;have HS:=hid (Sorted_any _ w.heap.size A l.length c l hm (by simp) (by rw [cell_at (heap_alloc_new w _)];rfl) (StrsAt.of_rd rfl (hr.nw hN1)));clear hr;by_cases h0:l=[]
 ·subst h0;rw [tbl_nil];go_enter Tryz.func108,Tryz.ntmps108
  go_wp2_with (first
   | (go_at_call 181;refine (Tryz.slices_Compact_string_empty _ _ _).mono ?_;rintro e w3 ⟨rfl,rfl⟩)
   | (go_at_call 182;refine HS.out.mono ?_;rintro e w2 ⟨g,A',c',rfl,hA,hO,hN2⟩)
   | (go_at_call 183;refine (Values_any _ _ _ _).mono ?_;rintro e w1 ⟨rfl,rfl⟩))
  go_ret;exact ⟨g,A',c',rfl,by simpa using hO,hN1.trans hN2⟩
 ·go_enter Tryz.func108,Tryz.ntmps108
  go_wp2_with (first
   | (go_at_call 182;refine HS.out.mono ?_;rintro e w2 ⟨g,A',c',rfl,hA,hO,hN2⟩)
   | (go_at_call 183;refine (Values_any _ _ _ _).mono ?_;rintro e w1 ⟨rfl,rfl⟩))
  rcases hA with ⟨_,_,h⟩ | ⟨rfl,hg⟩
  ·exact (h0 h).elim
  ·have hlz:((bys l).mergeSort fun x y=>decide (x≤y)).length=l.length:=by simp
   obtain ⟨T,hT⟩:∃ T,tbl l=T:=⟨_,rfl⟩;have hT2:compact ((bys l).mergeSort fun x y=>decide (x≤y))=T:=hT;have HT:=hid hT;obtain ⟨Z,hZ⟩:∃ Z,(bys l).mergeSort (fun x y=>decide (x≤y))=Z:=⟨_,rfl⟩;rw [hZ] at hlz hO hT2;have hO':Ow w2 g 9 1 (some ⟨g,0,none⟩) Z.toArray.size c' (Z.toArray.toList.map encStr):=by
    rw [List.size_toArray,List.toList_toArray,hlz];exact hO
   have hcap:=hO.cap;have hC:=Tryz.slices_Compact_string g 0 c' Z w2 (holds_one hO') (by rw [hlz];omega) (by rw [hlz];omega);rw [hlz,hT2] at hC;have hle:=compact_le Z;rw [hT2,hlz] at hle;have hsz:(T++List.replicate (l.length - T.length) ([]:List UInt8)).toArray.size=l.length:=by simp;omega
   have HO:=hid fun m=>put_ow (enc:=encStr) (m:=m) hO hsz #[]
   have HC:=hid hC;have HN2:=hid (hN1.trans hN2);have hgw:w.heap.size≤g:=by have:=hN1.size;omega
   clear hO hO' hC hN2 hT2 hZ hlz hcap hsz hT;refine HC.out.mono ?_;rintro e w3 ⟨rfl,q,rfl⟩;have h5:=HO.out q;rw [grow_empty] at h5;go_wp2;go_ret;rw [HT.out];refine ⟨g,_,c',rfl,?_,Kp.nw HN2.out h5.2 hgw hgw⟩;have h6:=h5.1.cut hle;rw [List.map_append,Nat.mul_one,List.take_append_of_le_length (by simp),List.take_of_length_le (by simp)] at h6;exact h6
end
section
open Go Go.RowKit Go.Sort Go.Shelf Go.Lib
def LtB (a b:ByteArray):Prop:=Op.bytesLess a.toList b.toList=true
theorem ltB_iff {a b:ByteArray}:LtB a b↔a.toList < b.toList:=by
 unfold LtB;rw [bytesLess_eq,decide_eq_true_iff]
theorem compactUpTo_spec {zs:List (List UInt8)} (hs:zs.Pairwise fun a b=>a≤b):∀ m,m≤zs.length→(∀ y,y∈compactUpTo zs.toArray m↔y∈zs.take m)∧(compactUpTo zs.toArray m).Pairwise fun a b=>a < b:=by
 intro m;induction m with
 | zero=>intro _;simp [compactUpTo]
 | succ m ih =>
  intro hm;obtain ⟨h1,h2⟩:=ih (by omega);have hlt:m < zs.length:=by omega
  have hd:∀ j,j < zs.length→zs.toArray[j]! = zs[j]!:=fun j hj=>by rw [getElem!_pos zs.toArray j (by simpa using hj),getElem!_pos zs j hj];simp
  have hdm:zs.toArray[m]! = zs[m]:=by rw [hd m hlt,getElem!_pos zs m hlt]
  rw [compactUpTo_succ,List.take_succ_eq_append_getElem hlt];rw [List.pairwise_iff_getElem] at hs;by_cases h0:m=0
  ·subst h0;have hk:keeps zs.toArray 0=true:=keeps_lt_one _ 0 (by omega);rw [if_pos hk,hdm];constructor
   ·intro y;simp [compactUpTo]
   ·simp [compactUpTo]
  ·have hdp:zs.toArray[m - 1]! = zs[m - 1]:=by rw [hd (m - 1) (by omega),getElem!_pos zs (m - 1) (by omega)]
   by_cases he:zs[m]=zs[m - 1]
   ·have hk:keeps zs.toArray m=false:=keeps_neg (by omega) (by rw [hdm,hdp];exact he);rw [hk];simp only [Bool.false_eq_true,if_false,List.append_nil];refine ⟨fun y=>?_,h2⟩;rw [h1 y,List.mem_append,List.mem_singleton];constructor
    ·exact .inl
    ·rintro (h | rfl)
     ·exact h
     ·rw [he];rw [List.mem_take_iff_getElem];exact ⟨m - 1,by omega,rfl⟩
   ·have hk:keeps zs.toArray m=true:=keeps_pos (by rw [hdm,hdp];exact he);rw [if_pos hk,hdm];constructor
    ·intro y;rw [List.mem_append,List.mem_append,h1 y]
    ·rw [List.pairwise_append];refine ⟨h2,List.pairwise_singleton _ _,fun a ha b hb=>?_⟩;obtain rfl:=List.mem_singleton.1 hb;have ha2:=(h1 a).1 ha;rw [List.mem_take_iff_getElem] at ha2;obtain ⟨j,hj,rfl⟩:=ha2;have hle:=hs j m (by omega) hlt (by omega);have hne:¬ zs[j]=zs[m]:=by
      intro hjm;have h3:=hs (m - 1) m (by omega) hlt (by omega);have h4:zs[j]≤zs[m - 1]:=by
       by_cases hjj:j=m - 1
       ·subst hjj;exact List.le_refl _
       ·exact hs j (m - 1) (by omega) (by omega) (by omega)
      rw [hjm] at h4;exact he (List.le_antisymm h4 h3)
     rcases List.le_iff_lt_or_eq.1 hle with h | h
     ·exact h
     ·exact (hne h).elim
theorem sorted_le (zs:List (List UInt8)):(zs.mergeSort fun x y=>decide (x≤y)).Pairwise fun a b=>a≤b:=by
 have:=List.pairwise_mergeSort (le:=fun (x y:List UInt8)=>decide (x≤y)) (by intro a b c;simp;exact fun h1 h2=>List.le_trans h1 h2) (by intro a b;simp;exact List.le_total a b) zs;simpa using this
theorem tbl_spec (l:List ByteArray):(∀ y,y∈tbl l↔y∈bys l)∧(tbl l).Pairwise fun a b=>a < b:=by
 have h:=compactUpTo_spec (sorted_le (bys l)) _ (Nat.le_refl _);unfold tbl compact;refine ⟨fun y=>?_,h.2⟩;rw [h.1 y,List.take_length,(List.mergeSort_perm _ _).mem_iff]
end
section
open Go Go.RowKit
def uw (x:Int):Nat:=(x % 18446744073709551616).toNat
def tform (x:Int):Nat:=if x=0 then 0 else if -64≤x∧x≤63 then 1 else if -2048≤x∧x≤2047 then 2 else if -2147483648≤x∧x≤2147483647 then 3 else 4
def tpre:Nat→Nat
 | 0=>0 | 1=>2 | 2=>6 | 3=>14 | _=>15
def tlen:Nat→Nat
 | 0=>1 | 1=>2 | 2=>3 | 3=>4 | _=>4
def twid:Nat→Nat
 | 0=>0 | 1=>7 | 2=>12 | 3=>32 | _=>64
def tbits (x:Int):List Bool:=bitsOf (tpre (tform x)) (tlen (tform x))++bitsOf (uw x) (twid (tform x))
def chgF (t d:Int):List Int→List Int
 | []=>[]
 | t'::r=>wrap64 (wrap64 (t' - t) - d)::chgF t' (wrap64 (t' - t)) r
def chg:List Int→List Int
 | []=>[]
 | t::r=>chgF t 0 r
def tput:List Int→List Bool
 | []=>[]
 | t::r=>bitsOf (uw t) 64++(chgF t 0 r).flatMap tbits
def sext (u w:Nat):Int:=if w=0 then 0 else if 2 ^ (w - 1)≤u then (u:Int) - 2 ^ w else u
def gform:Nat→Nat→List Bool→Option (Nat × List Bool)
 | 0,k,bs=>some (k,bs)
 | _+1,_,[]=>none
 | _+1,k,false::r=>some (k,r)
 | f+1,k,true::r=>gform f (k+1) r
def gchg (bs:List Bool):Except Nat (Int × List Bool) :=
 match gform 4 0 bs with
 | none=>.error 3
 | some (k,r) =>
  if r.length < twid k then .error 3
  else if tform (sext (bv (r.take (twid k))) (twid k))=k then .ok (sext (bv (r.take (twid k))) (twid k),r.drop (twid k)) else .error 8
def tgetF (t d:Int):Nat→List Bool→Except Nat (List Int × List Bool)
 | 0,bs=>.ok ([],bs)
 | n+1,bs =>
  match gchg bs with
  | .error e=>.error e
  | .ok (x,r) =>
   match tgetF (wrap64 (t+wrap64 (d+x))) (wrap64 (d+x)) n r with
   | .error e=>.error e
   | .ok (l,r')=>.ok (wrap64 (t+wrap64 (d+x))::l,r')
def tget:Nat→List Bool→Except Nat (List Int × List Bool)
 | 0,bs=>.ok ([],bs)
 | n+1,bs =>
  if bs.length < 64 then .error 3
  else match tgetF (wrap64 (bv (bs.take 64))) 0 n (bs.drop 64) with
   | .error e=>.error e
   | .ok (l,r)=>.ok (wrap64 (bv (bs.take 64))::l,r)
theorem I6.w (x:Int):I6 (wrap64 x):=by unfold I6 wrap64;omega
theorem uw_lt (x:Int):uw x < 18446744073709551616:=by unfold uw;omega
theorem uw_back {x:Int} (h:I6 x):wrap64 (uw x)=x:=by
 unfold I6 at h;unfold uw wrap64;omega
theorem tform_le (x:Int):tform x≤4:=by unfold tform;split<;>(try omega)<;>split<;>(try omega)<;>split<;>(try omega)<;>split<;>omega
theorem sext_uw {x:Int} (h:I6 x):sext (uw x % 2 ^ twid (tform x)) (twid (tform x))=x:=by
 unfold I6 at h;unfold tform;split
 ·rename_i h0;subst h0;rfl
 ·split
  ·rename_i h0 h1
   simp only [twid,sext,uw];split<;>omega
  ·split
   ·rename_i h0 h1 h2
    simp only [twid,sext,uw];split<;>omega
   ·split
    ·rename_i h0 h1 h2 h3
     simp only [twid,sext,uw];split<;>omega
    ·rename_i h0 h1 h2 h3
     simp only [twid,sext,uw];split<;>omega
theorem gform_pre {k:Nat} (hk:k≤4) (r:List Bool):gform 4 0 (bitsOf (tpre k) (tlen k)++r)=some (k,r):=by
 have:k=0∨k=1∨k=2∨k=3∨k=4:=by omega
 rcases this with rfl | rfl | rfl | rfl | rfl<;>rfl
theorem gchg_bits {x:Int} (h:I6 x) (r:List Bool):gchg (tbits x++r)=.ok (x,r):=by
 unfold gchg tbits;rw [List.append_assoc,gform_pre (tform_le x)];have hl:=bitsOf_length (uw x) (twid (tform x));have e1:(bitsOf (uw x) (twid (tform x))++r).take (twid (tform x))=bitsOf (uw x) (twid (tform x)):=List.take_left' hl;have e2:(bitsOf (uw x) (twid (tform x))++r).drop (twid (tform x))=r:=List.drop_left' hl;simp only [e1,e2,bv_bitsOf,sext_uw h];rw [if_neg (by rw [List.length_append,hl];omega)];rfl
theorem wrap_add_sub {d x:Int} (hx:I6 x):wrap64 (d+wrap64 (x - d))=x:=by
 unfold I6 at hx;unfold wrap64;omega
theorem tgetF_put:∀ (l:List Int) (t d:Int) (r:List Bool),I6 t→I6 d→(∀ x∈l,I6 x)→tgetF t d l.length ((chgF t d l).flatMap tbits++r)=.ok (l,r):=by
 intro l;induction l with
 | nil=>intro t d r _ _ _;rfl
 | cons t' l ih =>
  intro t d r ht hd hl;have ht':=hl t' (by simp);simp only [chgF,List.flatMap_cons,List.length_cons,List.append_assoc,tgetF];rw [gchg_bits (I6.w _)];simp only [wrap_add_sub (I6.w _),wrap_add_sub ht'];rw [ih t' _ r ht' (I6.w _) (fun x hx=>hl x (by simp [hx]))]
theorem tget_put (l:List Int) (r:List Bool) (hl:∀ x∈l,I6 x):tget l.length (tput l++r)=.ok (l,r):=by
 cases l with
 | nil=>rfl
 | cons t l =>
  have ht:=hl t (by simp);have e:=bitsOf_length (uw t) 64;simp only [tput,tget,List.length_cons,List.append_assoc];rw [if_neg (by rw [List.length_append,e];omega),List.take_left' e,List.drop_left' e,bv_bitsOf,Nat.mod_eq_of_lt (uw_lt t),uw_back ht,tgetF_put l t 0 r ht (by unfold I6;omega) (fun x hx=>hl x (by simp [hx]))]
theorem tput_length_le (l:List Int):(tput l).length≤68*l.length:=by
 have hb:∀ x,(tbits x).length≤68:=by
  intro x;unfold tbits;rw [List.length_append,bitsOf_length,bitsOf_length];have:=tform_le x;generalize tform x=k at *;have:k=0∨k=1∨k=2∨k=3∨k=4:=by omega
  rcases this with rfl | rfl | rfl | rfl | rfl<;>simp [tlen,twid]
 have hf:∀ (l:List Int) t d,((chgF t d l).flatMap tbits).length≤68*l.length:=by
  intro l;induction l with
  | nil=>intro t d;simp [chgF]
  | cons x l ih =>
   intro t d;simp only [chgF,List.flatMap_cons,List.length_append,List.length_cons];have:=ih x (wrap64 (x - t));have:=hb (wrap64 (wrap64 (x - t) - d));omega
 cases l with
 | nil=>simp [tput]
 | cons t l =>
  simp only [tput,List.length_append,bitsOf_length,List.length_cons];have:=hf l t 0;omega
end
section
open Go Go.RowKit
theorem idxOf_hit (xs:List Nat) (x k:Nat) (hk:k < xs.length) (h:xs[k]=x) (hn:x ∉ xs.take k):xs.idxOf x=k:=by
 have e:xs=xs.take k++(xs[k]::xs.drop (k+1)):=by simp
 rw [e,List.idxOf_append,if_neg hn,h];simp;omega
theorem ret_int {k:IntKind} {a b:Int} (h:a=b):Ending.returned (.int k a)=.returned (.int k b):=by rw [h]
theorem ret_bool {a b:Bool} (h:a=b):Ending.returned (.bool a)=.returned (.bool b):=by rw [h]
theorem isNaN_any (w:World) (x:Nat):Calls Tryz.prog 346 #[.int .u64 (x:Int)] w fun e w'=>e=.returned (.bool false)∧w=w':=by
 go_enter Tryz.func346,Tryz.ntmps346
 go_wp2;go_ret;exact ⟨rfl,rfl⟩
theorem isNaN'_any (w:World) (x:Nat):Calls Tryz.prog 322 #[.int .u64 (x:Int)] w fun e w'=>e=.returned (.bool false)∧w=w':=by
 go_enter Tryz.func322,Tryz.ntmps322
 go_wp2;go_ret;exact ⟨rfl,rfl⟩
theorem Less_any (w:World) (x y:Nat):Calls Tryz.prog 321 #[.int .u64 (x:Int),.int .u64 (y:Int)] w fun e w'=>e=.returned (.bool (decide (x < y)))∧w=w':=by
 go_enter Tryz.func321,Tryz.ntmps321
 go_wp2_with (go_at_call 346;refine (isNaN_any _ _).mono ?_;rintro e w' ⟨rfl,rfl⟩)
 go_ret;exact ⟨ret_bool (by simp),rfl⟩
end
section
open Go Go.RowKit
theorem E_u64:ElemT Tryz.prog 236 106 (.int .u64 0) 1 8:=ElemT.mk' Tryz.underlying236 (by kernel_rfl) (by kernel_rfl) (by omega)
theorem oc_N (k:IntKind) (xs:List Nat):∀ u∈cN k xs,u.oneCell'=true:=by
 intro u hu;obtain ⟨x,_,rfl⟩:=List.mem_map.1 hu;rfl
theorem CloneB_any (w:World) (b:Nat) (A:Option Addr) (n c:Nat) (xs:List Nat) (hn:n=xs.length) (hm:n≤140737488355328) (hr:Rd w b A (cN .u8 xs)) (hA:A=none→c=0) :
  Calls Tryz.prog 200 #[.slice A n c] w fun e w'=>∃ b' A' c',e=.returned (.slice A' n c')∧Ow w' b' 5 1 A' n c' (cN .u8 xs)∧w.heap.size≤b'∧Nw w w':=by
 subst hn;cases A with
 | none =>
  obtain rfl:xs=[]:=by
   rcases hr with h | ⟨o,h,_⟩
   ·simpa using h
   ·cases h
  obtain rfl:=hA rfl;have hnil:=fun W=>Lib.run_eql_slice_nil (P:=Tryz.prog) W 25 5 none 0 0 0 0 Tryz.underlying25
  go_enter Tryz.func200,Tryz.ntmps200
  go_wp2;go_ret;exact ⟨w.heap.size,none,0,rfl,Ow.nil _ _ _ _,Nat.le_refl _,Nw.refl w⟩
 | some ad =>
  have hnil:=fun W=>Lib.run_eql_slice_nil (P:=Tryz.prog) W 25 5 (some ad) xs.length c 0 0 Tryz.underlying25
  go_enter Tryz.func200,Tryz.ntmps200
  go_wp2_with (at_builtin;refine wpList_app E_u8 rfl (.tmp 5) (.tmp 6) rfl rfl (Ow.empty w _ _) rfl (hr.nw (Nw.alloc' (Nw.refl w) _)) (by simp) (by intro h;cases h) (oc_N _ _) (by simp only [maxLen];omega) (by omega) ?_;intro b' A' c' w' h1 h2 h3 _)
  go_ret;refine ⟨b',A',c',by simp,by simpa using h1,?_,Kp.nw (Nw.alloc' (Nw.refl w) _) h3 (by simp) (by simp)⟩;have:=(Nw.alloc' (Nw.refl w) (.cells #[] 5)).size;rcases h2 with h2 | h2<;>omega
end
section
open Go Go.RowKit
section
variable {α:Type} (xs ys:List α) (k:Nat)
end
theorem bytesIn_of {w:World} {b:Nat} {A:Option Addr} {xs:List Nat} (h:Rd w b A (cN .u8 xs)):Lib.BytesIn w A xs.length (xs.map fun x:Nat=>(x:Int)):=by
 intro h0;obtain ⟨o,rfl,hlt,_⟩:=h.get (k:=0) (by simpa using h0);refine ⟨b,o,rfl,fun i hi=>?_⟩;obtain ⟨o',had,_,hc⟩:=h.get (k:=i) (by simpa using hi);obtain rfl:o=o':=by simpa using had
 rw [hc,List.getElem_map];simp [List.getD,hi]
theorem bytesOf_inj (xs:List Nat):∀ (ys:List Nat),(∀ x∈xs,x < 256)→(∀ y∈ys,y < 256) →
  (Lib.bytesOf (xs.map fun x:Nat=>(x:Int)) == Lib.bytesOf (ys.map fun x:Nat=>(x:Int)))=decide (xs=ys):=by
 induction xs with
 | nil=>intro ys _ _;cases ys<;>simp [Lib.bytesOf]
 | cons a l ih =>
  intro ys hx hy;cases ys with
  | nil=>simp [Lib.bytesOf]
  | cons a' l' =>
   have h1:a < 256:=hx a (by simp);have h2:a' < 256:=hy a' (by simp);have:=ih l' (fun x h=>hx x (by simp [h])) (fun x h=>hy x (by simp [h]));have e:(UInt8.ofNat a == UInt8.ofNat a')=decide (a=a'):=by
    rw [Bool.eq_iff_iff];simp only [beq_iff_eq,decide_eq_true_eq];constructor
    ·intro h;have:=congrArg UInt8.toNat h;simp [UInt8.toNat_ofNat'] at this;omega
    ·rintro rfl;rfl
   simp only [Lib.bytesOf,List.map_cons,List.map_map,Int.toNat_natCast,List.cons_beq_cons,e] at this ⊢;rw [this];simp
theorem bytesEqual_any (w:World) (b b':Nat) (A A':Option Addr) (n c n' c':Nat) (xs ys:List Nat) (hn:n=xs.length) (hn':n'=ys.length)
  (hr:Rd w b A (cN .u8 xs)) (hr':Rd w b' A' (cN .u8 ys)) (hx:∀ x∈xs,x < 256) (hy:∀ y∈ys,y < 256) :
  Calls Tryz.prog 23 #[.slice A n c,.slice A' n' c'] w fun e w'=>e=.returned (.bool (decide (xs=ys)))∧w=w':=by
 refine (Tryz.bytes_Equal_all A A' n c n' c' (xs.map fun x:Nat=>(x:Int)) (ys.map fun x:Nat=>(x:Int)) w (by simp [hn]) (by simp [hn']) (by rw [hn];exact bytesIn_of hr) (by rw [hn'];exact bytesIn_of hr')).mono ?_;rintro e w' ⟨rfl,rfl⟩;exact ⟨ret_bool (bytesOf_inj xs ys hx hy),rfl⟩
end
section
open Go Go.RowKit
section
variable {w w':World} {g b:Nat} {bytes:List Nat} {pos:Nat}
end
theorem ret_u64 {a b:Int} (h:a=b):Ending.returned (.int .u64 a)=.returned (.int .u64 b):=by rw [h]
def rest (bytes:List Nat) (pos:Nat):List Bool:=(up bytes).drop pos
def endE (bs:List Bool):Nat:=if 8≤bs.length∨true∈bs then 4 else 0
end
section
open Go Go.RowKit Go.Sort
abbrev winV (a n:Int):Value:=.agg #[.int .i64 a,.int .i64 n]
def winOf:Win→Value
 | none=>winV 0 0
 | some (a,b)=>winV a ((64 - a - b:Nat):Int)
theorem trail_any (w:World) (a n:Nat) (h:a+n≤64):Calls Tryz.prog 316 #[winV a n] w fun e w'=>e=.returned (.int .i64 ((64 - a - n:Nat):Int))∧Gr w w':=by
 have e1:(64:Int) - (a:Int) - (n:Int)=((64 - a - n:Nat):Int):=by omega
 go_enter Tryz.func316,Tryz.ntmps316
 go_wp2;go_ret;exact ⟨by simp,Gr.alloc _ _⟩
theorem LeadingZeros64_any (w:World) (x:Nat) (hx:x < 18446744073709551616):Calls Tryz.prog 343 #[.int .u64 (x:Int)] w fun e w'=>e=.returned (.int .i64 (lz x:Int))∧w=w':=by
 have h:=Tryz.bits_LeadingZeros64 (x:Int) w (by omega) (by omega);have hl:=Lib.bitLen_le x 64 (by omega) (by rw [pow64];exact hx);have e1:(64:Int) - (Lib.bitLen x:Int)=(lz x:Int):=by unfold lz;omega
 simp only [Int.toNat_natCast,e1] at h;exact h.mono fun e w' h=>⟨h.1,h.2.symm⟩
theorem windowOf_any (w:World) (x:Nat) (hG:Gl w) (h0:x≠0) (hx:x < 18446744073709551616):Calls Tryz.prog 317 #[.int .u64 (x:Int)] w fun e w'=>e=.returned (winV (lz x) ((64 - lz x - tz x:Nat):Int))∧Gr w w':=by
 have hlt:=lz_tz h0 hx;have HL:=hid fun W:World=>LeadingZeros64_any W x hx
 have HT:=hid fun (W:World) (hN:Nw w W)=>TrailingZeros64_any W x (hG.nw hN) h0 hx
 have e1:(64:Int) - (lz x:Int) - (tz x:Int)=((64 - lz x - tz x:Nat):Int):=by omega
 clear hG h0 hx;generalize lz x=a at *;generalize tz x=b at *;go_enter Tryz.func317,Tryz.ntmps317
 go_wp2_with (first
  | (go_at_call 343;refine (HL.out _).mono ?_;rintro e w1 ⟨rfl,rfl⟩)
  | (go_at_call 344;refine (HT.out _ (Nw.alloc' (Nw.refl w) _)).mono ?_;rintro e w1 ⟨rfl,rfl⟩))
 refine bodyPost_ret (results_cell_row rfl _ _ w.heap.size 370 _ _ _ rfl (heap_alloc_new _ _) Tryz.underlying370 rfl (by kernel_rfl)) rfl ?_;exact ⟨rfl,Gr.alloc _ _⟩
set_option maxHeartbeats 2000000 in
theorem fits_any (w:World) (g x:Nat) (win:Win) (hG:Gl w) (hw:WinOk win) (h0:x≠0) (hx:x < 18446744073709551616) (hg:g < w.heap.size)
  (hc:∃ a n:Int,winOf win=winV a n∧w.cell? ⟨g,1,none⟩=some (.int .i64 a)∧w.cell? ⟨g,2,none⟩=some (.int .i64 n)) :
  Calls Tryz.prog 318 #[.pointer (some ⟨g,0,none⟩),.int .u64 (x:Int)] w fun e w'=>e=.returned (.bool (decide (fits win x)))∧Gr w w':=by
 obtain ⟨a0,n0,hwv,hc1,hc2⟩:=hc;cases win with
 | none =>
  injection hwv with e;injection e with e;injection e with e1 e2;injection e2 with e2 _;injection e1 with _ e1;injection e2 with _ e2
  subst e1 e2;clear hG;go_enter Tryz.func318,Tryz.ntmps318
  go_wp2;go_ret;exact ⟨by show _=Ending.returned (.bool (decide False));simp,Gr.refl _⟩
 | some ab =>
  obtain ⟨a,b⟩:=ab;injection hwv with e;injection e with e;injection e with e1 e2;injection e2 with e2 _;injection e1 with _ e1;injection e2 with _ e2
  subst e1 e2;have hw':a+b≤63:=hw;have hlt:=lz_tz h0 hx;have HW:=hid (windowOf_any w x hG h0 hx);have HT:=hid fun (W:World) (a n:Nat) (h:a+n≤64)=>trail_any W a n h
  clear hG h0 hx hw;have hn:(((64 - a - b:Nat):Int) == 0)=false:=by rw [beq_eq_false_iff_ne];omega
  go_enter Tryz.func318,Tryz.ntmps318
  go_wp2_with (go_at_call 317;refine HW.out.mono ?_;rintro e w1 ⟨rfl,hgr⟩)
  have hgn:Nw w w1:=hgr.nw;generalize hwq:World.alloc w1 _=wq;have hs1:=hgn.size;have hlw:w1.heap.size < wq.heap.size:=by rw [← hwq];simp
  have hd1:∀ p:Gp,(grow (wq.drewN p.n) p.os).cell? ⟨w1.heap.size,0,none⟩=some (.int .i64 (lz x:Int)):=cell_gr hlw (by rw [← hwq];simp);have hd2:∀ p:Gp,(grow (wq.drewN p.n) p.os).cell? ⟨w1.heap.size,1,none⟩=some (.int .i64 ((64 - lz x - tz x:Nat):Int)):=cell_gr hlw (by rw [← hwq];simp);have hnq:Nw w wq:=by rw [← hwq];exact hgn.alloc' _
  have hgq:Gr w wq:=by rw [← hwq];exact hgr.trans (Gr.alloc _ _)
  have hd3:∀ p:Gp,(grow (wq.drewN p.n) p.os).cell? ⟨g,1,none⟩=some (.int .i64 (a:Int)):=cell_gr (Nat.lt_of_lt_of_le hg hnq.size) (cell_old hnq hg hc1);have hd4:∀ p:Gp,(grow (wq.drewN p.n) p.os).cell? ⟨g,2,none⟩=some (.int .i64 ((64 - a - b:Nat):Int)):=cell_gr (Nat.lt_of_lt_of_le hg hnq.size) (cell_old hnq hg hc2);have HQ:=hid hgq;clear hgq hnq hwq hgn hgr hs1 hc1 hc2 HW;by_cases hle:a≤lz x
  ·have hd:decide ((a:Int)≤(lz x:Int))=true:=by simp [hle]
   refine wp_region_gr (by kernel_rfl) (by kernel_rfl) ?_
   repeat (quiet_step (first | (go_at_call 316;refine Calls.gr (HT.out _ _ _ (by omega)))))
   refine wpQuiet_nil ?_;rintro _ ⟨p,rfl⟩;go_wp2;go_ret;refine ⟨?_,HQ.out.trans ⟨p,rfl⟩⟩;refine congrArg Ending.returned (congrArg Value.bool ?_);show decide _=decide (a≤lz x∧b≤tz x)
   rw [decide_eq_decide];omega
  ·have hd:decide ((a:Int)≤(lz x:Int))=false:=by simp;omega
   refine wp_region_gr (by kernel_rfl) (by kernel_rfl) ?_
   repeat (with_reducible refine wpQuiet_step ?_;intro K hK;go_simp;refine hK _ ?_;clear hK K)
   refine wpQuiet_nil ?_;rintro _ ⟨p,rfl⟩;go_wp2;go_ret;refine ⟨?_,HQ.out.trans ⟨p,rfl⟩⟩;rw [show decide (fits (some (a,b)) x)=false from decide_eq_false (fun h=>hle h.1)];rfl
end
section
open Go Go.RowKit Go.Sort
def glue {α β:Type} (l:List α) (X:Except Nat (List α × β)):Except Nat (List α × β) :=
 match X with
 | .error e=>.error e
 | .ok (l2,r)=>.ok (l++l2,r)
end
section
open Go Go.RowKit Go.Sort
theorem ext7 (u:Nat):wrap64 (IntKind.u64.wrap ((u:Int)*144115188075855872)) / 144115188075855872=sext (u % 2 ^ 7) 7:=by
 rw [IntKind.wrap_u64];unfold wrap64 sext;simp only [Nat.reducePow,Nat.reduceSub];rw [if_neg (by omega)];split<;>omega
theorem ext12 (u:Nat):wrap64 (IntKind.u64.wrap ((u:Int)*4503599627370496)) / 4503599627370496=sext (u % 2 ^ 12) 12:=by
 rw [IntKind.wrap_u64];unfold wrap64 sext;simp only [Nat.reducePow,Nat.reduceSub];rw [if_neg (by omega)];split<;>omega
theorem ext32 (u:Nat):wrap64 (IntKind.u64.wrap ((u:Int)*4294967296)) / 4294967296=sext (u % 2 ^ 32) 32:=by
 rw [IntKind.wrap_u64];unfold wrap64 sext;simp only [Nat.reducePow,Nat.reduceSub];rw [if_neg (by omega)];split<;>omega
theorem ext64 (u:Nat):wrap64 (u:Int)=sext (u % 2 ^ 64) 64:=by
 unfold wrap64 sext;simp only [Nat.reducePow,Nat.reduceSub];rw [if_neg (by omega)];split<;>omega
set_option maxRecDepth 100000 in
theorem extend_any (w:World) (u k:Nat) (hu:u < 18446744073709551616) (hk:k≤4) :
  Calls Tryz.prog 274 #[.int .u64 (u:Int),.int .i64 (twid k:Int)] w fun e w'=>e=.returned (.int .i64 (sext (u % 2 ^ twid k) (twid k)))∧w=w':=by
 have:k=0∨k=1∨k=2∨k=3∨k=4:=by omega
 rcases this with rfl | rfl | rfl | rfl | rfl
 ·simp only [twid];go_enter Tryz.func274,Tryz.ntmps274
  go_wp2;go_ret;exact ⟨by simp [sext],rfl⟩
 ·simp only [twid];go_enter Tryz.func274,Tryz.ntmps274
  go_wp2;go_ret;refine ⟨congrArg Ending.returned (congrArg (Value.int IntKind.i64) ?_),rfl⟩;show wrap64 (IntKind.u64.wrap ((u:Int)*144115188075855872)) / 144115188075855872=_
  exact ext7 u
 ·simp only [twid];go_enter Tryz.func274,Tryz.ntmps274
  go_wp2;go_ret;refine ⟨congrArg Ending.returned (congrArg (Value.int IntKind.i64) ?_),rfl⟩;show wrap64 (IntKind.u64.wrap ((u:Int)*4503599627370496)) / 4503599627370496=_
  exact ext12 u
 ·simp only [twid];go_enter Tryz.func274,Tryz.ntmps274
  go_wp2;go_ret;refine ⟨congrArg Ending.returned (congrArg (Value.int IntKind.i64) ?_),rfl⟩;show wrap64 (IntKind.u64.wrap ((u:Int)*4294967296)) / 4294967296=_
  exact ext32 u
 ·simp only [twid];go_enter Tryz.func274,Tryz.ntmps274
  go_wp2;go_ret;refine ⟨congrArg Ending.returned (congrArg (Value.int IntKind.i64) ?_),rfl⟩;show wrap64 (u:Int)=_
  exact ext64 u
theorem tform_1 {x:Int} (h:-64≤x∧x≤63):tform x≤1:=by
 unfold tform;repeat' split
 all_goals omega
theorem tform_2 {x:Int} (h:-2048≤x∧x≤2047):tform x≤2:=by
 unfold tform;repeat' split
 all_goals omega
theorem tform_3 {x:Int} (h:-2147483648≤x∧x≤2147483647):tform x≤3:=by
 unfold tform;repeat' split
 all_goals omega
theorem sext_form {u k:Nat} (hk:k≤4) (h:u < 2 ^ twid k):tform (sext u (twid k))≤k:=by
 have:k=0∨k=1∨k=2∨k=3∨k=4:=by omega
 rcases this with rfl | rfl | rfl | rfl | rfl<;>simp only [twid] at h ⊢
 ·simp [sext,tform]
 ·refine tform_1 ?_;unfold sext;simp only [Nat.reducePow,Nat.reduceSub] at h ⊢;rw [if_neg (by omega)];split<;>omega
 ·refine tform_2 ?_;unfold sext;simp only [Nat.reducePow,Nat.reduceSub] at h ⊢;rw [if_neg (by omega)];split<;>omega
 ·refine tform_3 ?_;unfold sext;simp only [Nat.reducePow,Nat.reduceSub] at h ⊢;rw [if_neg (by omega)];split<;>omega
 ·exact tform_le _
theorem form_test {x:Int} {k:Nat} (hI:I6 x) (hk:k≤tform x):sext (uw x % 2 ^ twid k) (twid k)=x↔k=tform x:=by
 have h4:=tform_le x;constructor
 ·intro h;have:=sext_form (k:=k) (u:=uw x % 2 ^ twid k) (by omega) (Nat.mod_lt _ (Nat.pow_pos (by omega)));rw [h] at this;omega
 ·rintro rfl;exact sext_uw hI
set_option maxRecDepth 100000 in
set_option maxHeartbeats 2000000 in
theorem formOf_any (w:World) (x:Int) (hI:I6 x) (hG:Gl w):Calls Tryz.prog 252 #[.int .i64 x] w fun e w'=>e=.returned (.int .i64 (tform x:Int))∧Gr w w':=by
 have hux:IntKind.u64.wrap x=((uw x:Nat):Int):=by rw [IntKind.wrap_u64];unfold uw;omega
 have h4:=tform_le x;have c0:w.cell? ⟨0,0,none⟩=some (.int .u64 0):=hG.forms 0 _ rfl;have c1:w.cell? ⟨0,1,none⟩=some (.int .i64 1):=hG.forms 1 _ rfl;have c2:w.cell? ⟨0,2,none⟩=some (.int .i64 0):=hG.forms 2 _ rfl;have c3:w.cell? ⟨0,3,none⟩=some (.int .u64 2):=hG.forms 3 _ rfl;have c4:w.cell? ⟨0,4,none⟩=some (.int .i64 2):=hG.forms 4 _ rfl;have c5:w.cell? ⟨0,5,none⟩=some (.int .i64 7):=hG.forms 5 _ rfl;have c6:w.cell? ⟨0,6,none⟩=some (.int .u64 6):=hG.forms 6 _ rfl;have c7:w.cell? ⟨0,7,none⟩=some (.int .i64 3):=hG.forms 7 _ rfl;have c8:w.cell? ⟨0,8,none⟩=some (.int .i64 12):=hG.forms 8 _ rfl;have c9:w.cell? ⟨0,9,none⟩=some (.int .u64 14):=hG.forms 9 _ rfl;have c10:w.cell? ⟨0,10,none⟩=some (.int .i64 4):=hG.forms 10 _ rfl;have c11:w.cell? ⟨0,11,none⟩=some (.int .i64 32):=hG.forms 11 _ rfl;have c12:w.cell? ⟨0,12,none⟩=some (.int .u64 15):=hG.forms 12 _ rfl;have c13:w.cell? ⟨0,13,none⟩=some (.int .i64 4):=hG.forms 13 _ rfl;have c14:w.cell? ⟨0,14,none⟩=some (.int .i64 64):=hG.forms 14 _ rfl;have i0:∀ W,(Instr.index 350 (.agg #[.int .u64 0,.int .i64 1,.int .i64 0,.int .u64 2,.int .i64 2,.int .i64 7,.int .u64 6,.int .i64 3,.int .i64 12,.int .u64 14,.int .i64 4,.int .i64 32,.int .u64 15,.int .i64 4,.int .i64 64]) (.int .i64 0)).run Tryz.prog W=.ok (.agg #[.int .u64 0,.int .i64 1,.int .i64 0]) W:=fun _=>by kernel_rfl
 have i1:∀ W,(Instr.index 350 (.agg #[.int .u64 0,.int .i64 1,.int .i64 0,.int .u64 2,.int .i64 2,.int .i64 7,.int .u64 6,.int .i64 3,.int .i64 12,.int .u64 14,.int .i64 4,.int .i64 32,.int .u64 15,.int .i64 4,.int .i64 64]) (.int .i64 1)).run Tryz.prog W=.ok (.agg #[.int .u64 2,.int .i64 2,.int .i64 7]) W:=fun _=>by kernel_rfl
 have i2:∀ W,(Instr.index 350 (.agg #[.int .u64 0,.int .i64 1,.int .i64 0,.int .u64 2,.int .i64 2,.int .i64 7,.int .u64 6,.int .i64 3,.int .i64 12,.int .u64 14,.int .i64 4,.int .i64 32,.int .u64 15,.int .i64 4,.int .i64 64]) (.int .i64 2)).run Tryz.prog W=.ok (.agg #[.int .u64 6,.int .i64 3,.int .i64 12]) W:=fun _=>by kernel_rfl
 have i3:∀ W,(Instr.index 350 (.agg #[.int .u64 0,.int .i64 1,.int .i64 0,.int .u64 2,.int .i64 2,.int .i64 7,.int .u64 6,.int .i64 3,.int .i64 12,.int .u64 14,.int .i64 4,.int .i64 32,.int .u64 15,.int .i64 4,.int .i64 64]) (.int .i64 3)).run Tryz.prog W=.ok (.agg #[.int .u64 14,.int .i64 4,.int .i64 32]) W:=fun _=>by kernel_rfl
 have i4:∀ W,(Instr.index 350 (.agg #[.int .u64 0,.int .i64 1,.int .i64 0,.int .u64 2,.int .i64 2,.int .i64 7,.int .u64 6,.int .i64 3,.int .i64 12,.int .u64 14,.int .i64 4,.int .i64 32,.int .u64 15,.int .i64 4,.int .i64 64]) (.int .i64 4)).run Tryz.prog W=.ok (.agg #[.int .u64 15,.int .i64 4,.int .i64 64]) W:=fun _=>by kernel_rfl
 clear hG;go_enter Tryz.func252,Tryz.ntmps252
 go_wp2;go_loopw [6] (fun i wr=>∃ k:Nat,k≤tform x∧i=.int .i64 k∧Gr w wr) (fun i _=>5 - (intOf i).toNat)
 case atStart=>exact ⟨0,by omega,rfl,Gr.refl _⟩
 case round =>
  obtain ⟨k,hk,rfl,hgr⟩:=hrel;have hk5:k=0∨k=1∨k=2∨k=3∨k=4:=by omega
  rcases hk5 with rfl | rfl | rfl | rfl | rfl
  ·have HE:=hid fun W:World=>extend_any W (uw x) 0 (uw_lt x) (by omega)
   simp only [twid] at HE;by_cases hx:0=tform x
   ·have hq:((sext (uw x % 2 ^ twid 0) (twid 0)) == x)=true:=by rw [beq_iff_eq];exact (form_test hI hk).2 hx
    simp only [twid] at hq;generalize sext (uw x % 2 ^ 0) 0=y at *;have HXX:=hid hx;clear hx;go_wp2_with (go_at_call 274;refine (HE.out _).mono ?_;rintro e w1 ⟨rfl,rfl⟩)
    go_ret;exact ⟨by rw [← HXX.out];rfl,hgr.trans (Gr.alloc _ _)⟩
   ·have hq:((sext (uw x % 2 ^ twid 0) (twid 0)) == x)=false:=by rw [beq_eq_false_iff_ne];exact fun h=>hx ((form_test hI hk).1 h)
    simp only [twid] at hq;generalize sext (uw x % 2 ^ 0) 0=y at *;have HXX:=hid hx;clear hx;go_wp2_with (go_at_call 274;refine (HE.out _).mono ?_;rintro e w1 ⟨rfl,rfl⟩)
    go_roundw
    case rel=>exact ⟨1,by have:=HXX.out;omega,by simp,hgr.trans (Gr.alloc _ _)⟩
    case measure=>simp [intOf]
  ·have HE:=hid fun W:World=>extend_any W (uw x) 1 (uw_lt x) (by omega)
   simp only [twid] at HE;by_cases hx:1=tform x
   ·have hq:((sext (uw x % 2 ^ twid 1) (twid 1)) == x)=true:=by rw [beq_iff_eq];exact (form_test hI hk).2 hx
    simp only [twid] at hq;generalize sext (uw x % 2 ^ 7) 7=y at *;have HXX:=hid hx;clear hx;go_wp2_with (go_at_call 274;refine (HE.out _).mono ?_;rintro e w1 ⟨rfl,rfl⟩)
    go_ret;exact ⟨by rw [← HXX.out];rfl,hgr.trans (Gr.alloc _ _)⟩
   ·have hq:((sext (uw x % 2 ^ twid 1) (twid 1)) == x)=false:=by rw [beq_eq_false_iff_ne];exact fun h=>hx ((form_test hI hk).1 h)
    simp only [twid] at hq;generalize sext (uw x % 2 ^ 7) 7=y at *;have HXX:=hid hx;clear hx;go_wp2_with (go_at_call 274;refine (HE.out _).mono ?_;rintro e w1 ⟨rfl,rfl⟩)
    go_roundw
    case rel=>exact ⟨2,by have:=HXX.out;omega,by simp,hgr.trans (Gr.alloc _ _)⟩
    case measure=>simp [intOf]
  ·have HE:=hid fun W:World=>extend_any W (uw x) 2 (uw_lt x) (by omega)
   simp only [twid] at HE;by_cases hx:2=tform x
   ·have hq:((sext (uw x % 2 ^ twid 2) (twid 2)) == x)=true:=by rw [beq_iff_eq];exact (form_test hI hk).2 hx
    simp only [twid] at hq;generalize sext (uw x % 2 ^ 12) 12=y at *;have HXX:=hid hx;clear hx;go_wp2_with (go_at_call 274;refine (HE.out _).mono ?_;rintro e w1 ⟨rfl,rfl⟩)
    go_ret;exact ⟨by rw [← HXX.out];rfl,hgr.trans (Gr.alloc _ _)⟩
   ·have hq:((sext (uw x % 2 ^ twid 2) (twid 2)) == x)=false:=by rw [beq_eq_false_iff_ne];exact fun h=>hx ((form_test hI hk).1 h)
    simp only [twid] at hq;generalize sext (uw x % 2 ^ 12) 12=y at *;have HXX:=hid hx;clear hx;go_wp2_with (go_at_call 274;refine (HE.out _).mono ?_;rintro e w1 ⟨rfl,rfl⟩)
    go_roundw
    case rel=>exact ⟨3,by have:=HXX.out;omega,by simp,hgr.trans (Gr.alloc _ _)⟩
    case measure=>simp [intOf]
  ·have HE:=hid fun W:World=>extend_any W (uw x) 3 (uw_lt x) (by omega)
   simp only [twid] at HE;by_cases hx:3=tform x
   ·have hq:((sext (uw x % 2 ^ twid 3) (twid 3)) == x)=true:=by rw [beq_iff_eq];exact (form_test hI hk).2 hx
    simp only [twid] at hq;generalize sext (uw x % 2 ^ 32) 32=y at *;have HXX:=hid hx;clear hx;go_wp2_with (go_at_call 274;refine (HE.out _).mono ?_;rintro e w1 ⟨rfl,rfl⟩)
    go_ret;exact ⟨by rw [← HXX.out];rfl,hgr.trans (Gr.alloc _ _)⟩
   ·have hq:((sext (uw x % 2 ^ twid 3) (twid 3)) == x)=false:=by rw [beq_eq_false_iff_ne];exact fun h=>hx ((form_test hI hk).1 h)
    simp only [twid] at hq;generalize sext (uw x % 2 ^ 32) 32=y at *;have HXX:=hid hx;clear hx;go_wp2_with (go_at_call 274;refine (HE.out _).mono ?_;rintro e w1 ⟨rfl,rfl⟩)
    go_roundw
    case rel=>exact ⟨4,by have:=HXX.out;omega,by simp,hgr.trans (Gr.alloc _ _)⟩
    case measure=>simp [intOf]
  ·have HE:=hid fun W:World=>extend_any W (uw x) 4 (uw_lt x) (by omega)
   simp only [twid] at HE;by_cases hx:4=tform x
   ·have hq:((sext (uw x % 2 ^ twid 4) (twid 4)) == x)=true:=by rw [beq_iff_eq];exact (form_test hI hk).2 hx
    simp only [twid] at hq;generalize sext (uw x % 2 ^ 64) 64=y at *;have HXX:=hid hx;clear hx;go_wp2_with (go_at_call 274;refine (HE.out _).mono ?_;rintro e w1 ⟨rfl,rfl⟩)
    go_ret;exact ⟨by rw [← HXX.out];rfl,hgr.trans (Gr.alloc _ _)⟩
   ·have hq:((sext (uw x % 2 ^ twid 4) (twid 4)) == x)=false:=by rw [beq_eq_false_iff_ne];exact fun h=>hx ((form_test hI hk).1 h)
    simp only [twid] at hq;generalize sext (uw x % 2 ^ 64) 64=y at *;have HXX:=hid hx;clear hx;go_wp2_with (go_at_call 274;refine (HE.out _).mono ?_;rintro e w1 ⟨rfl,rfl⟩)
    go_roundw
    case rel=>exact ⟨5,by have:=HXX.out;omega,by simp,hgr.trans (Gr.alloc _ _)⟩
    case measure=>simp [intOf]
end
section
open Go Go.RowKit Go.Sort
theorem E_i64:ElemT Tryz.prog 233 2 (.int .i64 0) 1 8:=ElemT.mk' Tryz.underlying233 (by kernel_rfl) rfl (by omega)
end
section
open Go Go.RowKit Go.Sort Go.Shelf
attribute [local go_sem] Oper.semAt_some
abbrev I6S:={ x:Int // I6 x }
def KpC (B bl:Nat) (W W':World):Prop:=W'.heap[B]? = W.heap[B]?∧W'.heap[bl]? = W.heap[bl]?∧W.heap.size≤W'.heap.size
theorem KpC.trans {B bl:Nat} {X Y Z:World} (h:KpC B bl X Y) (k:KpC B bl Y Z):KpC B bl X Z:=⟨k.1.trans h.1,k.2.1.trans h.2.1,Nat.le_trans h.2.2 k.2.2⟩
theorem Rd.kpc {b B:Nat} {w w':World} {A:Option Addr} {xs:List Value} (h:Rd w b A xs) (hk:KpC B b w w'):Rd w' b A xs:=by
 rcases h with rfl | ⟨o,e,hlt,hc⟩
 ·exact .inl rfl
 ·exact .inr ⟨o,e,Nat.lt_of_lt_of_le hlt hk.2.2,fun j u hu=>(World.cell?_of_block hk.2.1).trans (hc j u hu)⟩
theorem changes_any (w:World) (A:Option Addr) (n c:Nat):Calls Tryz.prog 251 #[.slice A n c] w fun e w'=>e=.returned (.func (.func 300) #[] #[.pointer (some ⟨w.heap.size,0,none⟩)])∧w'=w.alloc (.cells #[.slice A n c] 233):=by
 go_enter Tryz.func251,Tryz.ntmps251
 go_wp2;go_ret;exact ⟨rfl,rfl⟩
set_option maxRecDepth 100000 in
theorem changes_stops (n:Nat) (hn:1≤n) (w:World) (B bl:Nat) (A:Option Addr) (c:Nat) (l:List Int) (hm:l.length≤1000000) (hl:∀ x∈l,I6 x) (hB:w.heap[B]? = some (.cells #[.slice A l.length c] 233 (0,0))) (hr:Rd w bl A (cI .i64 l)) :
  SeqStopsK Fence.wide n Tryz.prog 300 #[.pointer (some ⟨B,0,none⟩)] (fun x:I6S=>#[.int .i64 x.1]) (KpC B bl) (fun xs=>xs.map (·.1)=chg l) (fun _=>True) (chg l).length w:=by
 intro lp J Jx W hW hJ hJx hY h0;have HL:=hid hl;have hBW:=(hW.block B (lt_of_block hB)).trans hB;have hrW:=hr.nw hW;clear hl;refine callsIn_of_wp Tryz.func300 rfl trivial ?_ rfl;simp only [Tryz.ntmps300,List.size_toArray,List.length_cons,List.length_nil,Nat.reduceAdd,Nat.reduceSub,Array.replicate_succ,Array.replicate_zero,List.push_toArray,List.append_toArray,List.nil_append,List.cons_append]
 gi_wp2
 gi_loopw [3,4] (fun v3 v4 wr=>∃ (pre:List I6S) (k:Nat) (d:Int),v4=.int .i64 ((k:Int)+1)∧v3=.int .i64 d∧pre.length=k∧J pre wr∧KpC B bl W wr ∧
  ((l=[]∧k=0∧pre=[])∨∃ t,l[k]? = some t∧chg l=pre.map (·.1)++chgF t d (l.drop (k+1)))) (fun _ v4 _=>l.length - (intOf v4).toNat)
 case atStart =>
  refine ⟨[],0,0,rfl,rfl,rfl,h0,⟨rfl,rfl,Nat.le_refl _⟩,?_⟩;cases l with
  | nil=>exact .inl ⟨rfl,rfl,rfl⟩
  | cons t r=>exact .inr ⟨t,rfl,rfl⟩
 case round =>
  obtain ⟨pre,k,d,rfl,rfl,hp,hJp,hK,hrel⟩:=hrel;have hBr:wr.cell? ⟨B,0,none⟩=some (.slice A l.length c):=by
   have:=hK.1.trans hBW;simp [World.cell?,this]
  by_cases hlt:k+1 < l.length
  ·rcases hrel with ⟨rfl,_⟩ | ⟨t,ht,hch⟩
   ·simp at hlt
   ·have hltI:(k:Int)+1 < (l.length:Int):=by omega
    obtain ⟨o,rfl,_,hc1⟩:=(hrW.kpc hK).get (k:=k+1) (by simpa using hlt);obtain ⟨o',ho',_,hc0⟩:=(hrW.kpc hK).get (k:=k) (by simp;omega);obtain rfl:o=o':=by simpa using ho'
    rw [List.getElem_map] at hc1 hc0;have ht':l[k]=t:=by
     rw [List.getElem?_eq_getElem (by omega)] at ht;exact Option.some.inj ht
    rw [ht'] at hc0;have hd:l.drop (k+1)=l[k+1]::l.drop (k+2):=List.drop_eq_getElem_cons hlt;generalize l[k+1]=t' at *;rw [hd] at hch;have hplen:pre.length < (chg l).length:=by rw [hch];simp [chgF]
    have HCH:=hid hch;have HK:=hid hK;have HY:=hid hY;have HD:=hid hd;have HJ:=hid hJ;have HT:=hid (show l[k+1]? = some t' from by
     have:=congrArg (fun z=>z[0]?) hd;simpa using this)
    have HP:=hid hp;have HH:=hid hrW;have HB0:=hid hBW;clear hch hK hY hd hJ hJx h0 hp hB hr hBW hrW ho' ht ht'
    gi_wp2
    refine wpIn_wide.2 ?_;go_quiet (fail)
    have hJ2:J pre (wr.drewN nq):=HJ.out pre wr _ none hJp ⟨rfl,rfl,rfl,Nat.le_refl _,fun _ _ _=>rfl⟩ (fun r e=>by cases e);obtain ⟨fn,tmps,assign,body,hy,hR⟩:=HY.out pre ⟨wrap64 (wrap64 (t' - t) - d),I6.w _⟩ _ hJ2 hplen;have HR:=hid hR;clear hR hJp hJ2
    gi_wp2
    refine HR.out.mono ?_;rintro e W3 (⟨rfl,hJ3,hk3⟩ | ⟨rfl,hJx3⟩)
    ·gi_wp2
     go_roundw
     case rel =>
      refine ⟨pre++[⟨wrap64 (wrap64 (t' - t) - d),I6.w _⟩],k+1,wrap64 (t' - t),?_,rfl,by simp [HP.out],hJ3,HK.out.trans hk3,.inr ⟨t',HT.out,?_⟩⟩
      ·simp
      ·rw [HCH.out];simp [chgF]
     case measure=>simp [intOf];omega
    ·gi_wp2
     refine bodyPost_ret (results_none rfl _ _ _) rfl ?_;exact ⟨⟨_,rfl⟩,.inr ⟨_,trivial,hJx3⟩⟩
  ·have hltI:¬ (k:Int)+1 < (l.length:Int):=by omega
   have HREL:=hid hrel;clear hrel
   gi_wp2
   go_end0
   refine ⟨⟨_,rfl⟩,.inl ⟨pre,?_,hJp⟩⟩;rcases HREL.out with ⟨rfl,_,rfl⟩ | ⟨t,ht,hch⟩
   ·rfl
   ·rw [List.drop_eq_nil_of_le (by omega)] at hch;simpa [chgF] using hch.symm
end
end Go.Proofs.YticphebaflnedaaGreatDoor
