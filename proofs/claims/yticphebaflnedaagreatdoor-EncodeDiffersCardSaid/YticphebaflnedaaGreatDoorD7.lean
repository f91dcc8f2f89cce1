/- Laws that the last text builds on. -/
import Derived.Test.YticphebaflnedaaGreatDoorD6
import Derived.Test.YticphebaflnedaaGreatDoorProg
namespace Go.Proofs.YticphebaflnedaaGreatDoor
open Go.Lib(hid)
section
open Go Go.RowKit Go.Sort Go.Shelf
attribute [local go_sem] Oper.semAt_some
def partsF:Nat→Nat→Nat→List (Nat × Nat)
 | 0,_,_=>[]
 | f+1,n,i=>if i < n then (i,min 120 (n - i))::partsF f n (i+120) else []
def parts (n i:Nat):List (Nat × Nat):=partsF (n - i) n i
theorem partsF_more:∀ (f g n i:Nat),n - i≤f→f≤g→partsF f n i=partsF g n i:=by
 intro f;induction f with
 | zero =>
  intro g n i h _;cases g with
  | zero=>rfl
  | succ g=>rw [partsF,partsF,if_neg (by omega)]
 | succ f ih =>
  intro g n i h hg;obtain ⟨m,rfl⟩:∃ m,g=m+1:=⟨g - 1,by omega⟩;rw [partsF,partsF];split
  ·rw [ih m n (i+120) (by omega) (by omega)]
  ·rfl
theorem parts_lt {n i:Nat} (h:i < n):parts n i=(i,min 120 (n - i))::parts n (i+120):=by
 unfold parts;rw [show n - i=(n - i - 1)+1 by omega,partsF,if_pos h,show (n - i - 1)+1=n - i by omega];rw [partsF_more (n - (i+120)) (n - i - 1) n (i+120) (by omega) (by omega)]
theorem parts_ge {n i:Nat} (h:n≤i):parts n i=[]:=by
 unfold parts;rw [show n - i=0 by omega];rfl
theorem parts_length (n:Nat):∀ (f i:Nat),n - i≤f→(parts n i).length=(n - i+119) / 120:=by
 intro f;induction f with
 | zero=>intro i h;rw [parts_ge (by omega)];simp;omega
 | succ f ih =>
  intro i h;by_cases hi:i < n
  ·rw [parts_lt hi,List.length_cons,ih (i+120) (by omega)];omega
  ·rw [parts_ge (by omega)];simp;omega
abbrev partV (bs:Nat) (x:Nat × Nat):Value:=.slice (some ⟨bs,x.1*2,none⟩) x.2 x.2
set_option maxRecDepth 100000 in
theorem chunk_stops (q:Nat) (hq:1≤q) (w:World) (B B2 bs:Nat) (A:Option Addr) (n c:Nat) (hm:n≤1000000) (hnc:n≤c) (hA:0 < n→A=some ⟨bs,0,none⟩) (hB:w.heap[B]? = some (.cells #[.slice A n c] 70 (0,0))) (hB2:w.heap[B2]? = some (.cells #[.int .i64 120] 3 (0,0))) :
  SeqStopsK Fence.wide q Tryz.prog 250 #[.pointer (some ⟨B,0,none⟩),.pointer (some ⟨B2,0,none⟩)] (fun x:Nat × Nat=>#[partV bs x]) (KpC B B2) (fun xs=>xs=parts n 0) (fun _=>True) (parts n 0).length w:=by
 intro lp J Jx W hW hJ hJx hY h0;have hBW:=(hW.block B (lt_of_block hB)).trans hB;have hBW2:=(hW.block B2 (lt_of_block hB2)).trans hB2;have HY:=hid hY;have HJ:=hid hJ;have HB0:=hid hBW;have HB2:=hid hBW2;have HA:=hid hA;clear hY hJ hB hB2 hBW hBW2 hA;refine callsIn_of_wp Tryz.func250 rfl trivial ?_ rfl;simp only [Tryz.ntmps250,List.size_toArray,List.length_cons,List.length_nil,Nat.reduceAdd,Nat.reduceSub,Array.replicate_succ,Array.replicate_zero,List.push_toArray,List.append_toArray,List.nil_append,List.cons_append]
 gi_wp2
 gi_loopw [4] (fun v wr=>∃ (pre:List (Nat × Nat)) (k:Nat),k≤n+120∧v=.int .i64 (k:Int)∧J pre wr∧KpC B B2 W wr∧parts n 0=pre++parts n k) (fun v _=>n+120 - (intOf v).toNat)
 case atStart=>exact ⟨[],0,by omega,rfl,h0,⟨rfl,rfl,Nat.le_refl _⟩,by simp⟩
 case round =>
  obtain ⟨pre,k,hk,rfl,hJp,hK,hrel⟩:=hrel;have hBr:wr.cell? ⟨B,0,none⟩=some (.slice A n c):=by
   have:=hK.1.trans HB0.out;simp [World.cell?,this]
  have hBr2:wr.cell? ⟨B2,0,none⟩=some (.int .i64 120):=by
   have:=hK.2.1.trans HB2.out;simp [World.cell?,this]
  have HREL:=hid hrel;have HK:=hid hK;clear hrel hK h0;by_cases hlt:k < n
  ·obtain rfl:=HA.out (by omega);have hltI:(k:Int) < (n:Int):=by omega
   have hk0:(0:Int)≤(k:Int):=by omega
   have hkn:(k:Int)≤(n:Int):=by omega
   have hncI:(n:Int)≤(c:Int):=by omega
   have hck:¬ c=k:=by omega
   have hkn':k≤n:=by omega
   gi_wp2
   refine wpIn_wide.2 ?_;refine wp_region_quiet_lit (by kernel_rfl) (by kernel_rfl) ?_
   with_reducible refine wpQuiet_step ?_;intro K hK;go_simp;refine hK _ ?_;clear hK K
   with_reducible refine wpQuiet_step ?_;intro K hK;go_simp;refine hK _ ?_;clear hK K
   with_reducible refine wpQuiet_step ?_;intro K hK;go_simp;refine hK _ ?_;clear hK K
   with_reducible refine wpQuiet_step ?_;intro K hK;go_simp;refine hK _ ?_;clear hK K
   with_reducible refine wpQuiet_step ?_;intro K hK;go_simp;refine hK _ ?_;clear hK K
   with_reducible refine wpQuiet_step ?_;intro K hK;go_simp;refine hK _ ?_;clear hK K
   with_reducible refine wpQuiet_step ?_;intro K hK;go_simp;refine hK _ ?_;clear hK K
   with_reducible refine wpQuiet_nil ?_
   rintro _ ⟨nq,rfl⟩;have he:((k:Int)+min 120 ((n - k:Nat):Int)).toNat - k=min 120 (n - k):=by omega
   have hJ2:J pre (wr.drewN nq):=HJ.out pre wr _ none hJp ⟨rfl,rfl,rfl,Nat.le_refl _,fun _ _ _=>rfl⟩ (fun r e=>by cases e);have hnext:parts n 0=(pre++[(k,min 120 (n - k))])++parts n (k+120):=by rw [HREL.out,parts_lt hlt];simp
   have hplen:pre.length < (parts n 0).length:=by rw [hnext];simp
   obtain ⟨fn,tmps,assign,body,hy,hR⟩:=HY.out pre (k,min 120 (n - k)) _ hJ2 hplen;dsimp only [partV] at hy;rw [← he] at hy;have HR:=hid hR;have HNX:=hid hnext;clear hR hJp hJ2 hnext hplen he
   gi_wp2
   refine HR.out.mono ?_;rintro e W3 (⟨rfl,hJ3,hk3⟩ | ⟨rfl,hJx3⟩)
   ·have hKW:=HK.out.trans hk3;have hBr3:W3.cell? ⟨B2,0,none⟩=some (.int .i64 120):=by
     have:=hKW.2.1.trans HB2.out;simp [World.cell?,this]
    have HKW:=hid hKW;clear hKW
    gi_wp2
    go_roundw
    case rel=>exact ⟨_,k+120,by omega,by simp,hJ3,HKW.out,HNX.out⟩
    case measure=>simp [intOf];omega
   ·gi_wp2
    refine bodyPost_ret (results_none rfl _ _ _) rfl ?_;exact ⟨⟨_,rfl⟩,.inr ⟨_,trivial,hJx3⟩⟩
  ·gi_wp2
   go_end0
   refine ⟨⟨_,rfl⟩,.inl ⟨pre,?_,hJp⟩⟩;rw [HREL.out,parts_ge (by omega),List.append_nil]
end
section
open Go Go.RowKit Go.Sort Go.Shelf
attribute [local go_sem] Oper.semAt_some
theorem E_rows:ElemT Tryz.prog 64 70 (.slice none 0 0) 1 24:=ElemT.mk' Tryz.underlying64 (by kernel_rfl) rfl (by omega)
def SplI (w:World) (bs:Nat) (pre:List (Nat × Nat)) (W:World):Prop :=
 ∃ bp Ap cp,W.heap[w.heap.size]? = some (.cells #[.slice Ap pre.length cp] 64 (0,0))∧Ow W bp 70 1 Ap pre.length cp (pre.map (partV bs))∧w.heap.size < bp∧Nw w W
theorem SplI.own {w:World} {bs D:Nat} (hD:w.heap.size < D):OwnFrom D (SplI w bs):=by
 intro pre W W' row h hg hr;obtain ⟨bp,Ap,cp,h1,h2,h3,h4⟩:=h;refine ⟨bp,Ap,cp,(hg.block _ (lt_of_block h1) (fun e=>by have:=(hr _ e.symm).1;omega)).trans h1,h2.own hg (fun r e=>(hr r e).2),h3,h4.grown' hg (fun k e=>by have:=(hr _ e).1;omega)⟩
theorem spl_box {W w2:World} {g bp:Nat} {v:Value} {t e:TypeId} {u:Value} {o:Obj} (hb:W.heap[g]? = some (.cells #[u] t (0,0))) (hbp:g < bp) (hown:∀ r,v.ownBlock=some r→r=bp∧∃ cs fr,W.heap[bp]? = some (.cells cs e fr)) (hg:(W.alloc o).grownBy w2 v.ownBlock) :
  w2.cell? ⟨g,0,none⟩=some u∧w2.frozen? ⟨g,0,none⟩=false:=by
 have h:=(hg.block g (by simp;have:=lt_of_block hb;omega) (fun e=>by have:=(hown _ e.symm).1;omega)).trans ((heap_alloc_old W o (lt_of_block hb)).trans hb);exact ⟨by simp [World.cell?,h],by simp [World.frozen?,h]⟩
set_option maxRecDepth 100000 in
theorem AppendSeq_any (w:World) (B B2 bs:Nat) (A:Option Addr) (n c:Nat) (hm:n≤1000000) (hnc:n≤c) (hA:0 < n→A=some ⟨bs,0,none⟩) (hB:w.heap[B]? = some (.cells #[.slice A n c] 70 (0,0))) (hB2:w.heap[B2]? = some (.cells #[.int .i64 120] 3 (0,0))) :
  Calls Tryz.prog 249 #[.slice none 0 0,.func (.func 250) #[] #[.pointer (some ⟨B,0,none⟩),.pointer (some ⟨B2,0,none⟩)]] w fun e w' =>
   ∃ bp Ap cp,e=.returned (.slice Ap (parts n 0).length cp)∧Ow w' bp 70 1 Ap (parts n 0).length cp ((parts n 0).map (partV bs))∧w.heap.size≤bp∧Nw w w':=by
 have hBl:=lt_of_block hB;have hBl2:=lt_of_block hB2;have hw1:Nw w (w.alloc (.cells #[.slice none 0 0] 64)):=(Nw.refl w).alloc' _;have hsz:(w.alloc (.cells #[.slice none 0 0] 64)).heap.size=w.heap.size+1:=by simp
 obtain ⟨i0,hi,hz0,hz1,hz2⟩:=E_rows.info;refine (callsIn_wide (n:=4)).1 ?_;refine callsIn_of_wp_marks Tryz.func249 rfl trivial ?_ rfl;simp only [Tryz.ntmps249,List.size_toArray,List.length_cons,List.length_nil,Nat.reduceAdd,Nat.reduceSub,Array.replicate_succ,Array.replicate_zero,List.push_toArray,List.append_toArray,List.nil_append,List.cons_append]
 gi_wp2
 refine wpIn_rangeFunc_ownG (F:=Fence.wide) (n:=4) rfl (by omega) (gf:=250) (lb:=#[.pointer (some ⟨B,0,none⟩),.pointer (some ⟨B2,0,none⟩)]) rfl trivial (enters_of Tryz.func250 (by kernel_rfl) rfl)
  (chunk_stops 3 (by omega) _ B B2 bs A n c hm hnc hA ((hw1.block _ hBl).trans hB) ((hw1.block _ hBl2).trans hB2))
  KpC.trans (fun W lq o o' h1 _ _ _=>KpC.putObj _ _ W lq o' (by have:=hsz;omega) (by have:=hsz;omega)) (Below.refl _ _) (fun _=>rfl)
  (SplI w bs) (fun _ _ _=>False) (SplI.own (by have:=hsz;omega)) (fun _ _ _ _ _ hs _ _=>hs) ?start ?a1 ?assign ?body ?done ?stop
 case assign =>
  intro l x W K hK
  gi_wp2
  exact hK
 case stop =>
  intro D c pre W _ _ h _;exact h.elim
 case start =>
  exact ⟨w.heap.size+1,none,0,heap_alloc_new w _,Ow.nil _ _ _ _,by omega,hw1⟩
 case body =>
  intro lq pre x W hI hlt;obtain ⟨bp,Ap,cp,hb,hO,hbp,hN⟩:=hI;have hpl:=parts_length n n 0 (by omega);have hc:W.cell? ⟨w.heap.size,0,none⟩=some (.slice Ap pre.length cp):=by simp [World.cell?,hb]
  have hrow:=(hO.nw ((Nw.refl W).alloc' (.cells #[partV bs x] 70))).row;have hlW:=lt_of_block hb;have hown:∀ r,(Value.slice Ap pre.length cp).ownBlock=some r→r=bp∧∃ cs fr,W.heap[bp]? = some (.cells cs 70 fr):=by
   intro r hr;cases Ap with
   | none=>simp [Value.ownBlock] at hr
   | some p =>
    have hbk:=hO.blk;rcases hO with ⟨h,_⟩ | ⟨h,_⟩
    ·cases h
    ·injection h with h
     subst h;simp [Value.ownBlock] at hr;exact ⟨hr.symm,hbk⟩
  have HOWN:=hid hown;have HO:=hid hO;have HB:=hid hb;have hpl2:pre.length≤1000000:=by omega
  clear hown hO hpl hlt
  gi_wp2_with (gi_at_builtin;refine wpListIn_lies _ rfl (.tmp 8) (.tmp 10) 64 rfl 0 70 i0 (.slice none 0 0) 1 24 E_rows.und hi hz0 hz1 hz2 rfl (by omega) _ _ _ rfl hrow ⟨W.heap.size,0,none⟩ 1 1 [partV bs x] rfl rfl (cell_one_new W _ _) (by intro v hv;simp at hv;subst hv;rfl) (by omega) (by simp only [maxLen];omega) (by omega) (Nat.zero_le _) ?_;intro g cap w2 r1 r2 r3 r4;have hc2:=spl_box (v:=.slice Ap pre.length cp) hb hbp HOWN.out r2)
  have hN1:Nw W (W.alloc (.cells #[partV bs x] 70)):=(Nw.refl W).alloc' _;have hk1:Kp bp bp W w2:=(hN1.kp bp bp).grown r2 (fun k e=>.inl (HOWN.out k e).1);have hgb:w.heap.size < g:=by
   rcases r3 with e | e
   ·rw [(HOWN.out g e).1];exact hbp
   ·rw [e];simp;omega
  have hst:Kp w.heap.size w.heap.size w2 (w2.setCell ⟨w.heap.size,0,none⟩ (.slice (some ⟨g,0,none⟩) (pre.length+1) cap)):=(Kp.refl _ _ _).setCell' (p:=⟨w.heap.size,0,none⟩) (.inl rfl) _;have hs1:=hk1.size;have hs2:=hst.size;have hsW:=hN.size;have hbp':w.heap.size≤bp:=by omega
  have hNf:Nw w (w2.setCell ⟨w.heap.size,0,none⟩ (.slice (some ⟨g,0,none⟩) (pre.length+1) cap)):=Kp.nw (Kp.nw hN hk1 hbp' hbp') hst (Nat.le_refl _) (Nat.le_refl _);have hbx2:=((hk1.block w.heap.size hlW (by omega) (by omega)).trans hb);refine ⟨⟨by omega,fun k o hk1' ho hoc=>?_⟩,⟨?_,?_,by omega⟩,g,some ⟨g,0,none⟩,cap,?_,?_,hgb,hNf⟩
  ·have hkl:=lt_of_block ho;have hkb:k≠bp∨(∀ r,(Value.slice Ap pre.length cp).ownBlock=some r→False):=by
    by_cases e:k=bp
    ·right
     intro r hr;obtain ⟨cs,fr,hcs⟩:=(HOWN.out r hr).2;rw [e,hcs] at ho;cases ho;cases hoc
    ·exact .inl e
   rcases hkb with hkb | hkb
   ·exact (hst.block k (by omega) (by omega) (by omega)).trans ((hk1.block k hkl hkb hkb).trans ho)
   ·have hNN:Nw W w2:=hN1.grown' r2 (fun r e=>(hkb r e).elim);exact (hst.block k (by omega) (by omega) (by omega)).trans ((hNN.block k hkl).trans ho)
  ·exact (hst.block B (by omega) (by omega) (by omega)).trans (hk1.block B (by omega) (by omega) (by omega))
  ·exact (hst.block B2 (by omega) (by omega) (by omega)).trans (hk1.block B2 (by omega) (by omega) (by omega))
  ·rw [List.length_append,List.length_singleton];simp [World.setCell,Array.getElem?_modify,hbx2]
  ·have h:Ow w2 g 70 1 (some ⟨g,0,none⟩) (pre.length+1) cap (pre.map (partV bs)++[partV bs x]):=.inr ⟨rfl,r4,r1⟩;rw [List.length_append,List.length_singleton,List.map_append,List.map_singleton];exact h.kp hst (by omega) (by omega)
 case done =>
  intro D ys W hD hS hI hK;obtain ⟨bp,Ap,cp,hb,hO,hbp,hN⟩:=hI;have hc:W.cell? ⟨w.heap.size,0,none⟩=some (.slice Ap ys.length cp):=by simp [World.cell?,hb]
  rw [hS] at hc hO;clear hS
  gi_wp2
  refine ⟨by simp,.inl ⟨_,_,rfl,run_takeDeferred hK,?_⟩⟩;refine ⟨_,results_tmp rfl _ _ _,bp,Ap,cp,rfl,hO.own (grownBy_putObj' W D _) (fun k e=>by cases e;exact ⟨_,hK,rfl⟩),by omega,hN.grown' (grownBy_putObj' W D _) (fun k e=>by cases e;have:=hsz;omega)⟩
theorem CollectP_any (w:World) (B B2 bs:Nat) (A:Option Addr) (n c:Nat) (hm:n≤1000000) (hnc:n≤c) (hA:0 < n→A=some ⟨bs,0,none⟩) (hB:w.heap[B]? = some (.cells #[.slice A n c] 70 (0,0))) (hB2:w.heap[B2]? = some (.cells #[.int .i64 120] 3 (0,0))) :
  Calls Tryz.prog 173 #[.func (.func 250) #[] #[.pointer (some ⟨B,0,none⟩),.pointer (some ⟨B2,0,none⟩)]] w fun e w' =>
   ∃ bp Ap cp,e=.returned (.slice Ap (parts n 0).length cp)∧Ow w' bp 70 1 Ap (parts n 0).length cp ((parts n 0).map (partV bs))∧w.heap.size≤bp∧Nw w w':=by
 have HA:=hid (AppendSeq_any w B B2 bs A n c hm hnc hA hB hB2);clear hA hB hB2;go_enter Tryz.func173,Tryz.ntmps173
 go_wp2_with fail;refine HA.out.mono ?_;rintro e w1 ⟨bp,Ap,cp,rfl,h1,h2,h3⟩;go_wp2;go_ret;exact ⟨bp,Ap,cp,rfl,h1,h2,h3⟩
theorem Chunk_any (w:World) (A:Option Addr) (n c:Nat):Calls Tryz.prog 174 #[.slice A n c,.int .i64 120] w fun e w' =>
  e=.returned (.func (.func 250) #[] #[.pointer (some ⟨w.heap.size,0,none⟩),.pointer (some ⟨w.heap.size+1,0,none⟩)])∧w'=(w.alloc (.cells #[.slice A n c] 70)).alloc (.cells #[.int .i64 120] 3):=by
 go_enter Tryz.func174,Tryz.ntmps174
 go_wp2;go_ret;exact ⟨rfl,rfl⟩
theorem Split_any (w:World) (b:Nat) (A:Option Addr) (n c:Nat) (zs:List (Int × Nat)) (hn:n=zs.length) (hm:n≤1000000) (hr:Rd w b A (cS zs)) (hA:A=none→c=0) :
  Calls Tryz.prog 105 #[.slice A n c] w fun e w'=>∃ bs bp A2 c2 Ap cp,e=.returned (.slice Ap (parts n 0).length cp)∧Ow w' bp 70 1 Ap (parts n 0).length cp ((parts n 0).map (partV bs))∧w.heap.size≤bp ∧
   Ow w' bs 126 2 A2 n c2 (cS zs)∧w.heap.size≤bs∧Nw w w':=by
 have HC:=hid (CloneS_any w b A n c zs hn (by omega) hr hA);clear hr hn hA;go_enter Tryz.func105,Tryz.ntmps105
 go_wp2_with fail;refine HC.out.mono ?_;rintro e w1 ⟨bs,A1,c1,rfl,hO1,hb1,hN1,hc1⟩;have HO1:=hid hO1;clear hO1;go_wp2_with fail;refine (Chunk_any w1 A1 n c1).mono ?_;rintro e w2 ⟨rfl,rfl⟩;have hN2:Nw w1 ((w1.alloc (.cells #[.slice A1 n c1] 70)).alloc (.cells #[.int .i64 120] 3)):=((Nw.refl w1).alloc' _).alloc' _;have HCo:=hid (CollectP_any ((w1.alloc (.cells #[.slice A1 n c1] 70)).alloc (.cells #[.int .i64 120] 3)) w1.heap.size (w1.heap.size+1) bs A1 n c1 hm hc1 (fun h=>(HO1.out.at_ (j:=0) (by omega)).1) (heap_alloc2_old w1 _ _) (heap_alloc2_new w1 _ _));have hs2:=hN2.size;have hs1:=hN1.size;generalize (w1.alloc (.cells #[.slice A1 n c1] 70)).alloc (.cells #[.int .i64 120] 3)=w2 at *;go_wp2_with fail;refine HCo.out.mono ?_;rintro e w3 ⟨bp,Ap,cp,rfl,h1,h2,h3⟩;go_wp2;go_ret;exact ⟨bs,bp,A1,c1,Ap,cp,rfl,h1,by omega,(HO1.out.nw hN2).nw h3,hb1,(hN1.trans hN2).trans h3⟩
end
section
open Go Go.RowKit Go.Lib Go.Sort Go.Shelf
attribute [local go_sem] Oper.semAt_some
def LabI (w:World) (pre:List Lab) (W:World):Prop :=
 ∃ bp Ap cp,W.heap[w.heap.size]? = some (.cells #[.slice Ap pre.length cp] 78 (0,0))∧Ow W bp 124 2 Ap pre.length cp (cL pre)∧w.heap.size < bp∧Nw w W
theorem LabI.own {w:World} {D:Nat} (hD:w.heap.size < D):OwnFrom D (LabI w):=by
 intro pre W W' row h hg hr;obtain ⟨bp,Ap,cp,h1,h2,h3,h4⟩:=h;refine ⟨bp,Ap,cp,(hg.block _ (lt_of_block h1) (fun e=>by have:=(hr _ e.symm).1;omega)).trans h1,h2.own hg (fun r e=>(hr r e).2),h3,h4.grown' hg (fun k e=>by have:=(hr _ e).1;omega)⟩
def LabX (T:Nat→Array Value) (x:Lab) (a:Act) (W:World):Prop:=∃ b5,a = { tmps:=T b5,defers:=[] }∧W.heap[b5]? = some (.cells #[.string x.1,.string x.2] 124 (0,0))
theorem LabX.own (T:Lab→Nat→Array Value) (D:Nat) (x:Lab) (a:Act):OwnFrom D (fun (_:Unit) W=>LabX (T x) x a W):=by
 intro _ W W' row h hg hr;obtain ⟨b5,e,h1⟩:=h;refine ⟨b5,e,(hg.block _ (lt_of_block h1) (fun e=>?_)).trans h1⟩;obtain ⟨_,o,h2,h3⟩:=hr _ e.symm;rw [h1] at h2;cases h2;cases h3
abbrev labT (w0 B:Nat) (x:Lab) (b5:Nat):Array Value:=#[.slice none 0 0,.func (.func 190) #[] #[.pointer (some ⟨B,0,none⟩)],.pointer (some ⟨w0,0,none⟩),undef,.slice none 0 0,.pointer (some ⟨b5,0,none⟩),
 .func (.func 190) #[] #[.pointer (some ⟨B,0,none⟩)],labKey x,undef,undef,undef,undef,undef]
theorem old_walk {W:World} {k:Nat} {o p:Obj} (h:W.heap[k]? = some o):(W.alloc p).heap[k]? = some o:=(heap_alloc_old _ _ (lt_of_block h)).trans h
theorem two_new (W:World) (a d:Value) (t:TypeId):∀ j u,[a,d][j]? = some u→(W.alloc (.cells #[a,d] t)).cell? ((⟨W.heap.size,0,none⟩:Addr).add j)=some u:=by
 intro j u h;rw [add_lit'];rw [Nat.zero_add,cell_at (heap_alloc_new W (.cells #[a,d] t))];simpa using h
set_option maxRecDepth 100000 in
theorem AppendSeqK_any (w:World) (B b:Nat) (l:List (Lab × Value)) (hm:l.length≤1000000) (hB:w.heap[B]? = some (.cells #[.map (some b)] 182 (0,0))) (hb:w.heap[b]? = some (.map (entsE l) l.length)) :
  Calls Tryz.prog 261 #[.slice none 0 0,.func (.func 190) #[] #[.pointer (some ⟨B,0,none⟩)]] w fun e w' =>
   ∃ (ks:List Lab) (bp:Nat) (Ap:Option Addr) (cp:Nat),e=.returned (.slice Ap l.length cp)∧ks.Perm (l.map (·.1))∧Ow w' bp 124 2 Ap l.length cp (cL ks)∧w.heap.size≤bp∧Nw w w':=by
 have hBl:=lt_of_block hB;have hbl:=lt_of_block hb;have hw1:Nw w (w.alloc (.cells #[.slice none 0 0] 78)):=(Nw.refl w).alloc' _;have hsz:(w.alloc (.cells #[.slice none 0 0] 78)).heap.size=w.heap.size+1:=by simp
 obtain ⟨i0,hi,hz0,hz1,hz2⟩:=E_lab.info;refine (callsIn_wide (n:=4)).1 ?_;refine callsIn_of_wp_marks Tryz.func261 rfl trivial ?_ rfl;simp only [Tryz.ntmps261,List.size_toArray,List.length_cons,List.length_nil,Nat.reduceAdd,Nat.reduceSub,Array.replicate_succ,Array.replicate_zero,List.push_toArray,List.append_toArray,List.nil_append,List.cons_append]
 gi_wp2
 refine wpIn_rangeFunc_ownH (F:=Fence.wide) (n:=4) rfl (by omega) (gf:=190) (lb:=#[.pointer (some ⟨B,0,none⟩)]) rfl trivial (enters_of Tryz.func190 (by kernel_rfl) rfl)
  (keys_stops 3 (by omega) _ B b l ((hw1.block _ hBl).trans hB) ((hw1.block _ hbl).trans hb))
  KpM.trans (fun W lq o o' h1 h2 _ h4=>⟨World.putObj_heap_other (by have:=hsz;omega),fun k o2 hk ho=>(World.putObj_heap_other (fun e=>by subst e;rw [h2] at hk;cases hk;rw [h4] at ho;cases ho)).trans hk,by simp⟩) (Below.refl _ _) (fun _=>rfl)
  (LabI w) (fun _ _ _=>False) (LabI.own (by have:=hsz;omega)) (fun _ _ _ _ _ hs _ _=>hs) ?start (fun x=>LabX (labT w.heap.size B x) x) (fun x a'=>LabX.own (labT w.heap.size B) _ x a') ?assign ?body ?done ?stop
 case assign =>
  intro l pre x W K hI hK;obtain ⟨a,d⟩:=x;have hG:W.grownBy (W.alloc (.cells #[.string a,.string d] 124)) none:=World.grownBy_alloc W _ none;have hBW:B < W.heap.size:=by obtain ⟨_,_,_,_,_,_,h⟩:=hI;have:=h.size;omega
  have hK2:=hK { tmps:=labT w.heap.size B (a,d) W.heap.size,defers:=[] } (W.alloc (.cells #[.string a,.string d] 124)) ⟨by simp,fun k o _ h _=>old_walk h⟩
   ⟨heap_alloc_old _ _ hBW,fun k o h _=>old_walk h,by simp⟩ ((LabI.own (Nat.lt_succ_self _)) pre W _ none hI hG (fun r e=>by cases e)) ⟨W.heap.size,rfl,heap_alloc_new _ _⟩
  gi_wp2
  exact hK2
 case stop =>
  intro D c pre W _ _ h _;exact h.elim
 case start =>
  exact ⟨w.heap.size+1,none,0,heap_alloc_new w _,Ow.nil _ _ _ _,by omega,hw1⟩
 case body =>
  rintro lq pre ⟨a,d⟩ a' W hlq hlr hI ⟨b5,rfl,hb5⟩ hlt;obtain ⟨bp,Ap,cp,hb,hO,hbp,hN⟩:=hI;have hc:W.cell? ⟨w.heap.size,0,none⟩=some (.slice Ap pre.length cp):=by simp [World.cell?,hb]
  have e0:=cell_at (k:=0) hb5;have e1:=cell_at (k:=1) hb5;have hlW:=lt_of_block hb;have hrow:=(hO.nw ((Nw.refl W).alloc' (.cells #[.string a,.string d] 124))).row;have hown:∀ r,(Value.slice Ap pre.length cp).ownBlock=some r→r=bp∧∃ cs fr,W.heap[bp]? = some (.cells cs 124 fr):=by
   intro r hr;cases Ap with
   | none=>simp [Value.ownBlock] at hr
   | some p =>
    have hbk:=hO.blk;rcases hO with ⟨h,_⟩ | ⟨h,_⟩
    ·cases h
    ·injection h with h
     subst h;simp [Value.ownBlock] at hr;exact ⟨hr.symm,hbk⟩
  have HOWN:=hid hown;have HO:=hid hO;have HB:=hid hb;have hpl2:pre.length≤1000000:=by omega
  have hBW:B < W.heap.size:=by have:=hN.size;omega
  clear hown hO hlt
  gi_wp2_with (gi_at_builtin;refine wpListIn_lies _ rfl (.tmp 8) (.tmp 10) 78 rfl 0 124 i0 (.agg #[.string .empty,.string .empty]) 2 32 E_lab.und hi hz0 hz1 hz2 rfl (by omega) _ _ _ rfl hrow ⟨W.heap.size,0,none⟩ 1 1 [.string a,.string d] rfl rfl (two_new W _ _ _) (by intro v hv;simp at hv;rcases hv with rfl | rfl<;>rfl) (by omega) (by simp only [maxLen];omega) (by omega) (Nat.zero_le _) ?_;intro g cap w2 r1 r2 r3 r4;have hc2:=spl_box (v:=.slice Ap pre.length cp) hb hbp HOWN.out r2)
  have hN1:Nw W (W.alloc (.cells #[.string a,.string d] 124)):=(Nw.refl W).alloc' _;have hk1:Kp bp bp W w2:=(hN1.kp bp bp).grown r2 (fun k e=>.inl (HOWN.out k e).1);have hgb:w.heap.size < g:=by
   rcases r3 with e | e
   ·rw [(HOWN.out g e).1];exact hbp
   ·rw [e];simp;omega
  have hst:Kp w.heap.size w.heap.size w2 (w2.setCell ⟨w.heap.size,0,none⟩ (.slice (some ⟨g,0,none⟩) (pre.length+1) cap)):=(Kp.refl _ _ _).setCell' (p:=⟨w.heap.size,0,none⟩) (.inl rfl) _;have hs1:=hk1.size;have hs2:=hst.size;have hsW:=hN.size;have hbp':w.heap.size≤bp:=by omega
  have hNf:Nw w (w2.setCell ⟨w.heap.size,0,none⟩ (.slice (some ⟨g,0,none⟩) (pre.length+1) cap)):=Kp.nw (Kp.nw hN hk1 hbp' hbp') hst (Nat.le_refl _) (Nat.le_refl _);have hbx2:=((hk1.block w.heap.size hlW (by omega) (by omega)).trans hb);have hnc:∀ (k:Nat) (o:Obj),W.heap[k]? = some o→o.isCells=false→(w2.setCell ⟨w.heap.size,0,none⟩ (.slice (some ⟨g,0,none⟩) (pre.length+1) cap)).heap[k]? = some o:=by
   intro k o ho hoc;have hkl:=lt_of_block ho;have hkw:k≠w.heap.size:=fun e=>by
    rw [e,hb] at ho;cases ho;cases hoc
   have hkb:k≠bp∨(∀ r,(Value.slice Ap pre.length cp).ownBlock=some r→False):=by
    by_cases e:k=bp
    ·right
     intro r hr;obtain ⟨cs,fr,hcs⟩:=(HOWN.out r hr).2;rw [e,hcs] at ho;cases ho;cases hoc
    ·exact .inl e
   rcases hkb with hkb | hkb
   ·exact (hst.block k (by omega) (by omega) (by omega)).trans ((hk1.block k hkl hkb hkb).trans ho)
   ·have hNN:Nw W w2:=hN1.grown' r2 (fun r e=>(hkb r e).elim);exact (hst.block k (by omega) (by omega) (by omega)).trans ((hNN.block k hkl).trans ho)
  refine ⟨⟨by omega,fun k o _ ho hoc=>hnc k o ho hoc⟩,⟨?_,fun k o ho hw=>hnc k o ho (by cases o<;>simp_all [Obj.isWalk,Obj.isCells]),by omega⟩,g,some ⟨g,0,none⟩,cap,?_,?_,hgb,hNf⟩
  ·exact (hst.block B (by omega) (by omega) (by omega)).trans (hk1.block B (by omega) (by omega) (by omega))
  ·rw [List.length_append,List.length_singleton];simp [World.setCell,Array.getElem?_modify,hbx2]
  ·have h:Ow w2 g 124 2 (some ⟨g,0,none⟩) (pre.length+1) cap (cL pre++[.string a,.string d]):=.inr ⟨rfl,r4,r1⟩;rw [List.length_append,List.length_singleton,show cL (pre++[(a,d)])=cL pre++[.string a,.string d] from by unfold cL c2;rw [List.flatMap_append];rfl];exact h.kp hst (by omega) (by omega)
 case done =>
  intro D ys W hD hS hI hK;obtain ⟨bp,Ap,cp,hb,hO,hbp,hN⟩:=hI;have hyl:ys.length=l.length:=by rw [hS.length_eq,List.length_map]
  rw [hyl] at hb hO;have hc:W.cell? ⟨w.heap.size,0,none⟩=some (.slice Ap l.length cp):=by simp [World.cell?,hb]
  have HS:=hid hS;clear hS
  gi_wp2
  refine ⟨by simp,.inl ⟨_,_,rfl,run_takeDeferred hK,?_⟩⟩;refine ⟨_,results_tmp rfl _ _ _,ys,bp,Ap,cp,rfl,HS.out,hO.own (grownBy_putObj' W D _) (fun k e=>by cases e;exact ⟨_,hK,rfl⟩),by omega,hN.grown' (grownBy_putObj' W D _) (fun k e=>by cases e;have:=hsz;omega)⟩
theorem CollectK_any (w:World) (B b:Nat) (l:List (Lab × Value)) (hm:l.length≤1000000) (hB:w.heap[B]? = some (.cells #[.map (some b)] 182 (0,0))) (hb:w.heap[b]? = some (.map (entsE l) l.length)) :
  Calls Tryz.prog 188 #[.func (.func 190) #[] #[.pointer (some ⟨B,0,none⟩)]] w fun e w' =>
   ∃ (ks:List Lab) (bp:Nat) (Ap:Option Addr) (cp:Nat),e=.returned (.slice Ap l.length cp)∧ks.Perm (l.map (·.1))∧Ow w' bp 124 2 Ap l.length cp (cL ks)∧w.heap.size≤bp∧Nw w w':=by
 have HA:=hid (AppendSeqK_any w B b l hm hB hb);clear hB hb;go_enter Tryz.func188,Tryz.ntmps188
 go_wp2_with fail;refine HA.out.mono ?_;rintro e w1 ⟨ks,bp,Ap,cp,rfl,h1,h2,h3,h4⟩;go_wp2;go_ret;exact ⟨ks,bp,Ap,cp,rfl,h1,h2,h3,h4⟩
end
section
open Go Go.RowKit Go.Sort
structure Cl (w:World) (lo:Nat) (s:Ser):Prop where
 lab:Ow w s.bl 124 2 s.al s.labs.length s.cl (cL s.labs)
 smp:Ow w s.bs 126 2 s.as_ s.smps.length s.cs (cS s.smps)
 lol:lo≤s.bl∧s.bl < w.heap.size
 los:lo≤s.bs∧s.bs < w.heap.size
 wf:InS s.smps
 small:∀ x∈s.labs,x.1.size≤9223372036854775807∧x.2.size≤9223372036854775807
 as_:s.as_=some ⟨s.bs,0,none⟩
def Ap (g:Nat) (l:List Ser):Prop:=l.Pairwise (fun s t=>s.bs≠t.bs∧s.bs≠t.bl∧s.bl≠t.bs∧s.bl≠t.bl)∧∀ s∈l,s.bs≠g∧s.bl≠g∧s.bs≠s.bl
section
variable {w w':World} {lo g g' b n c:Nat} {A:Option Addr} {s:Ser} {e:TypeId} {size:Nat} {xs:List Value}
theorem Ow.nil_cap (h:Ow w b e size A n c xs):A=none→c=0:=by
 rintro rfl;rcases h with ⟨_,_,h,_⟩ | ⟨h,_⟩
 ·exact h
 ·cases h
theorem Cl.kp (h:Cl w lo s) (hk:Kp g g' w w') (h1:s.bl≠g) (h2:s.bl≠g') (h3:s.bs≠g) (h4:s.bs≠g'):Cl w' lo s :=
 ⟨h.lab.kp hk h1 h2,h.smp.kp hk h3 h4,⟨h.lol.1,Nat.lt_of_lt_of_le h.lol.2 hk.size⟩,⟨h.los.1,Nat.lt_of_lt_of_le h.los.2 hk.size⟩,h.wf,h.small,h.as_⟩
theorem Cl.ok (h:Cl w lo s):SerOk w s :=
 ⟨⟨h.lab.rd,rfl,h.lab.nil_cap,h.lab.cap.1,h.lab.cap.2,h.small⟩,⟨h.smp.rd,rfl,h.wf,h.smp.nil_cap,h.smp.cap.1,h.smp.cap.2⟩⟩
end
theorem Ow.ser {w:World} {g n c:Nat} {l:List Ser} (h:Ow w g 80 2 (some ⟨g,0,none⟩) n c (cR l)) {k:Nat} (hk:k < l.length) :
  (w.cell? ⟨g,k*2,none⟩=some (.slice l[k].al l[k].labs.length l[k].cl)∧w.frozen? ⟨g,k*2,none⟩=false)∧w.cell? ⟨g,k*2+1,none⟩=some (.slice l[k].as_ l[k].smps.length l[k].cs)∧w.frozen? ⟨g,k*2+1,none⟩=false:=by
 have hl:=h.len;rw [show (cR l).length=2*l.length from c2_length l] at hl;obtain ⟨_,_,h1,h2⟩:=h.at_ (j:=k*2) (by omega);obtain ⟨_,_,h3,h4⟩:=h.at_ (j:=k*2+1) (by omega);obtain ⟨e1,e2⟩:=c2_at (f:=fun s:Ser=>Value.slice s.al s.labs.length s.cl) (g:=fun s=>.slice s.as_ s.smps.length s.cs) l k hk;exact ⟨⟨h1.trans e1,h2⟩,h3.trans e2,h4⟩
set_option maxRecDepth 100000 in
set_option maxHeartbeats 3200000 in
theorem Clone_any (w:World) (b:Nat) (A:Option Addr) (n c:Nat) (l:List Ser) (hI:InSer w b A n c l) (hs:∀ s∈l,Small s) (hn:n≤1000000) :
  Calls Tryz.prog 164 #[.slice A n c] w fun e w'=>∃ l',e=.returned (.slice (some ⟨w.heap.size,0,none⟩) n n)∧l'.map valS=l.map valS∧Ow w' w.heap.size 80 2 (some ⟨w.heap.size,0,none⟩) n n (cR l')∧(∀ s∈l',Cl w' w.heap.size s)∧Ap w.heap.size l'∧Nw w w':=by
 have hl:=hI.len;subst hl;have HR:=hid hI.rd;have HOK:=hid fun s (h:s∈l)=>And.intro (hI.ok s h) (hs s h)
 have mkR:=fun W=>make_any E_ser W l.length hn (by omega)
 have hz:Value.cells (.agg #[.slice none 0 0,.slice none 0 0])=#[.slice none 0 0,.slice none 0 0]:=rfl;rw [hz] at mkR;have hOw:=made_ow 80 (.agg #[.slice none 0 0,.slice none 0 0]) 2 w l.length hn;rw [hz] at hOw;generalize madeCells #[Value.slice none 0 0,.slice none 0 0] (l.length*2)=md at *;have HOw:=hid hOw;clear hI hs hOw hz;go_enter Tryz.func164,Tryz.ntmps164
 go_wp2_with (refine wpList_copyK E_ser rfl (.tmp 9) (.tmp 10) rfl rfl rfl HOw.out (HR.out.nw ((Nw.refl w).alloc' _)) (by rw [show (cR l).length=2*l.length from c2_length _];omega) (c2_one (fun _=>rfl) (fun _=>rfl) l) ?_;intro w2 hO2 hK2 hsz2)
 have HO2:=hid hO2;have HN2:=hid (Kp.nw ((Nw.refl w).alloc' (.cells md 80)) hK2 (Nat.le_refl _) (Nat.le_refl _));have hsz:w.heap.size < w2.heap.size:=by rw [hsz2];simp
 clear hO2 hK2 hsz2 HOw;obtain ⟨g,hg⟩:∃ g,w.heap.size=g:=⟨_,rfl⟩;rw [hg] at HO2 hsz;simp only [hg];have HG:=hid hg;clear hg;go_loopw [14] (fun i wr=>∃ (k:Nat) (m:List Ser),k≤l.length∧i=.int .i64 k∧m.length=k∧Hid (m.map valS=(l.take k).map valS)∧Hid (Ow wr g 80 2 (some ⟨g,0,none⟩) l.length l.length (cR (m++l.drop k)))∧Hid (∀ s∈m,Cl wr g s)∧Hid (Ap g m)∧Hid (Nw w wr)∧Hid (g < wr.heap.size)) (fun i _=>l.length - (intOf i).toNat)
 case atStart=>exact ⟨0,[],by omega,rfl,rfl,hid rfl,hid (by simpa using HO2.out),hid (by simp),hid ⟨.nil,by simp⟩,HN2,hid hsz⟩
 case round =>
  obtain ⟨k,m,hk,rfl,hm,HV,HO,HC,HA,HN,HGL⟩:=hrel;by_cases hlt:k < l.length
  ·have hltI:(k:Int) < (l.length:Int):=by omega
   have hOs:=fun W (hN:Nw wr W)=>Ow.ser (HO.out.nw hN) (k:=k) (by rw [List.length_append,List.length_drop];omega)
   have hx:(m++l.drop k)[k]'(by rw [List.length_append,List.length_drop];omega)=l[k]:=by
    rw [List.getElem_append_right (by omega)];simp [hm]
   rw [hx] at hOs;have HTk:=hid (show (l.take (k+1)).map valS=(l.take k).map valS++[valS l[k]] from by rw [List.take_succ_eq_append_getElem hlt,List.map_append];rfl);have HOx:=hid (HOK.out l[k] (List.getElem_mem hlt));have hsplit:m++l.drop k=m++l[k]::l.drop (k+1):=by rw [drop_cons hlt]
   have HSP:=hid hsplit;generalize l[k]=x at *;obtain ⟨⟨h0,_⟩,h1,_⟩:=hOs wr (Nw.refl _);have HOs:=hid hOs;obtain ⟨bx,hbx⟩:∃ o,o=Obj.cells #[.slice x.al x.labs.length x.cl,.slice x.as_ x.smps.length x.cs] 80:=⟨_,rfl⟩;have mkL:=fun W=>make_any E_lab W x.labs.length HOx.out.2.1 (by omega)
   have mkS:=fun W=>make_any E_smp W x.smps.length HOx.out.2.2 (by omega)
   rw [show Value.cells (.agg #[.string .empty,.string .empty])=#[.string .empty,.string .empty] from rfl] at mkL;rw [show Value.cells (.agg #[.int .i64 0,.int .u64 0])=#[.int .i64 0,.int .u64 0] from rfl] at mkS;have HmL:=hid (made_ow 124 (.agg #[.string .empty,.string .empty]) 2 (wr.alloc bx) x.labs.length HOx.out.2.1);have HmS:=hid fun W=>made_ow 126 (.agg #[.int .i64 0,.int .u64 0]) 2 W x.smps.length HOx.out.2.2
   rw [show Value.cells (.agg #[.string .empty,.string .empty])=#[.string .empty,.string .empty] from rfl] at HmL;rw [show Value.cells (.agg #[.int .i64 0,.int .u64 0])=#[.int .i64 0,.int .u64 0] from rfl] at HmS;generalize madeCells #[Value.string .empty,.string .empty] (x.labs.length*2)=mL at *;generalize madeCells #[Value.int .i64 0,.int .u64 0] (x.smps.length*2)=mS at *;have hNB:Nw wr ((wr.alloc bx).alloc (.cells mL 124)):=((Nw.refl wr).alloc' _).alloc' _;obtain ⟨⟨s0,s1⟩,_,_⟩:=hOs _ hNB;rw [hbx] at s0 s1;clear hOs hsplit hx;go_wp2_with fail;rw [← hbx];have hCc:Kp g g wr (((wr.alloc bx).alloc (.cells mL 124)).setCell ⟨g,k*2,none⟩ (.slice (some ⟨wr.heap.size+1,0,none⟩) x.labs.length x.labs.length)):=((hNB.kp g g).setCell' (.inl rfl) _);have hOc:=(HO.out.nw hNB).set_ (k*2) (.slice (some ⟨wr.heap.size+1,0,none⟩) x.labs.length x.labs.length);have hgn:=HGL.out;have hne:¬ g=wr.heap.size+1:=by omega
   have hns:(wr.alloc bx).heap.size=wr.heap.size+1:=by simp
   have hLc:=HmL.out.kp ((Kp.refl g g ((wr.alloc bx).alloc (.cells mL 124))).setCell' (.inl rfl) (p:=⟨g,k*2,none⟩) (.slice (some ⟨wr.heap.size+1,0,none⟩) x.labs.length x.labs.length)) (by rw [hns];omega) (by rw [hns];omega);rw [hns] at hLc;have hbb:(((wr.alloc bx).alloc (.cells mL 124)).setCell ⟨g,k*2,none⟩ (.slice (some ⟨wr.heap.size+1,0,none⟩) x.labs.length x.labs.length)).heap[wr.heap.size]? = some bx :=
    (Below.heap_setCell _ ⟨g,k*2,none⟩ _ wr.heap.size (by show wr.heap.size≠g;omega)).trans ((((Nw.refl (wr.alloc bx)).alloc' _).block _ (by simp)).trans (heap_alloc_new _ _))
   have hsC:(((wr.alloc bx).alloc (.cells mL 124)).setCell ⟨g,k*2,none⟩ (.slice (some ⟨wr.heap.size+1,0,none⟩) x.labs.length x.labs.length)).heap.size=wr.heap.size+2:=by simp [World.setCell]
   generalize ((wr.alloc bx).alloc (.cells mL 124)).setCell ⟨g,k*2,none⟩ (.slice (some ⟨wr.heap.size+1,0,none⟩) x.labs.length x.labs.length)=wC at *;have hlen:=hOc.len;obtain ⟨nb,hnb⟩:∃ nb,wr.heap.size=nb:=⟨_,rfl⟩;rw [hnb] at hOc hLc hbb hsC hgn hne ⊢;have hpc:wC.cell? ⟨g,k*2,none⟩=some (.slice (some ⟨nb+1,0,none⟩) x.labs.length x.labs.length):=by
    rw [List.length_set,show (cR _).length=2*_ from c2_length _,List.length_append,List.length_drop] at hlen;obtain ⟨_,_,h,_⟩:=hOc.at_ (j:=k*2) (by omega);rw [h,List.getElem?_set_self (by rw [show (cR _).length=2*_ from c2_length _,List.length_append,List.length_drop];omega)]
   rw [hbx] at hbb;have hb0:=(cell_at (k:=0) hbb).trans rfl;have hb1:=(cell_at (k:=1) hbb).trans rfl;have q0:∀ p':Gp,(grow (wC.drewN p'.n) p'.os).cell? ⟨g,k*2,none⟩=some (.slice (some ⟨nb+1,0,none⟩) x.labs.length x.labs.length):=cell_gr (by show g < _;omega) hpc;have q1:∀ p':Gp,(grow (wC.drewN p'.n) p'.os).cell? ⟨nb,0,none⟩=some (.slice x.al x.labs.length x.cl):=cell_gr (by show nb < _;omega) hb0;have HOc:=hid hOc;have HLc:=hid hLc;have HCc:=hid hCc;have HBB:=hid hbb;have HNB:=hid hnb;clear hOc hLc hCc hbb hnb h0 h1 s0 s1 HmL mkL hNB hpc hb0 hb1 hns hlen;refine wp_region_gr_tail 7 (by kernel_rfl) (by kernel_rfl) ?_;simp only [List.take_succ_cons,List.take_zero,List.drop_succ_cons,List.drop_zero]
   repeat (go_big_quiet_step (first | fail))
   refine wpQuiet_nil ?_;rintro _ ⟨p',rfl⟩;have hND:=(Gr.nw ⟨p',rfl⟩:Nw wC (grow (wC.drewN p'.n) p'.os));generalize grow (wC.drewN p'.n) p'.os=wD at *;clear q0 q1;have hCd:=HCc.out.trans (hND.kp g g) (.inl rfl) (.inl rfl);have HNwD:=hid (Kp.nw HN.out hCd (Nat.le_of_eq HG.out) (Nat.le_of_eq HG.out));refine wpList_copyK E_lab rfl (.tmp 31) (.tmp 33) rfl rfl rfl (HLc.out.nw hND) (HOx.out.1.1.rd.nw HNwD.out) (by rw [show (cL x.labs).length=2*x.labs.length from c2_length _];omega) (oc_L _) ?_;intro wE hLe hKe hsE;have hnb:=HNB.out;have hsD:=hND.size;have hCe:=hCd.trans hKe (.inr (.inr (by omega))) (.inr (.inr (by omega)));have hOe:=(HOc.out.nw hND).kp hKe hne hne;have hBe:=(hKe.block nb (by omega) (by omega) (by omega)).trans ((hND.block nb (by omega)).trans HBB.out);have hNF:Nw wE (wE.alloc (.cells mS 126)):=(Nw.refl wE).alloc' _;have hlen:=hOe.len;rw [List.length_set,show (cR _).length=2*_ from c2_length _,List.length_append,List.length_drop] at hlen;obtain ⟨_,_,f00,f1⟩:=(hOe.nw hNF).at_ (j:=k*2+1) (by omega);rw [List.getElem?_eq_getElem (by rw [List.length_set,show (cR _).length=2*_ from c2_length _,List.length_append,List.length_drop];omega)] at f00;obtain ⟨uf,f0⟩:∃ u,(wE.alloc (.cells mS 126)).cell? ⟨g,k*2+1,none⟩=some u:=⟨_,f00⟩;clear f00;have hb1:=(cell_at (k:=1) hBe).trans rfl;have HLe:=hid hLe;have HCe:=hid hCe;have HOe:=hid hOe;have HBe:=hid hBe;have HsE:=hid (show nb+2≤wE.heap.size from by omega);have HmS2:=hid (HmS.out wE);clear hLe hKe hCe hOe hBe hsE hsD hND hCd HLc HOc HCc HBB HmS hlen hsC;go_wp2_with fail;have hCh:=(HCe.out.trans (hNF.kp g g) (.inl rfl) (.inl rfl)).setCell' (p:=⟨g,k*2+1,none⟩) (.inl rfl) (.slice (some ⟨wE.heap.size,0,none⟩) x.smps.length x.smps.length);have hOh:=(HOe.out.nw hNF).set_ (k*2+1) (.slice (some ⟨wE.heap.size,0,none⟩) x.smps.length x.smps.length);have hKF:Kp g g wE ((wE.alloc (.cells mS 126)).setCell ⟨g,k*2+1,none⟩ (.slice (some ⟨wE.heap.size,0,none⟩) x.smps.length x.smps.length)):=(hNF.kp g g).setCell' (.inl rfl) _;have hgE:g < wE.heap.size:=by have:=HsE.out;omega
   have hSh:=HmS2.out.kp ((Kp.refl g g (wE.alloc (.cells mS 126))).setCell' (.inl rfl) (p:=⟨g,k*2+1,none⟩) (.slice (some ⟨wE.heap.size,0,none⟩) x.smps.length x.smps.length)) (by omega) (by omega);have hLh:=HLe.out.kp hKF (by omega) (by omega);have hBh:=(hKF.block nb (by have:=HsE.out;omega) (by omega) (by omega)).trans HBe.out;have hsH:((wE.alloc (.cells mS 126)).setCell ⟨g,k*2+1,none⟩ (.slice (some ⟨wE.heap.size,0,none⟩) x.smps.length x.smps.length)).heap.size=wE.heap.size+1:=by simp [World.setCell]
   generalize (wE.alloc (.cells mS 126)).setCell ⟨g,k*2+1,none⟩ (.slice (some ⟨wE.heap.size,0,none⟩) x.smps.length x.smps.length)=wH at *;have hnE:nb+1 < wE.heap.size:=by have:=HsE.out;omega
   obtain ⟨nc,hnc⟩:∃ nc,wE.heap.size=nc:=⟨_,rfl⟩;rw [hnc] at hOh hSh hsH hgE hnE ⊢;have hlen:=hOh.len;rw [List.length_set,List.length_set,show (cR _).length=2*_ from c2_length _,List.length_append,List.length_drop] at hlen;have hpc:wH.cell? ⟨g,k*2+1,none⟩=some (.slice (some ⟨nc,0,none⟩) x.smps.length x.smps.length):=by
    obtain ⟨_,_,h,_⟩:=hOh.at_ (j:=k*2+1) (by omega);rw [h,List.getElem?_set_self (by rw [List.length_set,show (cR _).length=2*_ from c2_length _,List.length_append,List.length_drop];omega)]
   have hb2:=(cell_at (k:=1) hBh).trans rfl;have q0:∀ p':Gp,(grow (wH.drewN p'.n) p'.os).cell? ⟨g,k*2+1,none⟩=some (.slice (some ⟨nc,0,none⟩) x.smps.length x.smps.length):=cell_gr (by show g < _;omega) hpc;have q1:∀ p':Gp,(grow (wH.drewN p'.n) p'.os).cell? ⟨nb,1,none⟩=some (.slice x.as_ x.smps.length x.cs):=cell_gr (by show nb < _;omega) hb2;have HOh:=hid hOh;have HSh:=hid hSh;have HCh:=hid hCh;have HLh:=hid hLh;have HNC:=hid hnc;clear hOh hSh hCh hLh hBh f0 f1 hb1 hb2 hpc hKF hNF hlen hnc HmS2 mkS HLe HOe HBe HsE HCe;refine wp_region_gr_tail 7 (by kernel_rfl) (by kernel_rfl) ?_;simp only [List.take_succ_cons,List.take_zero,List.drop_succ_cons,List.drop_zero]
   repeat (go_big_quiet_step (first | fail))
   refine wpQuiet_nil ?_;rintro _ ⟨p2,rfl⟩;have hNI:=(Gr.nw ⟨p2,rfl⟩:Nw wH (grow (wH.drewN p2.n) p2.os));generalize grow (wH.drewN p2.n) p2.os=wI at *;clear q0 q1;have hCi:=HCh.out.trans (hNI.kp g g) (.inl rfl) (.inl rfl);have hNwI:=Kp.nw HN.out hCi (Nat.le_of_eq HG.out) (Nat.le_of_eq HG.out);refine wpList_copyK E_smp rfl (.tmp 47) (.tmp 49) rfl rfl rfl (HSh.out.nw hNI) (HOx.out.1.2.rd.nw hNwI) (by rw [show (cS x.smps).length=2*x.smps.length from c2_length _];omega) (oc_S _) ?_;intro wJ hSj hKj hsJ;have hsI:=hNI.size;have hwr:=HNB.out;have hCj:=hCi.trans hKj (.inr (.inr (by omega))) (.inr (.inr (by omega)));have hOj:=(HOh.out.nw hNI).kp hKj (by omega) (by omega);have hLj:=(HLh.out.nw hNI).kp hKj (by omega) (by omega);have HSj:=hid hSj;have HCj:=hid hCj;have HOj:=hid hOj;have HLj:=hid hLj;have HsJ:=hid (show nc < wJ.heap.size∧wr.heap.size≤nb from by omega);clear hSj hKj hCj hOj hLj hsJ hsI hCi hNwI hNI HSh HCh HOh HLh;go_wp2_with fail;go_roundw
   case rel =>
    have hgn:=HGL.out;refine ⟨k+1,m++[⟨x.labs,x.smps,nb+1,some ⟨nb+1,0,none⟩,x.labs.length,nc,some ⟨nc,0,none⟩,x.smps.length⟩],by omega,by go_num,by simp [hm],hid ?_,hid ?_,hid ?_,hid ?_,hid (Kp.nw HN.out HCj.out (Nat.le_of_eq HG.out) (Nat.le_of_eq HG.out)),hid (by have:=HsJ.out;omega)⟩
    ·rw [HTk.out,List.map_append,HV.out];rfl
    ·have h:=HOj.out;have e:=c2_set (f:=fun s:Ser=>Value.slice s.al s.labs.length s.cl) (h:=fun s=>.slice s.as_ s.smps.length s.cs) (m++l.drop k) k ⟨x.labs,x.smps,nb+1,some ⟨nb+1,0,none⟩,x.labs.length,nc,some ⟨nc,0,none⟩,x.smps.length⟩;unfold cR at h ⊢;rw [e,HSP.out,List.set_append_right _ _ (by omega),hm,Nat.sub_self,List.set_cons_zero] at h;rw [List.append_assoc];exact h
    ·intro s hs;rcases List.mem_append.1 hs with hs | hs
     ·have h2:=HA.out.2 s hs;exact (HC.out s hs).kp HCj.out h2.2.1 h2.2.1 h2.1 h2.1
     ·obtain rfl:=List.mem_singleton.1 hs;have h3:=HsJ.out;have h4:=HNB.out;exact ⟨HLj.out,HSj.out,by dsimp only;omega,by dsimp only;omega,HOx.out.1.2.wf,HOx.out.1.1.small,rfl⟩
    ·have h4:=HNB.out;refine ⟨List.pairwise_append.2 ⟨HA.out.1,List.pairwise_singleton _ _,?_⟩,?_⟩
     ·intro s hs t ht;obtain rfl:=List.mem_singleton.1 ht;have h5:=HC.out s hs;have h6:=h5.lol;have h7:=h5.los;dsimp only;omega
     ·intro s hs;rcases List.mem_append.1 hs with hs | hs
      ·exact HA.out.2 s hs
      ·obtain rfl:=List.mem_singleton.1 hs;dsimp only;omega
   case measure=>simp [intOf];omega
  ·obtain rfl:k=l.length:=by omega
   go_wp2;go_ret;rw [HG.out];refine ⟨m,rfl,?_,?_,HC.out,HA.out,HN.out⟩
   ·rw [HV.out,List.take_length]
   ·have h:=HO.out;rw [List.drop_length,List.append_nil] at h;exact h
end
section
open Go Go.RowKit Go.Sort Go.Shelf
theorem Ow.of_heapC {w:World} {g:Nat} {e:TypeId} {size n c:Nat} {cs:Array Value} (h:w.heap[g]? = some (.cells cs e (0,0))) (hs:cs.size=c*size) (hnc:n≤c) (hn:c≤9223372036854775807):Ow w g e size (some ⟨g,0,none⟩) n c (cs.toList.take (n*size)):=by
 have hle:n*size≤c*size:=Nat.mul_le_mul_right _ hnc;exact .inr ⟨rfl,lt_of_block h,by simp;omega,.inr ⟨g,c,cs,rfl,Nat.zero_le _,h,hnc,by simpa [maxLen] using hn,hs,rfl⟩⟩
section
variable {α:Type} [Inhabited α] {f h:α→Value}
theorem holds_ow {w:World} {g:Nat} {e:TypeId} {a:Addr} {c:Nat} {d:Array α} (hO:Ow w g e 2 (some a) d.size c (c2 f h d.toList)):HoldsK (fun x=>[f x,h x]) 2 w g 0 d:=by
 intro j hj;rw [size_flatK] at hj;rw [get_flatK _ _ _ _ hj];obtain ⟨_,_,h1,h2⟩:=hO.at_ (j:=j) hj;obtain ⟨e1,e2⟩:=c2_at (f:=f) (g:=h) d.toList (j / 2) (by rw [Array.length_toList];omega);have ed:d[j / 2]! = d.toList[j / 2]'(by rw [Array.length_toList];omega):=by rw [getElem!_pos d (j / 2) (by omega)];simp
 rw [Nat.zero_add];refine ⟨?_,h2⟩;rw [h1,ed];have:j % 2=0∨j % 2=1:=by omega
 rcases this with h3 | h3
 ·rw [h3];rw [show j / 2*2=j by omega] at e1;rw [e1];rfl
 ·rw [h3];rw [show j / 2*2+1=j by omega] at e2;rw [e2];rfl
theorem sort_ow {w:World} {g:Nat} {e:TypeId} {a:Addr} {n c m:Nat} {d':Array α} {xs:List Value} (hO:Ow w g e 2 (some a) n c xs) (hd:d'.size=n) (os:Array Obj) :
  Ow (sortWorldK (fun x=>[f x,h x]) 2 w g 0 m d' os) g e 2 (some ⟨g,0,none⟩) n c (c2 f h d'.toList)∧Kp g g w (sortWorldK (fun x=>[f x,h x]) 2 w g 0 m d' os):=by
 obtain ⟨cs,hh,hs,_,_⟩:=hO.heap;have hcap:=hO.cap;have hg:=lt_of_block hh;have hheap:(sortWorldK (fun x=>[f x,h x]) 2 w g 0 m d' os).heap[g]? = some (.cells (putCells id 0 (flatK (fun x=>[f x,h x]) 2 d') cs) e (0,0)):=by
  unfold sortWorldK putRowK;rw [heap_grow_old _ _ (by simpa [putRow,mapBlock,Sort.ahead] using hg)];simp [putRow,mapBlock,Sort.ahead,Array.getElem?_modify,hh,onCells]
 constructor
 ·have:=Ow.of_heapC (size:=2) (n:=n) hheap (by simpa [putCells] using hs) hcap.1 hcap.2;have ht:(putCells id 0 (flatK (fun x=>[f x,h x]) 2 d') cs).toList.take (n*2)=c2 f h d'.toList:=by
   apply List.ext_getElem?
   intro j;by_cases hj:j < n*2
   ·rw [List.getElem?_take_of_lt hj,Array.getElem?_toList];obtain ⟨e1,e2⟩:=c2_at (f:=f) (g:=h) d'.toList (j / 2) (by rw [Array.length_toList];omega);have ed:d'[j / 2]! = d'.toList[j / 2]'(by rw [Array.length_toList];omega):=by rw [getElem!_pos d' (j / 2) (by omega)];simp
    have hcs:j < cs.size:=by rw [hs];omega
    have hc:(putCells id 0 (flatK (fun x=>[f x,h x]) 2 d') cs)[j]? = some ((flatK (fun x=>[f x,h x]) 2 d')[j]!):=by
     simp only [putCells,Array.getElem?_mapIdx,Array.getElem?_eq_getElem hcs,Option.map_some];rw [if_pos ⟨Nat.zero_le _,by rw [size_flatK];omega⟩];simp
    rw [hc,get_flatK _ _ _ _ (by omega),ed];have:j % 2=0∨j % 2=1:=by omega
    rcases this with h3 | h3
    ·rw [h3];rw [show j / 2*2=j by omega] at e1;rw [e1];rfl
    ·rw [h3];rw [show j / 2*2+1=j by omega] at e2;rw [e2];rfl
   ·rw [List.getElem?_take_eq_none (by omega),List.getElem?_eq_none (by rw [c2_length,Array.length_toList];omega)]
  rwa [ht] at this
 ·refine ⟨rfl,rfl,rfl,by simp [sortWorldK,putRowK,putRow,mapBlock,Sort.ahead],fun k hk h1 _=>?_⟩;unfold sortWorldK putRowK;rw [heap_grow_old _ _ (by simpa [putRow,mapBlock,Sort.ahead] using hk)];have:g≠k:=fun e=>h1 e.symm
  simp [putRow,mapBlock,Sort.ahead,Array.getElem?_modify,this]
end
theorem perm_of {α:Type} [Inhabited α] {d d':Array α} (h:PermIn 0 d.size d d'):d'.toList.Perm d.toList:=by
 obtain ⟨h1,_,h3⟩:=h;rw [show d.extract 0 d.size=d from by simp,show d'.extract 0 d.size=d' from by rw [← h1];simp] at h3;exact h3
theorem sorted_of {α:Type} [Inhabited α] {lt:α→α→Bool} {d:Array α} {n:Nat} (h:SortedIn lt 0 n d) (hn:n=d.size):d.toList.Pairwise fun x y=>lt y x=false:=by
 subst hn;rw [List.pairwise_iff_getElem];intro i j hi hj hij;rw [Array.length_toList] at hi hj;have:=h i j (Nat.zero_le _) hij hj;rw [getElem!_pos d i hi,getElem!_pos d j hj] at this;simpa using this
end
section
open Go Go.RowKit Go.Sort Go.Shelf
structure Cmp3 {α:Type} (f:α→α→Int):Prop where
 inn:∀ a b,f a b = -1∨f a b=0∨f a b=1
 swap:∀ a b,f a b = - f b a
 zero:∀ a b,f a b=0↔a=b
 trans:∀ a b c,f a b = -1→f b c = -1→f a c = -1
theorem cmpS_swap (a b:ByteArray):cmpS a b = - cmpS b a:=by
 rcases bl_total a.toList b.toList with h | h | h
 ·rw [cmpS_neg.2 h,cmpS_pos.2 h]
 ·obtain rfl:=bytes_ext h;rw [cmpS_zero.2 rfl];rfl
 ·rw [cmpS_pos.2 h,cmpS_neg.2 h];rfl
theorem cmp3_S:Cmp3 cmpS where
 inn:=cmpS_in
 swap:=cmpS_swap
 zero _ _:=cmpS_zero
 trans _ _ _ h k:=cmpS_neg.2 (bl_trans _ _ _ (cmpS_neg.1 h) (cmpS_neg.1 k))
theorem Cmp3.pair {α β:Type} {f:α→α→Int} {h:β→β→Int} (F:Cmp3 f) (H:Cmp3 h):Cmp3 fun x y:α × β=>if f x.1 y.1≠0 then f x.1 y.1 else h x.2 y.2 where
 inn a b:=by
  by_cases e:f a.1 b.1=0
  ·rw [if_neg (fun n=>n e)];exact H.inn _ _
  ·rw [if_pos e];exact F.inn _ _
 swap a b:=by
  have s:=F.swap a.1 b.1;by_cases e:f a.1 b.1=0
  ·have e2:f b.1 a.1=0:=by omega
   rw [if_neg (fun n=>n e),if_neg (fun n=>n e2)];exact H.swap _ _
  ·have e2:¬ f b.1 a.1=0:=by omega
   rw [if_pos e,if_pos e2];exact s
 zero a b:=by
  by_cases e:f a.1 b.1=0
  ·rw [if_neg (fun n=>n e),H.zero];have:=(F.zero _ _).1 e;exact ⟨fun h=>Prod.ext this h,fun h=>by rw [h]⟩
  ·rw [if_pos e];exact ⟨fun h=>(e h).elim,fun h=>(e ((F.zero _ _).2 (by rw [h]))).elim⟩
 trans a b c:=by
  intro h k;by_cases e:f a.1 b.1=0
  ·have ea:=(F.zero _ _).1 e;rw [if_neg (fun n=>n e)] at h;by_cases e2:f b.1 c.1=0
   ·rw [if_neg (fun n=>n e2)] at k;rw [← ea] at e2;rw [if_neg (fun n=>n e2)];exact H.trans _ _ _ h k
   ·rw [if_pos e2] at k;rw [← ea] at e2 k;rw [if_pos e2];exact k
  ·rw [if_pos e] at h;have hk:f a.1 c.1 = -1:=by
    by_cases e2:f b.1 c.1=0
    ·rw [← (F.zero _ _).1 e2];exact h
    ·rw [if_pos e2] at k;exact F.trans _ _ _ h k
   have e3:¬ f a.1 c.1=0:=by omega
   rw [if_pos e3];exact hk
theorem cmp3_L:Cmp3 cmpL:=cmp3_S.pair cmp3_S
theorem cmpLs_cons (x y:Lab) (a b:List Lab):cmpLs (x::a) (y::b)=if cmpL x y≠0 then cmpL x y else cmpLs a b:=rfl
theorem cmp3_Ls:Cmp3 cmpLs where
 inn:=cmpLs_in
 swap:=by
  intro a;induction a with
  | nil=>intro b;cases b<;>rfl
  | cons x a ih =>
   intro b;cases b with
   | nil=>rfl
   | cons y b =>
    rw [cmpLs_cons,cmpLs_cons];have s:=cmp3_L.swap x y;by_cases e:cmpL x y=0
    ·rw [if_neg (by simp [e]),if_neg (by omega)];exact ih b
    ·rw [if_pos e,if_pos (by omega)];exact s
 zero:=cmpLs_zero
 trans:=by
  intro a;induction a with
  | nil =>
   intro b c h k;cases c with
   | nil=>cases b with
    | nil=>exact k
    | cons y b=>exact absurd k (by show ¬ (1:Int) = -1;omega)
   | cons z c=>rfl
  | cons x a ih =>
   intro b c h k;cases b with
   | nil=>exact absurd h (by show ¬ (1:Int) = -1;omega)
   | cons y b =>
    cases c with
    | nil=>exact absurd k (by show ¬ (1:Int) = -1;omega)
    | cons z c =>
     rw [cmpLs_cons] at h k ⊢;by_cases e:cmpL x y=0
     ·have ea:=(cmp3_L.zero _ _).1 e;rw [if_neg (by simp [e])] at h;subst ea;by_cases e2:cmpL x z=0
      ·rw [if_neg (by simp [e2])] at k ⊢;exact ih _ _ h k
      ·rw [if_pos e2] at k ⊢;exact k
     ·rw [if_pos e] at h;have hk:cmpL x z = -1:=by
       by_cases e2:cmpL y z=0
       ·rw [← (cmp3_L.zero _ _).1 e2];exact h
       ·rw [if_pos e2] at k;exact cmp3_L.trans _ _ _ h k
      rw [if_pos (by omega)];exact hk
theorem Cmp3.lt {α β:Type} {f:β→β→Int} (F:Cmp3 f) {κ:α→β} {x y:α}:ltOf (fun x y:α=>f (κ x) (κ y)) x y=true↔f (κ x) (κ y) = -1:=by
 unfold ltOf;rw [decide_eq_true_iff];have:=F.inn (κ x) (κ y);show f (κ x) (κ y) < 0↔_
 omega
theorem Cmp3.swo {α β:Type} {f:β→β→Int} (F:Cmp3 f) (κ:α→β):SWO (ltOf fun x y:α=>f (κ x) (κ y)) where
 irrefl x:=by
  rw [Bool.eq_false_iff];intro h;rw [F.lt,(F.zero _ _).2 rfl] at h;cases h
 trans x y z h1 h2:=by
  rw [F.lt] at *;exact F.trans _ _ _ h1 h2
 ntrans x y z h1 h2:=by
  rw [Bool.eq_false_iff] at *;intro h;rw [ne_eq,F.lt] at *;have s1:=F.swap (κ x) (κ y);have s2:=F.swap (κ y) (κ z);rcases F.inn (κ x) (κ y) with a | a | a
  ·exact h1 a
  ·rw [(F.zero _ _).1 a] at h;exact h2 h
  ·exact h2 (F.trans _ _ _ (by omega) h)
end
end Go.Proofs.YticphebaflnedaaGreatDoor
namespace Go.Proofs
open Go.Shelf
def Tryz.sortLab_ren:Go.Shelf.Ren:=⟨fun | 6=>189 | 15=>263 | 14=>262 | 28=>311 | 29=>312 | 20=>303 | 21=>304 | 22=>305 | 23=>306 | 24=>307 | 25=>308 | 26=>309 | 27=>310 | 46=>338 | 47=>339 | 48=>340 | 49=>341 | 50=>342 | 57=>352 | n=>n,fun | 22=>78 | 24=>124 | 25=>187 | 3=>3 | 39=>353 | 0=>0 | 53=>73 | 55=>106 | 4=>4 | 46=>405 | 45=>404 | 50=>178 | 5=>5 | 9=>9 | 66=>434 | 70=>437 | 76=>443 | 77=>391 | n=>n,fun | n=>n⟩
theorem Tryz.sortLab:Go.Proofs.SlLaysF0.n6 Tryz.prog Tryz.sortLab_ren:={
 mixed:=by kernel_rfl
 f6:=⟨Tryz.f189.name,by decide,Tryz.func189.trans (congrArg some (by kernel_rfl))⟩
 f14:=⟨Tryz.f262.name,by decide,Tryz.func262.trans (congrArg some (by kernel_rfl))⟩
 f15:=Tryz.func263.trans (congrArg some (by kernel_rfl))
 f20:=⟨Tryz.f303.name,by decide,Tryz.func303.trans (congrArg some (by kernel_rfl))⟩
 f21:=⟨Tryz.f304.name,by decide,Tryz.func304.trans (congrArg some (by kernel_rfl))⟩
 f22:=⟨Tryz.f305.name,by decide,Tryz.func305.trans (congrArg some (by kernel_rfl))⟩
 f23:=⟨Tryz.f306.name,by decide,Tryz.func306.trans (congrArg some (by kernel_rfl))⟩
 f24:=⟨Tryz.f307.name,by decide,Tryz.func307.trans (congrArg some (by kernel_rfl))⟩
 f25:=⟨Tryz.f308.name,by decide,Tryz.func308.trans (congrArg some (by kernel_rfl))⟩
 f26:=⟨Tryz.f309.name,by decide,Tryz.func309.trans (congrArg some (by kernel_rfl))⟩
 f27:=⟨Tryz.f310.name,by decide,Tryz.func310.trans (congrArg some (by kernel_rfl))⟩
 f28:=Tryz.func311.trans (congrArg some (by kernel_rfl))
 f29:=Tryz.func312.trans (congrArg some (by kernel_rfl))
 f46:=⟨Tryz.f338.name,by decide,Tryz.func338.trans (congrArg some (by kernel_rfl))⟩
 f47:=Tryz.func339.trans (congrArg some (by kernel_rfl))
 f48:=Tryz.func340.trans (congrArg some (by kernel_rfl))
 f49:=⟨Tryz.f341.name,by decide,Tryz.func341.trans (congrArg some (by kernel_rfl))⟩
 f50:=⟨Tryz.f342.name,by decide,Tryz.func342.trans (congrArg some (by kernel_rfl))⟩
 f57:=⟨Tryz.f352.name,by decide,Tryz.func352.trans (congrArg some (by kernel_rfl))⟩
 t0:=Tryz.underlying0
 a0:=Tryz.isAgg0
 z0:=Tryz.sizeOf0
 v0:=Tryz.zeroValue0
 t3:=Tryz.underlying3
 a3:=Tryz.isAgg3
 z3:=Tryz.sizeOf3
 v3:=Tryz.zeroValue3
 t4:=Tryz.underlying4
 a4:=Tryz.isAgg4
 z4:=Tryz.sizeOf4
 v4:=Tryz.zeroValue4
 t5:=Tryz.underlying5
 a5:=Tryz.isAgg5
 z5:=Tryz.sizeOf5
 v5:=Tryz.zeroValue5
 t9:=Tryz.underlying9
 a9:=Tryz.isAgg9
 z9:=Tryz.sizeOf9
 v9:=Tryz.zeroValue9
 t22:=Tryz.underlying78
 a22:=Tryz.isAgg78
 z22:=Tryz.sizeOf78
 v22:=Tryz.zeroValue78
 t25:=Tryz.underlying187
 a25:=Tryz.isAgg187
 z25:=Tryz.sizeOf187
 v25:=Tryz.zeroValue187
 t39:=Tryz.underlying353
 a39:=Tryz.isAgg353
 z39:=Tryz.sizeOf353
 v39:=Tryz.zeroValue353
 t45:=Tryz.underlying404
 a45:=Tryz.isAgg404
 z45:=Tryz.sizeOf404
 v45:=Tryz.zeroValue404
 t46:=Tryz.underlying405
 a46:=Tryz.isAgg405
 z46:=Tryz.sizeOf405
 v46:=Tryz.zeroValue405
 t50:=Tryz.underlying178
 a50:=Tryz.isAgg178
 z50:=Tryz.sizeOf178
 v50:=Tryz.zeroValue178
 t53:=Tryz.underlying73
 a53:=Tryz.isAgg73
 z53:=Tryz.sizeOf73
 v53:=Tryz.zeroValue73
 t55:=Tryz.underlying106
 a55:=Tryz.isAgg106
 z55:=Tryz.sizeOf106
 v55:=Tryz.zeroValue106
 t66:=Tryz.underlying434
 a66:=Tryz.isAgg434
 z66:=Tryz.sizeOf434
 v66:=Tryz.zeroValue434
 t70:=Tryz.underlying437
 a70:=Tryz.isAgg437
 z70:=Tryz.sizeOf437
 v70:=Tryz.zeroValue437
 t76:=Tryz.underlying443
 a76:=Tryz.isAgg443
 z76:=Tryz.sizeOf443
 v76:=Tryz.zeroValue443
 t77:=Tryz.underlying391
 a77:=Tryz.isAgg391
 z77:=Tryz.sizeOf391
 v77:=Tryz.zeroValue391 }
def Tryz.insSmp_ren:Go.Shelf.Ren:=⟨fun | 20=>295 | n=>n,fun | 24=>126 | 22=>70 | 3=>3 | 25=>264 | 4=>4 | 0=>0 | n=>n,fun | n=>n⟩
theorem Tryz.insSmp:Go.Proofs.SlLaysF0.n20 Tryz.prog Tryz.insSmp_ren:={
 mixed:=by kernel_rfl
 f20:=⟨Tryz.f295.name,by decide,Tryz.func295.trans (congrArg some (by kernel_rfl))⟩
 t0:=Tryz.underlying0
 a0:=Tryz.isAgg0
 z0:=Tryz.sizeOf0
 v0:=Tryz.zeroValue0
 t3:=Tryz.underlying3
 a3:=Tryz.isAgg3
 z3:=Tryz.sizeOf3
 v3:=Tryz.zeroValue3
 t4:=Tryz.underlying4
 a4:=Tryz.isAgg4
 z4:=Tryz.sizeOf4
 v4:=Tryz.zeroValue4
 t22:=Tryz.underlying70
 a22:=Tryz.isAgg70
 z22:=Tryz.sizeOf70
 v22:=Tryz.zeroValue70
 t25:=Tryz.underlying264
 a25:=Tryz.isAgg264
 z25:=Tryz.sizeOf264
 v25:=Tryz.zeroValue264 }
def Tryz.insSer_ren:Go.Shelf.Ren:=⟨fun | 20=>298 | n=>n,fun | 24=>80 | 22=>22 | 3=>3 | 25=>166 | 4=>4 | 0=>0 | n=>n,fun | n=>n⟩
theorem Tryz.insSer:Go.Proofs.SlLaysF0.n20 Tryz.prog Tryz.insSer_ren:={
 mixed:=by kernel_rfl
 f20:=⟨Tryz.f298.name,by decide,Tryz.func298.trans (congrArg some (by kernel_rfl))⟩
 t0:=Tryz.underlying0
 a0:=Tryz.isAgg0
 z0:=Tryz.sizeOf0
 v0:=Tryz.zeroValue0
 t3:=Tryz.underlying3
 a3:=Tryz.isAgg3
 z3:=Tryz.sizeOf3
 v3:=Tryz.zeroValue3
 t4:=Tryz.underlying4
 a4:=Tryz.isAgg4
 z4:=Tryz.sizeOf4
 v4:=Tryz.zeroValue4
 t22:=Tryz.underlying22
 a22:=Tryz.isAgg22
 z22:=Tryz.sizeOf22
 v22:=Tryz.zeroValue22
 t25:=Tryz.underlying166
 a25:=Tryz.isAgg166
 z25:=Tryz.sizeOf166
 v25:=Tryz.zeroValue166 }
end Go.Proofs
namespace Go.Proofs.YticphebaflnedaaGreatDoor
open Go.Lib(hid)
section
open Go Go.RowKit Go.Lib Go.Sort Go.Shelf
set_option maxRecDepth 100000 in
theorem cmpOr_any (w:World) (b:Nat) (x y:Int) (h0:w.cell? ⟨b,0,none⟩=some (.int .i64 x)) (h1:w.cell? ⟨b,1,none⟩=some (.int .i64 y)) :
  Calls Tryz.prog 191 #[.slice (some ⟨b,0,none⟩) 2 2] w fun e w'=>e=.returned (.int .i64 (if x≠0 then x else y))∧w=w':=by
 have H0:=hid h0;have H1:=hid h1;by_cases hx:x=0
 ·subst hx;by_cases hy:y=0
  ·subst hy;go_enter Tryz.func191,Tryz.ntmps191
   go_wp2;refine wp_loop_rounds 3 ?_;rw [rounds_succ];go_wp2;rw [rounds_succ];go_wp2;rw [rounds_succ];go_wp2;go_ret;exact ⟨by simp,rfl⟩
  ·have e1:(y != 0)=true:=by simpa using hy
   go_enter Tryz.func191,Tryz.ntmps191
   go_wp2;refine wp_loop_rounds 3 ?_;rw [rounds_succ];go_wp2;rw [rounds_succ];go_wp2;go_ret;exact ⟨by simp,rfl⟩
 ·have e1:(x != 0)=true:=by simpa using hx
  go_enter Tryz.func191,Tryz.ntmps191
  go_wp2;refine wp_loop_rounds 3 ?_;rw [rounds_succ];go_wp2;go_ret;exact ⟨by simp,rfl⟩
set_option maxRecDepth 100000 in
set_option maxHeartbeats 1600000 in
theorem pcmp_any (w:World) (x y:Lab) :
  Calls Tryz.prog 117 #[.agg #[.string x.1,.string x.2],.agg #[.string y.1,.string y.2]] w fun e w'=>e=.returned (.int .i64 (cmpL x y))∧Gr w w':=by
 obtain ⟨a,b⟩:=x;obtain ⟨c,d⟩:=y;have HC:=hid (show cmpL (a,b) (c,d)=(if cmpS a c≠0 then cmpS a c else cmpS b d) from rfl);dsimp only at HC ⊢;generalize cmpL (a,b) (c,d)=C at *;have HOr:=hid fun W bk=>cmpOr_any W bk (cmpS a c) (cmpS b d)
 rw [← HC.out] at HOr;clear HC;go_enter Tryz.func117,Tryz.ntmps117
 go_wp2_with fail;have hb0:((w.alloc (.cells #[.string a,.string b] 124)).alloc (.cells #[.string c,.string d] 124)).heap[w.heap.size]? = some (.cells #[.string a,.string b] 124 (0,0)):=by
  rw [heap_alloc_old _ _ (by simp)];exact heap_alloc_new _ _
 have hb1:((w.alloc (.cells #[.string a,.string b] 124)).alloc (.cells #[.string c,.string d] 124)).heap[w.heap.size+1]? = some (.cells #[.string c,.string d] 124 (0,0)):=by
  simpa using heap_alloc_new (w.alloc (.cells #[.string a,.string b] 124)) _
 have hgr:Gr w ((w.alloc (.cells #[.string a,.string b] 124)).alloc (.cells #[.string c,.string d] 124)):=(Gr.alloc _ _).trans (Gr.alloc _ _);generalize (w.alloc (.cells #[.string a,.string b] 124)).alloc (.cells #[.string c,.string d] 124)=wq at *;have hl0:=lt_of_block hb0;have hl1:=lt_of_block hb1;have q0:∀ p:Gp,(grow (wq.drewN p.n) p.os).cell? ⟨w.heap.size,0,none⟩=some (.string a):=cell_gr hl0 (by simp [World.cell?,hb0]);have q1:∀ p:Gp,(grow (wq.drewN p.n) p.os).cell? ⟨w.heap.size,1,none⟩=some (.string b):=cell_gr hl0 (by simp [World.cell?,hb0]);have q2:∀ p:Gp,(grow (wq.drewN p.n) p.os).cell? ⟨w.heap.size+1,0,none⟩=some (.string c):=cell_gr hl1 (by simp [World.cell?,hb1]);have q3:∀ p:Gp,(grow (wq.drewN p.n) p.os).cell? ⟨w.heap.size+1,1,none⟩=some (.string d):=cell_gr hl1 (by simp [World.cell?,hb1]);refine wp_region_gr_tail 10 (by kernel_rfl) (by kernel_rfl) ?_;simp only [List.take_succ_cons,List.take_zero,List.drop_succ_cons,List.drop_zero]
 repeat (quiet_step (first | (go_at_call 192;refine Calls.gr ((CompareS_any _ _ _).mono fun _ _ h=>⟨h.1,by rw [← h.2];exact Gr.refl _⟩))))
 refine wpQuiet_nil ?_;rintro _ ⟨p,rfl⟩;have hG:=hgr.trans ⟨p,rfl⟩;generalize grow (wq.drewN p.n) p.os=wz at *;generalize cmpS a c=c1 at *;generalize cmpS b d=c2 at *;have hN:=heap_alloc_new wz (.cells #[.int .i64 c1,.int .i64 c2] 3);have HO2:=hid (HOr.out _ wz.heap.size (cell_at (k:=0) hN) (cell_at (k:=1) hN));have HG:=hid (hG.alloc' (.cells #[.int .i64 c1,.int .i64 c2] 3));clear q0 q1 q2 q3 hG hgr hb0 hb1 hN;go_wp2_with fail;refine HO2.out.mono ?_;rintro e w2 ⟨rfl,hw⟩;subst hw;go_wp2;go_ret;exact ⟨rfl,HG.out⟩
theorem SortK_any (w:World) (g n c:Nat) (a:Addr) (l:List Lab) (hn:n=l.length) (hm:n≤1000000) (hO:Ow w g 124 2 (some a) n c (cL l)) :
  Calls Tryz.prog 189 #[.slice (some a) n c,.func (.func 117) #[] #[]] w fun e w'=>e=.returned (.tuple #[])∧∃ l',l'.Perm l∧l'.Pairwise (fun x y=>¬ cmpL y x = -1)∧Ow w' g 124 2 (some a) n c (cL l')∧Kp g g w w':=by
 subst hn;obtain ⟨cs,hh,_,_,rfl⟩:=hO.heap;have eg:∀ args w,(callFunc 117 args).run Tryz.prog w=.ok (.enter 117 args) w:=enters_of Tryz.func117 (by kernel_rfl) rfl;have hO':Ow w g 124 2 (some ⟨g,0,none⟩) l.toArray.size c (c2 (fun x:Lab=>.string x.1) (fun x=>.string x.2) l.toArray.toList):=by simpa [cL] using hO
 have hcmp:CmpLays Tryz.prog 117 #[] (fun x:Lab=>[.string x.1,.string x.2]) 2 cmpL g 0 l.toArray.size w:=by
  intro m os dk hd x y;refine (pcmp_any _ x y).mono ?_;rintro e w' ⟨he,p,hp⟩;exact ⟨he,p.n,p.os,hp⟩
 have hcon:=AnyQ.slices_SortFunc Tryz.sortLab 2 (fun w=>by kernel_rfl) (fun w=>by kernel_rfl) (fun x:Lab=>[.string x.1,.string x.2]) (fun _=>rfl) (fun x v hv=>by simp at hv;rcases hv with rfl | rfl<;>rfl) cmpL (cmp3_L.swo id) 117 #[] g 0 c l.toArray w eg hcmp (holds_ow hO') (lt_of_block hh) (by simp;omega);change Calls Tryz.prog 189 _ _ _ at hcon
 rw [List.size_toArray] at hcon;refine hcon.mono ?_;rintro e w' ⟨rfl,d',m,os,hp,hs,rfl⟩;have hd:d'.size=l.length:=by have:=hp.1;simpa using this
 have hw:=sort_ow (α:=Lab) (f:=fun x=>.string x.1) (h:=fun x=>.string x.2) (m:=m) hO hd os;refine ⟨rfl,d'.toList,?_,?_,hw.1,hw.2⟩
 ·have:=perm_of (d:=l.toArray) (d':=d') (by simpa using hp);simpa using this
 ·refine (sorted_of hs hd.symm).imp ?_;intro x y h h2;rw [show ltOf cmpL y x=true from (cmp3_L.lt (κ:=id)).2 h2] at h;cases h
end
section
open Go Go.RowKit Go.Lib Go.Sort Go.Shelf
open Go.ChangeMaps (setBlock heap_setBlock_same heap_setBlock_other)
def numsOf (done:List (Lab × Nat)) (x:Lab):List Nat:=(done.filter fun q=>cmpL q.1 x == 0).map (·.2)
theorem cmpL_eq {x y:Lab}:(cmpL x y == 0)=true↔x=y:=by rw [beq_iff_eq,cmp3_L.zero]
theorem numsOf_snoc_same (done:List (Lab × Nat)) (x:Lab) (i:Nat):numsOf (done++[(x,i)]) x=numsOf done x++[i]:=by
 unfold numsOf;have:(cmpL x x == 0)=true:=cmpL_eq.2 rfl;rw [List.filter_append,List.map_append];simp [this]
theorem numsOf_snoc_other {done:List (Lab × Nat)} {x y:Lab} {i:Nat} (h:x≠y):numsOf (done++[(x,i)]) y=numsOf done y:=by
 unfold numsOf;have:(cmpL x y == 0)=false:=by
  rw [Bool.eq_false_iff];exact fun e=>h (cmpL_eq.1 e)
 rw [List.filter_append,List.map_append];simp [this]
theorem numsOf_none {done:List (Lab × Nat)} {x:Lab} (h:∀ i,(x,i) ∉ done):numsOf done x=[]:=by
 unfold numsOf;rw [List.map_eq_nil_iff,List.filter_eq_nil_iff];rintro ⟨y,i⟩ hq e;obtain rfl:=cmpL_eq.1 e;exact h i hq
theorem numsOf_len (done:List (Lab × Nat)) (x:Lab):(numsOf done x).length≤done.length:=by
 unfold numsOf;rw [List.length_map];exact List.length_filter_le _ _
structure GrpOf (done:List (Lab × Nat)) (G:List (Lab × List Nat)):Prop where
 nd:(G.map (·.1)).Nodup
 mem:∀ x,x∈G.map (·.1)↔∃ i,(x,i)∈done
 nums:∀ p∈G,p.2=numsOf done p.1
theorem GrpOf.nil:GrpOf [] []:=⟨List.nodup_nil,by simp,by simp⟩
theorem GrpOf.new {done:List (Lab × Nat)} {G:List (Lab × List Nat)} (h:GrpOf done G) {x:Lab} (i:Nat) (hx:x ∉ G.map (·.1)):GrpOf (done++[(x,i)]) (G++[(x,[i])]):=by
 refine ⟨?_,fun y=>?_,fun p hp=>?_⟩
 ·rw [List.map_append];refine List.nodup_append.2 ⟨h.nd,by simp,fun a ha c hc e=>?_⟩;simp at hc;subst hc e;exact hx ha
 ·rw [List.map_append,List.mem_append,h.mem];simp only [List.map_cons,List.map_nil,List.mem_singleton,List.mem_append,Prod.mk.injEq];constructor
  ·rintro (⟨k,hk⟩ | rfl)
   ·exact ⟨k,.inl hk⟩
   ·exact ⟨i,.inr ⟨rfl,rfl⟩⟩
  ·rintro ⟨k,hk | ⟨rfl,_⟩⟩
   ·exact .inl ⟨k,hk⟩
   ·exact .inr rfl
 ·rcases List.mem_append.1 hp with hp1 | hp1
  ·rw [h.nums p hp1,numsOf_snoc_other];intro e;exact hx (e ▸ List.mem_map_of_mem hp1)
  ·simp only [List.mem_singleton] at hp1;subst hp1;rw [numsOf_snoc_same,numsOf_none]
   ·rfl
   ·intro k hk;exact hx ((h.mem x).2 ⟨k,hk⟩)
theorem GrpOf.old {done:List (Lab × Nat)} {G:List (Lab × List Nat)} (h:GrpOf done G) {x:Lab} {ns:List Nat} {j:Nat} (i:Nat) (hj:j < G.length) (hx:G[j]=(x,ns)):GrpOf (done++[(x,i)]) (G.set j (x,ns++[i])):=by
 have hm:(G.set j (x,ns++[i])).map (·.1)=G.map (·.1):=by
  rw [List.map_set];apply List.ext_getElem?
  intro k;rw [List.getElem?_set];split
  ·rename_i e
   subst e;simp [hj,hx]
  ·rfl
 have hxm:x∈G.map (·.1):=List.mem_map.2 ⟨G[j],List.getElem_mem hj,by rw [hx]⟩;refine ⟨by rw [hm];exact h.nd,fun y=>?_,fun p hp=>?_⟩
 ·rw [hm,h.mem];simp only [List.mem_append,List.mem_singleton,Prod.mk.injEq];constructor
  ·rintro ⟨k,hk⟩;exact ⟨k,.inl hk⟩
  ·rintro ⟨k,hk | ⟨rfl,_⟩⟩
   ·exact ⟨k,hk⟩
   ·exact (h.mem y).1 hxm
 ·obtain ⟨k,hk,rfl⟩:=List.getElem_of_mem hp;rw [List.length_set] at hk;by_cases e:j=k
  ·subst e;have hn:=h.nums _ (List.getElem_mem hj);rw [hx] at hn;rw [List.getElem_set_self,numsOf_snoc_same,← hn]
  ·rw [List.getElem_set_ne e,h.nums _ (List.getElem_mem hk),numsOf_snoc_other];intro e2;refine e (nodup_inj h.nd (i:=j) (j:=k) (hi:=by simpa using hj) (hj:=by simpa using hk) ?_);rw [List.getElem_map,List.getElem_map,hx,e2]
structure GR where
 lab:Lab
 ns:List Nat
 b:Nat
 A:Option Addr
 c:Nat
abbrev valG (r:GR):Lab × Value:=(r.lab,.slice r.A r.ns.length r.c)
abbrev keyG (r:GR):Lab × List Nat:=(r.lab,r.ns)
structure GInv (w W:World) (B:Nat) (done:List (Lab × Nat)) (rows:List GR):Prop where
 map:W.heap[B]? = some (.map (entsE (rows.map valG)) (rows.map valG).length)
 hB:w.heap.size≤B
 own:∀ r∈rows,Ow W r.b 3 1 r.A r.ns.length r.c (cN .i64 r.ns)
 far:∀ r∈rows,w.heap.size≤r.b∧r.A≠none
 apart:rows.Pairwise fun r s=>r.b≠s.b
 nw:Nw w W
 ok:∀ r∈rows,LOk r.lab
 grp:GrpOf done (rows.map keyG)
theorem GInv.tr {w W W':World} {B:Nat} {done:List (Lab × Nat)} {rows:List GR} (h:GInv w W B done rows) (hN:Nw W W'):GInv w W' B done rows :=
 ⟨(hN.block B (lt_of_block h.map)).trans h.map,h.hB,fun r hr=>(h.own r hr).nw hN,h.far,h.apart,h.nw.trans hN,h.ok,h.grp⟩
theorem GInv.start (w:World):GInv w (w.alloc (.map #[] 0)) w.heap.size [] [] :=
 ⟨heap_alloc_new _ _,Nat.le_refl _,by simp,by simp,List.Pairwise.nil,(Nw.refl w).alloc' _,by simp,GrpOf.nil⟩
theorem Ow.ne_map {w:World} {b B n c:Nat} {e:TypeId} {size:Nat} {A:Option Addr} {xs:List Value} {es:Array MapEntry} {k:Nat} (h:Ow w b e size A n c xs) (hA:A≠none) (hB:w.heap[B]? = some (.map es k)):b≠B:=by
 intro e;rcases h with ⟨h,_⟩ | ⟨rfl,hlt,h⟩
 ·exact hA h
 ·obtain ⟨cs,fr,hb⟩:=Ow.blk (.inr ⟨rfl,hlt,h⟩);rw [e,hB] at hb;cases hb
theorem keysG (rows:List GR):(rows.map valG).map (·.1)=(rows.map keyG).map (·.1):=by simp
theorem GInv.keys_nd {w W:World} {B:Nat} {done:List (Lab × Nat)} {rows:List GR} (h:GInv w W B done rows):((rows.map valG).map (·.1)).Nodup:=by rw [keysG];exact h.grp.nd
theorem GInv.oks {w W:World} {B:Nat} {done:List (Lab × Nat)} {rows:List GR} (h:GInv w W B done rows):∀ p∈rows.map valG,LOk p.1:=by
 intro p hp;obtain ⟨r,hr,rfl⟩:=List.mem_map.1 hp;exact h.ok r hr
theorem kp_set (W:World) (B:Nat) (o:Obj):Kp B B W (setBlock W B o):=kp_putObj W B o
theorem group_round {w W:World} {B:Nat} {done:List (Lab × Nat)} {rows:List GR} (h:GInv w W B done rows) {x:Lab} (hx:LOk x) (i:Nat) :
  ∃ (j b:Nat) (A:Option Addr) (c:Nat) (ns:List Nat) (W1:World),(Instr.mapEntry 182 (.map (some B)) (labKey x)).run Tryz.prog W=.ok (.tuple #[.slice A ns.length c,.int .i64 j]) W1 ∧
   Ow W1 b 3 1 A ns.length c (cN .i64 ns)∧ns.length≤done.length∧Kp B B W W1∧(A=none∨b≠B) ∧
   ∀ (b':Nat) (A':Option Addr) (c':Nat) (W2:World),Ow W2 b' 3 1 A' (ns.length+1) c' (cN .i64 (ns++[i]))→(b'=b∨W1.heap.size≤b')→Kp b b W1 W2→(A=none→Nw W1 W2) →
    ∃ W3,(Instr.entryStore 182 (.map (some B)) (.int .i64 j) (.slice A' (ns.length+1) c')).run Tryz.prog W2=.ok () W3∧Kp B B W2 W3∧∃ rows',GInv w W3 B (done++[(x,i)]) rows':=by
 have hBl:=lt_of_block h.map;have hne:∀ r∈rows,r.b≠B:=fun r hr=>(h.own r hr).ne_map (h.far r hr).2 h.map
 have hA':∀ (W2:World) (b':Nat) (A':Option Addr) (c':Nat) (ns:List Nat),Ow W2 b' 3 1 A' (ns.length+1) c' (cN .i64 (ns++[i]))→A'≠none:=fun W2 b' A' c' ns hO e=>by
  rcases hO with ⟨_,h1,_⟩ | ⟨h1,_⟩
  ·omega
  ·rw [e] at h1;cases h1
 by_cases hm:x∈(rows.map keyG).map (·.1)
 ·obtain ⟨j,hj,hjx⟩:=List.getElem_of_mem hm;have hjr:j < rows.length:=by simpa using hj
  obtain ⟨r,hr⟩:∃ r,rows[j]=r:=⟨_,rfl⟩;have hrm:r∈rows:=hr ▸ List.getElem_mem hjr;have hrx:r.lab=x:=by rw [← hjx,← hr];simp
  have hget:(rows.map valG)[j]? = some (x,.slice r.A r.ns.length r.c):=by
   rw [List.getElem?_map,List.getElem?_eq_getElem hjr,hr];simp [hrx]
  have hrun:=run_entry_old h.map h.oks hx h.keys_nd hget;have hb1:=heap_setBlock_same h.map (.map (entsE (rows.map valG)) (rows.map valG).length);have hk1:Kp B B W (setBlock W B (.map (entsE (rows.map valG)) (rows.map valG).length)):=kp_set _ _ _;generalize setBlock W B (.map (entsE (rows.map valG)) (rows.map valG).length)=W1 at *;have hO1:∀ s∈rows,Ow W1 s.b 3 1 s.A s.ns.length s.c (cN .i64 s.ns):=fun s hs=>(h.own s hs).kp hk1 (hne s hs) (hne s hs)
  have hnl:r.ns.length≤done.length:=by
   have:=h.grp.nums (keyG r) (List.mem_map_of_mem hrm);have e:r.ns=numsOf done r.lab:=this;rw [e];exact numsOf_len _ _
  refine ⟨j,r.b,r.A,r.c,r.ns,W1,hrun,hO1 r hrm,hnl,hk1,.inr (hne r hrm),?_⟩;intro b' A' c' W2 hO2 hb' hk2 _;have hB2:W2.heap[B]? = some (.map (entsE (rows.map valG)) (rows.map valG).length):=(hk2.block B (lt_of_block hb1) (fun e=>hne r hrm e.symm) (fun e=>hne r hrm e.symm)).trans hb1;have hst:=run_entry_store hB2 (j:=j) (by simpa using hjr) (.slice A' (r.ns.length+1) c');have hN:=hA' _ _ _ _ _ hO2;have hbB:b'≠B:=hO2.ne_map hN hB2;have hjm:j < (rows.map valG).length:=by rw [List.length_map];exact hjr
  have hset:(rows.map valG).set j (((rows.map valG)[j]'hjm).1,Value.slice A' (r.ns.length+1) c')=(rows.set j ⟨x,r.ns++[i],b',A',c'⟩).map valG:=by
   rw [List.map_set,List.getElem_map,hr,show valG (⟨x,r.ns++[i],b',A',c'⟩:GR)=(x,Value.slice A' (r.ns.length+1) c') from by rw [valG,List.length_append,List.length_singleton],← hrx]
  rw [hset] at hst;have hb3:=heap_setBlock_same hB2 (.map (entsE ((rows.set j ⟨x,r.ns++[i],b',A',c'⟩).map valG)) (rows.map valG).length);have hk3:Kp B B W2 (setBlock W2 B (.map (entsE ((rows.set j ⟨x,r.ns++[i],b',A',c'⟩).map valG)) (rows.map valG).length)):=kp_set _ _ _;generalize setBlock W2 B (.map (entsE ((rows.set j ⟨x,r.ns++[i],b',A',c'⟩).map valG)) (rows.map valG).length)=W3 at *;have hjk:∀ k (hk:k < rows.length),k≠j→rows[k].b≠r.b:=fun k hk hkj=>by
   rcases Nat.lt_trichotomy k j with h1 | h1 | h1
   ·have:=List.pairwise_iff_getElem.1 h.apart k j hk hjr h1
    rwa [hr] at this
   ·exact (hkj h1).elim
   ·have:=List.pairwise_iff_getElem.1 h.apart j k hjr hk h1;rw [hr] at this;exact fun e=>this e.symm
  have hlt1:∀ s∈rows,s.b < W1.heap.size:=fun s hs=>(hO1 s hs).lt_some (h.far s hs).2
  have hjb:∀ k (hk:k < rows.length),k≠j→rows[k].b≠b':=fun k hk hkj e=>by
   rcases hb' with h1 | h1
   ·exact hjk k hk hkj (e.trans h1)
   ·have:=hlt1 _ (List.getElem_mem hk);omega
  have hmem:∀ s∈rows.set j ⟨x,r.ns++[i],b',A',c'⟩,s=⟨x,r.ns++[i],b',A',c'⟩∨∃ k,∃ hk:k < rows.length,k≠j∧s=rows[k]:=fun s hs=>by
   obtain ⟨k,hk,rfl⟩:=List.getElem_of_mem hs;rw [List.length_set] at hk;by_cases e:j=k
   ·subst e;exact .inl (List.getElem_set_self _)
   ·exact .inr ⟨k,hk,fun e2=>e e2.symm,List.getElem_set_ne e _⟩
  have hwb:w.heap.size≤r.b:=(h.far r hrm).1;refine ⟨W3,hst,hk3,rows.set j ⟨x,r.ns++[i],b',A',c'⟩,?_⟩;refine { map:=by rw [hb3];simp,hB:=h.hB,own:=fun s hs=>?_,far:=fun s hs=>?_,apart:=?_,nw:=?_,ok:=fun s hs=>?_,grp:=?_ }
  ·rcases hmem s hs with rfl | ⟨k,hk,hkj,rfl⟩
   ·exact (show Ow W2 b' 3 1 A' (r.ns++[i]).length c' (cN .i64 (r.ns++[i])) from by rw [List.length_append];exact hO2).kp hk3 hbB hbB
   ·have hkm:=List.getElem_mem hk;exact ((hO1 _ hkm).kp hk2 (hjk k hk hkj) (hjk k hk hkj)).kp hk3 (hne _ hkm) (hne _ hkm)
  ·rcases hmem s hs with rfl | ⟨k,hk,hkj,rfl⟩
   ·refine ⟨?_,hN⟩;rcases hb' with h1 | h1
    ·rw [h1];exact hwb
    ·have:=h.nw.size;have:=hk1.size;show w.heap.size≤b';omega
   ·exact h.far _ (List.getElem_mem hk)
  ·rw [List.pairwise_iff_getElem];intro a c ha hc hac;rw [List.length_set] at ha hc;have hp:=List.pairwise_iff_getElem.1 h.apart a c ha hc hac;rw [List.getElem_set,List.getElem_set];split
   ·split
    ·omega
    ·exact fun e=>hjb c hc (by omega) e.symm
   ·split
    ·exact hjb a ha (by omega)
    ·exact hp
  ·have n1:Nw w W1:=Kp.nw h.nw hk1 h.hB h.hB;have n2:Nw w W2:=Kp.nw n1 hk2 hwb hwb;exact Kp.nw n2 hk3 h.hB h.hB
  ·rcases hmem s hs with rfl | ⟨k,hk,hkj,rfl⟩
   ·exact hx
   ·exact h.ok _ (List.getElem_mem hk)
  ·rw [List.map_set];exact h.grp.old i (by simpa using hjr) (by rw [List.getElem_map,hr,← hrx])
 ·have hnew:∀ p∈rows.map valG,p.1≠x:=fun p hp e=>hm (by rw [← keysG];exact e ▸ List.mem_map_of_mem hp)
  have hrun:=run_entry_new h.map h.oks hx hnew;have hb1:=heap_setBlock_same h.map (.map (entsE (rows.map valG++[(x,.slice none 0 0)])) ((rows.map valG).length+1));have hk1:Kp B B W (setBlock W B (.map (entsE (rows.map valG++[(x,.slice none 0 0)])) ((rows.map valG).length+1))):=kp_set _ _ _;generalize setBlock W B (.map (entsE (rows.map valG++[(x,.slice none 0 0)])) ((rows.map valG).length+1))=W1 at *;have hO1:∀ s∈rows,Ow W1 s.b 3 1 s.A s.ns.length s.c (cN .i64 s.ns):=fun s hs=>(h.own s hs).kp hk1 (hne s hs) (hne s hs)
  refine ⟨(rows.map valG).length,W1.heap.size,none,0,[],W1,hrun,Ow.nil _ _ _ _,Nat.zero_le _,hk1,.inl rfl,?_⟩;intro b' A' c' W2 hO2 hb' _ hn2;have hN2:=hn2 rfl;have hB2:W2.heap[B]? = some (.map (entsE (rows.map valG++[(x,.slice none 0 0)])) (rows.map valG++[(x,Value.slice none 0 0)]).length):=by
   rw [List.length_append,List.length_singleton];exact (hN2.block B (lt_of_block hb1)).trans hb1
  have hjl:(rows.map valG).length < (rows.map valG++[(x,Value.slice none 0 0)]).length:=by simp
  have hst:=run_entry_store hB2 (j:=(rows.map valG).length) hjl (Value.slice A' 1 c');have hN:=hA' _ _ _ _ [] hO2;have hbB:b'≠B:=hO2.ne_map hN hB2;have hset:(rows.map valG++[(x,Value.slice none 0 0)]).set (rows.map valG).length (((rows.map valG++[(x,Value.slice none 0 0)])[(rows.map valG).length]'hjl).1,Value.slice A' 1 c')=(rows++[GR.mk x [i] b' A' c']).map valG:=by
   rw [List.map_append,List.set_append_right _ _ (Nat.le_refl _)];simp [valG]
  rw [hset] at hst;have hb3:=heap_setBlock_same hB2 (.map (entsE ((rows++[GR.mk x [i] b' A' c']).map valG)) (rows.map valG++[(x,Value.slice none 0 0)]).length);have hk3:Kp B B W2 (setBlock W2 B (.map (entsE ((rows++[GR.mk x [i] b' A' c']).map valG)) (rows.map valG++[(x,Value.slice none 0 0)]).length)):=kp_set _ _ _;generalize setBlock W2 B (.map (entsE ((rows++[GR.mk x [i] b' A' c']).map valG)) (rows.map valG++[(x,Value.slice none 0 0)]).length)=W3 at *;have hb1':W1.heap.size≤b':=by
   rcases hb' with h1 | h1
   ·omega
   ·exact h1
  have hlt1:∀ s∈rows,s.b < W1.heap.size:=fun s hs=>(hO1 s hs).lt_some (h.far s hs).2
  have n1:Nw w W1:=Kp.nw h.nw hk1 h.hB h.hB;refine ⟨W3,hst,hk3,rows++[GR.mk x [i] b' A' c'],?_⟩;refine { map:=by rw [hb3];simp,hB:=h.hB,own:=fun s hs=>?_,far:=fun s hs=>?_,apart:=?_,nw:=?_,ok:=fun s hs=>?_,grp:=?_ }
  ·rcases List.mem_append.1 hs with hs | hs
   ·exact ((hO1 _ hs).nw hN2).kp hk3 (hne _ hs) (hne _ hs)
   ·simp only [List.mem_singleton] at hs;subst hs;exact (show Ow W2 b' 3 1 A' [i].length c' (cN .i64 [i]) from hO2).kp hk3 hbB hbB
  ·rcases List.mem_append.1 hs with hs | hs
   ·exact h.far _ hs
   ·simp only [List.mem_singleton] at hs;subst hs;exact ⟨by have:=n1.size;show w.heap.size≤b';omega,hN⟩
  ·refine List.pairwise_append.2 ⟨h.apart,List.pairwise_singleton _ _,fun a ha c hc=>?_⟩;simp only [List.mem_singleton] at hc;subst hc;have:=hlt1 a ha;show a.b≠b'
   omega
  ·exact Kp.nw (n1.trans hN2) hk3 h.hB h.hB
  ·rcases List.mem_append.1 hs with hs | hs
   ·exact h.ok _ hs
   ·simp only [List.mem_singleton] at hs;subst hs;exact hx
  ·rw [List.map_append];exact h.grp.new i hm
end
section
open Go Go.RowKit
theorem E_int:ElemT Tryz.prog 63 3 (.int .i64 0) 1 8:=ElemT.mk' Tryz.underlying63 (by kernel_rfl) rfl (by omega)
end
section
open Go Go.RowKit Go.Lib Go.Sort Go.Shelf
structure SetS where
 labs:List Lab
 b:Nat
 A:Option Addr
 c:Nat
def cSet (l:List SetS):List Value:=l.map fun s=>.slice s.A s.labs.length s.c
def InSet (w:World) (s:SetS):Prop:=Rd w s.b s.A (cL s.labs)∧s.labs.length≤1000∧∀ x∈s.labs,LOk x
def tagAt (L:List Lab) (i:Nat):List (Lab × Nat):=L.map fun x=>(x,i)
def doneOf (sets:List (List Lab)):List (Lab × Nat):=(sets.mapIdx fun i L=>tagAt L i).flatten
theorem doneOf_snoc {sets:List (List Lab)} {k:Nat} (h:k < sets.length):doneOf (sets.take (k+1))=doneOf (sets.take k)++tagAt sets[k] k:=by
 unfold doneOf;rw [List.take_succ_eq_append_getElem h,List.mapIdx_append,List.flatten_append];simp [Nat.min_eq_left (Nat.le_of_lt h)]
theorem tagAt_snoc {L:List Lab} {j i:Nat} (h:j < L.length):tagAt (L.take (j+1)) i=tagAt (L.take j) i++[(L[j],i)]:=by
 unfold tagAt;rw [List.take_succ_eq_append_getElem h,List.map_append];rfl
section
variable {P:Program} {ops:Array Oper} {rest:List Oper} {o:Oper} {a:Act} {Q:Exit→Act→World→Prop} {w:World}
theorem wpList_entryM (hg:o.guard=none) (m x:Operand) (t:TypeId) (hop:o.op=Op.mapEntry t m x) {M X V:Value} {w1:World} (hm:a.eval m=M) (hx:a.eval x=X) (hrun:(Instr.mapEntry t M X).run P w=.ok V w1)
  (hK:wpList P ops Q rest (a.put o.dst V) w1):wpList P ops Q (o::rest) a w:=by
 refine wpList_plain hg fun K' hK'=>?_
 unfold Oper.wp;simp [execOp,hop,hm,hx,hrun,Result.andThen];exact hK' _ _ hK
theorem wpList_storeM (hg:o.guard=none) (m s x:Operand) (t:TypeId) (hop:o.op=Op.entryStore t m s x) {M S X:Value} {w1:World} (hm:a.eval m=M) (hs:a.eval s=S) (hx:a.eval x=X) (hrun:(Instr.entryStore t M S X).run P w=.ok () w1)
  (hK:wpList P ops Q rest (a.put o.dst undef) w1):wpList P ops Q (o::rest) a w:=by
 refine wpList_plain hg fun K' hK'=>?_
 unfold Oper.wp;simp [execOp,hop,hm,hs,hx,hrun,Result.andThen];exact hK' _ _ hK
end
def cEnt1 (e:GR):List Value:=[.string e.lab.1,.string e.lab.2,.slice e.A e.ns.length e.c]
def cEnt (l:List GR):List Value:=l.flatMap cEnt1
theorem cEnt_len (l:List GR):(cEnt l).length=l.length*3:=by
 induction l with
 | nil=>rfl
 | cons x l ih=>rw [cEnt,List.flatMap_cons,List.length_append,show l.flatMap cEnt1=cEnt l from rfl,ih];simp [cEnt1];omega
theorem cEnt_snoc {l:List GR} {k:Nat} (h:k < l.length):cEnt (l.take (k+1))=cEnt (l.take k)++cEnt1 l[k]:=by
 unfold cEnt;rw [List.take_succ_eq_append_getElem h,List.flatMap_append];simp
theorem E_ent:ElemT Tryz.prog 97 181 (.agg #[.string .empty,.string .empty,.slice none 0 0]) 3 56:=ElemT.mk' Tryz.underlying97 (by kernel_rfl) rfl (by omega)
structure IsIdx (done:List (Lab × Nat)) (E:List (Lab × List Nat)):Prop where
 asc:(E.map (·.1)).Pairwise fun x y=>cmpL x y = -1
 mem:∀ x,x∈E.map (·.1)↔∃ i,(x,i)∈done
 nums:∀ p∈E,p.2=numsOf done p.1
theorem asc_of {ks:List Lab} (hd:ks.Nodup) (h:ks.Pairwise fun x y=>¬ cmpL y x = -1):ks.Pairwise fun x y=>cmpL x y = -1:=by
 refine (List.pairwise_and_iff.2 ⟨hd,h⟩).imp ?_;rintro x y ⟨h1,h2⟩;have:=cmp3_L.swap x y;rcases cmp3_L.inn x y with h3 | h3 | h3
 ·exact h3
 ·exact (h1 ((cmp3_L.zero _ _).1 h3)).elim
 ·omega
theorem rows_of (rows:List GR):∀ ks:List Lab,(∀ x∈ks,x∈(rows.map keyG).map (·.1))→∃ E:List GR,E.map (·.lab)=ks∧∀ e∈E,e∈rows
 | [],_=>⟨[],rfl,by simp⟩
 | x::ks,h=>by
  obtain ⟨E,h1,h2⟩:=rows_of rows ks (fun y hy=>h y (List.mem_cons_of_mem _ hy));obtain ⟨p,hp,hpx⟩:=List.mem_map.1 (h x List.mem_cons_self);obtain ⟨r,hr,rfl⟩:=List.mem_map.1 hp;refine ⟨r::E,by rw [List.map_cons,h1];exact congrArg (·::ks) hpx,fun e he=>?_⟩;rcases List.mem_cons.1 he with rfl | he
  ·exact hr
  ·exact h2 e he
theorem GInv.look {w W W':World} {B:Nat} {done:List (Lab × Nat)} {rows:List GR} (h:GInv w W B done rows) {r:GR} (hr:r∈rows) (hk:W'.heap[B]? = W.heap[B]?) :
  (Instr.lookup 182 (.map (some B)) (labKey r.lab) false).run Tryz.prog W'=.ok (.slice r.A r.ns.length r.c) W':=by
 obtain ⟨j,hj,rfl⟩:=List.getElem_of_mem hr;exact run_look (hk.trans h.map) h.oks (h.ok _ hr) h.keys_nd (j:=j) (by rw [List.getElem?_map,List.getElem?_eq_getElem hj];rfl)
theorem nodup_sub_len {α:Type}:∀ {l m:List α},l.Nodup→(∀ x∈l,x∈m)→l.length≤m.length
 | [],_,_,_=>Nat.zero_le _
 | x::l,m,hd,hs=>by
  obtain ⟨s,t,rfl⟩:=List.append_of_mem (hs x List.mem_cons_self);obtain ⟨h1,h2⟩:=List.nodup_cons.1 hd;have:=nodup_sub_len (m:=s++t) h2 (fun y hy=>by
   have hy2:=hs y (List.mem_cons_of_mem _ hy);simp only [List.mem_append,List.mem_cons] at hy2 ⊢;rcases hy2 with h | rfl | h
   ·exact .inl h
   ·exact (h1 hy).elim
   ·exact .inr h)
  simp at this ⊢;omega
theorem GrpOf.len {done:List (Lab × Nat)} {G:List (Lab × List Nat)} (h:GrpOf done G):G.length≤done.length:=by
 have:=nodup_sub_len (m:=done.map (·.1)) h.nd (fun x hx=>by
  obtain ⟨i,hi⟩:=(h.mem x).1 hx;exact List.mem_map.2 ⟨_,hi,rfl⟩)
 simpa using this
theorem SortKA_any (w:World) (bp n cp:Nat) (Ap:Option Addr) (ks:List Lab) (hn:n=ks.length) (hm:n≤1000000) (hO:Ow w bp 124 2 Ap n cp (cL ks)) :
  Calls Tryz.prog 189 #[.slice Ap n cp,.func (.func 117) #[] #[]] w fun e w'=>e=.returned (.tuple #[])∧∃ l',l'.Perm ks∧l'.Pairwise (fun x y=>¬ cmpL y x = -1)∧Rd w' bp Ap (cL l')∧(∀ w0:World,Nw w0 w→w0.heap.size≤bp→Nw w0 w'):=by
 cases Ap with
 | none =>
  rcases hO with ⟨_,h0,_,hc⟩ | ⟨h,_⟩
  ·have hk0:ks=[]:=List.eq_nil_of_length_eq_zero (by omega);subst hk0;subst h0;refine (AnyF.slices_SortFunc_none Tryz.sortLab none cp _ w).mono ?_;rintro e w' ⟨rfl,rfl⟩;exact ⟨rfl,[],List.Perm.nil,List.Pairwise.nil,Rd.nil _ _ _,fun _ h _=>h⟩
  ·cases h
 | some a =>
  refine (SortK_any w bp n cp a ks hn hm hO).mono ?_;rintro e w' ⟨rfl,l',h1,h2,h3,h4⟩;exact ⟨rfl,l',h1,h2,h3.rd,fun w0 h hb=>Kp.nw h h4 hb hb⟩
set_option maxRecDepth 100000 in
theorem SortedK_any (w:World) (B b:Nat) (l:List (Lab × Value)) (hm:l.length≤1000000) (hd:(l.map (·.1)).Nodup) (hB:w.heap[B]? = some (.cells #[.map (some b)] 182 (0,0))) (hb:w.heap[b]? = some (.map (entsE l) l.length)) :
  Calls Tryz.prog 115 #[.func (.func 190) #[] #[.pointer (some ⟨B,0,none⟩)],.func (.func 117) #[] #[]] w fun e w' =>
   ∃ (ks:List Lab) (bp:Nat) (Ap:Option Addr) (cp:Nat),e=.returned (.slice Ap l.length cp)∧ks.Perm (l.map (·.1))∧(ks.Pairwise fun x y=>cmpL x y = -1)∧Rd w' bp Ap (cL ks)∧Nw w w':=by
 have HC:=hid (CollectK_any w B b l hm hB hb);have HD:=hid hd;have HLL:Hid (∀ ks:List Lab,ks.Perm (l.map (·.1))→l.length=ks.length):=hid fun ks hp=>by rw [hp.length_eq,List.length_map]
 generalize l.map (·.1)=L at *;generalize l.length=n at *;clear hB hb hd;go_enter Tryz.func115,Tryz.ntmps115
 go_wp2_with fail;refine HC.out.mono ?_;rintro e w1 ⟨ks,bp,Ap,cp,rfl,hp,hO,hbp,hN⟩;have HS:=hid (SortKA_any w1 bp n cp Ap ks (HLL.out ks hp) hm hO);have HP:=hid hp;clear hO hp HC;go_wp2_with fail;refine HS.out.mono ?_;rintro e w2 ⟨rfl,l',h1,h2,h3,h4⟩;have hNf:=h4 w hN hbp;have H1:=hid h1;have H2:=hid h2;clear h1 h2 h4;go_wp2;go_ret;have hpp:=H1.out.trans HP.out;exact ⟨l',bp,Ap,cp,rfl,hpp,asc_of (hpp.nodup_iff.2 HD.out) H2.out,h3,hNf⟩
end
section
open Go Go.RowKit Go.Lib Go.Sort Go.Shelf
set_option maxRecDepth 100000 in
set_option maxHeartbeats 2000000 in
theorem PBuild_any (w:World) (b:Nat) (A:Option Addr) (n c:Nat) (l:List SetS) (hn:n=l.length) (hm:n≤1000) (hr:Rd w b A (cSet l)) (hI:∀ s∈l,InSet w s) (hd:(doneOf (l.map (·.labs))).length≤1000) :
  Calls Tryz.prog 59 #[.slice A n c] w fun e w'=>∃ (b':Nat) (A':Option Addr) (c':Nat) (E:List GR),e=.returned (.slice A' E.length c')∧IsIdx (doneOf (l.map (·.labs))) (E.map keyG)∧Rd w' b' A' (cEnt E)∧(∀ x∈E,Rd w' x.b x.A (cN .i64 x.ns))∧Nw w w':=by
 subst hn;have HR:=hid hr;have HI:=hid hI;have hmm:=@run_makeMap Tryz.prog;obtain ⟨i0,hi,hz0,hz1,hz2⟩:=E_ent.info;obtain ⟨B,hB⟩:∃ B,w.heap.size=B:=⟨_,rfl⟩;have HG0:=hid (GInv.start w);obtain ⟨sets,hsets⟩:∃ s,l.map (·.labs)=s:=⟨_,rfl⟩;rw [hsets] at hd ⊢;have HS:=hid hsets;clear hr hI hsets;go_enter Tryz.func59,Tryz.ntmps59
 go_wp2;rw [hB] at HG0;go_loopw [14] (fun i wr=>∃ (k:Nat) (rows:List GR),k≤l.length∧i=.int .i64 k∧Hid (GInv w wr B (doneOf (sets.take k)) rows)) (fun i _=>l.length - (intOf i).toNat)
 case atStart=>exact ⟨0,[],by omega,rfl,by simpa [doneOf] using HG0⟩
 case round =>
  obtain ⟨k,rows,hk,rfl,HG⟩:=hrel;by_cases hlt:k < l.length
  ·have hltI:(k:Int) < (l.length:Int):=by omega
   obtain ⟨o,rfl,_,hc⟩:=(HR.out.nw HG.out.nw).get (k:=k) (by rw [cSet,List.length_map];exact hlt);simp only [cSet,List.getElem_map] at hc;have HIx:=hid (HI.out l[k] (List.getElem_mem hlt));have hks:k < sets.length:=by rw [← HS.out,List.length_map];exact hlt
   have HD:=hid (doneOf_snoc hks);have HL:=hid (show sets[k]=l[k].labs from by simp only [← HS.out,List.getElem_map]);have HDL:=hid (show (doneOf (sets.take k)++tagAt sets[k] k).length≤1000 from by
    rw [← doneOf_snoc hks];refine Nat.le_trans ?_ hd
    conv=>rhs;rw [← List.take_append_drop (k+1) sets]
    unfold doneOf;rw [List.mapIdx_append,List.flatten_append,List.length_append];omega)
   generalize l[k]=x at *;generalize sets[k]=L at *;obtain ⟨labs,bl,al,cl⟩:=x;obtain rfl:L=labs:=HL.out;have hll:L.length≤1000:=HIx.out.2.1;have HIL:Hid (Rd w bl al (cL L)):=hid HIx.out.1;have HIO:Hid (∀ x∈L,LOk x):=hid HIx.out.2.2;generalize doneOf (sets.take k)=D at *;clear HL HIx;dsimp only at hc;go_wp2_with fail;go_loopw [21] (fun i wr=>∃ (j:Nat) (rows:List GR),j≤L.length∧i=.int .i64 j∧Hid (GInv w wr B (D++tagAt (L.take j) k) rows)) (fun i _=>L.length - (intOf i).toNat)
   case atStart=>exact ⟨0,rows,by omega,rfl,by simpa [tagAt] using HG⟩
   case round =>
    obtain ⟨j,rows,hj,rfl,HG⟩:=hrel;by_cases hjt:j < L.length
    ·have hltJ:(j:Int) < (L.length:Int):=by omega
     obtain ⟨o2,rfl,_,hc0,hc1⟩:=two_at (HIL.out.nw HG.out.nw) hjt;have HOx:=hid (HIO.out L[j] (List.getElem_mem hjt));have HT:=hid (show D++tagAt (L.take (j+1)) k=D++tagAt (L.take j) k++[(L[j],k)] from by rw [tagAt_snoc hjt,List.append_assoc]);have hdl:(D++tagAt (L.take j) k).length≤1000:=by
      have:=HDL.out;simp [tagAt] at this ⊢;omega
     generalize L[j]=x at *;obtain ⟨a,d⟩:=x;have hN:Nw wr ((wr.alloc (.cells #[.string a,.string d] 124)).alloc (.cells #[.int .i64 k] 3)):=((Nw.refl wr).alloc' _).alloc' _;have hlit:((wr.alloc (.cells #[.string a,.string d] 124)).alloc (.cells #[.int .i64 k] 3)).heap[(wr.alloc (.cells #[.string a,.string d] 124)).heap.size]? = some (.cells #[.int .i64 k] 3 (0,0)):=heap_alloc_new _ _;obtain ⟨jj,bb,AA,cc,ns,W1,hrun,hO1,hnl,hk1,hbB,hcont⟩:=group_round (HG.out.tr hN) HOx.out k;have hlB:(wr.alloc (.cells #[.string a,.string d] 124)).heap.size≠B:=fun e=>by
      rw [e,(HG.out.tr hN).map] at hlit;cases hlit
     have hlit1:=(hk1.block _ (lt_of_block hlit) hlB hlB).trans hlit;have hrl:Rd W1 (wr.alloc (.cells #[.string a,.string d] 124)).heap.size (some ⟨(wr.alloc (.cells #[.string a,.string d] 124)).heap.size,0,none⟩) [.int .i64 k]:=.inr ⟨0,rfl,lt_of_block hlit1,fun j u hu=>by rw [Nat.zero_add,cell_at hlit1];simpa using hu⟩;have HO1:=hid hO1;have HRL:=hid hrl;have HC:=hid hcont;clear hO1 hrl hcont hlit hlit1 hk1 hN;rw [World.size_alloc] at HRL;go_wp2_with (first
      | (refine wpList_entryM rfl (.tmp 25) (.tmp 26) _ rfl rfl rfl hrun ?_)
      | (at_builtin;refine wpList_app E_int rfl (.tmp 27) (.tmp 29) rfl rfl HO1.out rfl HRL.out (by simp) (by intro h;cases h) (oc_N .i64 [k]) (by simp only [maxLen];omega) (by omega) ?_;intro b' A' c' W2 q1 q2 q3 q4;obtain ⟨W3,hst,hk3,rows',hG'⟩:=HC.out b' A' c' W2 (by rw [show cN .i64 (ns++[k])=cN .i64 ns++[.int .i64 k] from by simp [cN]];exact q1) q2 q3 (fun e=>(q4 e).1))
      | (refine wpList_storeM rfl (.tmp 25) (.tmp 32) (.tmp 31) _ rfl rfl rfl rfl hst ?_)
      | fail)
     go_roundw
     case rel=>exact ⟨j+1,rows',by omega,by go_num,hid (by rw [HT.out];exact hG')⟩
     case measure=>simp [intOf];omega
    ·obtain rfl:j=L.length:=by omega
     have hG2:=HG.out;rw [List.take_length,← HD.out] at hG2;have HG2:=hid hG2;clear hG2 HG;go_wp2_with fail;go_roundw
     case rel=>exact ⟨k+1,rows,by omega,by go_num,HG2⟩
     case measure=>simp [intOf];omega
  ·obtain rfl:k=l.length:=by omega
   have hG:=HG.out;rw [List.take_of_length_le (by rw [← HS.out,List.length_map];exact Nat.le_refl _)] at hG;have hrl:rows.length≤1000:=by
    have:=hG.grp.len;rw [List.length_map] at this;omega
   have hbx:=heap_alloc_new wr (.cells #[.map (some B)] 182);have hNx:Nw wr (wr.alloc (.cells #[.map (some B)] 182)):=(Nw.refl wr).alloc' _;have hGx:=hG.tr hNx;have HSK:=hid (SortedK_any _ wr.heap.size B (rows.map valG) (by rw [List.length_map];omega) hG.keys_nd hbx hGx.map);have HGx:=hid hGx;have HKA:=hid (Keys_any wr (some B));clear hG hbx hNx hGx HG;go_wp2_with fail;refine HKA.out.mono ?_;rintro e w1 ⟨rfl,rfl⟩;go_wp2_with fail;refine HSK.out.mono ?_;rintro e wq ⟨ks,bp,Ap,cp,rfl,hp,hasc,hRk,hNq⟩;have hpg:ks.Perm ((rows.map keyG).map (·.1)):=by rw [← keysG];exact hp
   obtain ⟨E,hE1,hE2⟩:=rows_of rows ks (fun x hx=>hpg.mem_iff.1 hx);have hEl:(rows.map valG).length=E.length:=by
    have h:=congrArg List.length hE1;rw [List.length_map] at h;rw [h,hp.length_eq];simp
   have hEk:E.length≤1000:=by rw [← hEl,List.length_map];exact hrl
   have hidx:IsIdx (doneOf sets) (E.map keyG):=by
    have hm:(E.map keyG).map (·.1)=ks:=by rw [← hE1];simp
    refine ⟨by rw [hm];exact hasc,fun x=>by rw [hm,hpg.mem_iff];exact HGx.out.grp.mem x,fun p hp=>?_⟩;obtain ⟨r,hr,rfl⟩:=List.mem_map.1 hp;exact HGx.out.grp.nums _ (List.mem_map_of_mem (hE2 r hr))
   have hNr:=HGx.out.nw.trans hNq;have HIDX:=hid hidx;have HRE:Hid (∀ x∈E,Rd wq x.b x.A (cN .i64 x.ns)):=hid fun x hx=>((HGx.out.own x (hE2 x hx)).rd).nw hNq
   have HLK:Hid (∀ W,Nw wq W→∀ x∈E,(Instr.lookup 182 (.map (some B)) (labKey x.lab) false).run Tryz.prog W=.ok (.slice x.A x.ns.length x.c) W):=hid fun W hW x hx=>by
    have hB0:=lt_of_block HGx.out.map;exact HGx.out.look (hE2 x hx) ((hW.block B (by have:=hNq.size;omega)).trans (hNq.block B hB0))
   have HNr:=hid hNr;have HRK:=hid hRk;have HEK:=hid hE1;rw [hEl];clear HGx HSK HKA hp hpg hasc hRk hNq hE1 hE2 hidx hNr hEl hrl hd HS HI hk hlt;go_wp2_with fail;go_loopw [8,39] (fun v i wr=>∃ (k bk:Nat) (Ak:Option Addr) (ck:Nat),k≤E.length∧i=.int .i64 k∧v=.slice Ak k ck∧Hid (Ow wr bk 181 3 Ak k ck (cEnt (E.take k)))∧Hid (wq.heap.size≤bk)∧Hid (Nw wq wr)) (fun _ i _=>E.length - (intOf i).toNat)
   case atStart=>exact ⟨0,wq.heap.size,none,0,by omega,rfl,rfl,hid (Ow.nil _ _ _ _),hid (Nat.le_refl _),hid (Nw.refl _)⟩
   case round =>
    obtain ⟨k,bk,Ak,ck,hk,rfl,rfl,HO,HBk,HN⟩:=hrel;by_cases hlt:k < E.length
    ·have hltI:(k:Int) < (E.length:Int):=by omega
     have hkk:k < ks.length:=by rw [← HEK.out,List.length_map];exact hlt
     obtain ⟨o,rfl,_,hc0,hc1⟩:=two_at (HRK.out.nw HN.out) hkk;have hkx:ks[k]=E[k].lab:=by simp only [← HEK.out,List.getElem_map]
     rw [hkx] at hc0 hc1;have HT:=hid (cEnt_snoc hlt);have HLx:=hid fun W (hW:Nw wq W)=>HLK.out W hW E[k] (List.getElem_mem hlt)
     generalize E[k]=x at *;obtain ⟨⟨a,d⟩,ns,xb,xA,xc⟩:=x;dsimp only at hc0 hc1;have hNx:Nw wr (wr.alloc (.cells #[.string a,.string d] 124)):=(Nw.refl wr).alloc' _;have hbx:=heap_alloc_new wr (.cells #[.string a,.string d] 124);have hbl:=lt_of_block hbx;obtain ⟨wx,hwx⟩:∃ wx,wr.alloc (.cells #[.string a,.string d] 124)=wx:=⟨_,rfl⟩;rw [hwx] at hNx hbx hbl;have HOW:=hid fun W (hN:Nw wx W)=>((HO.out.nw hNx).nw hN).row
     have HOWB:Hid (∀ j,(Value.slice Ak k ck).ownBlock=some j→j=bk):=hid fun j e=>(HO.out.ownBlock j e).1
     have hbk:Ak≠none→bk < wr.heap.size:=fun h=>HO.out.lt_some h
     have HNQ:=hid (HN.out.trans hNx);have hc3:(Instr.lookup 182 (.map (some B)) (.agg #[.string a,.string d]) false).run Tryz.prog wx.drew=.ok (.slice xA ns.length xc) wx.drew:=HLx.out wx.drew (HNQ.out.trans (Nw.drewO wx));have hc0:=cell_at (k:=0) hbx;have hc1:=cell_at (k:=1) hbx;have HK5:Hid (∀ W5,(wx.drew.alloc (.cells #[.string a,.string d,.slice xA ns.length xc] 181)).grownBy W5 (Value.slice Ak k ck).ownBlock→Kp bk bk wx W5):=hid fun W5 hg=>by
      have h1:Kp bk bk wx (wx.drew.alloc (.cells #[.string a,.string d,.slice xA ns.length xc] 181)):=((Nw.drewO wx).alloc' _).kp _ _;exact h1.grown hg (fun j e=>.inl (HOWB.out j e))
     have hd0:wx.drew.cell? ⟨wr.heap.size,0,none⟩=some (.string a):=hc0;have hd1:wx.drew.cell? ⟨wr.heap.size,1,none⟩=some (.string d):=hc1;have hw8:wr.heap.size < wr.heap.size+1:=Nat.lt_succ_self _;clear hkx hNx HO;go_wp2_with fail;clear hwx;go_region_law (refine step_append_lies _ rfl (.tmp 43) (.tmp 49) 97 rfl 0 181 i0 (.agg #[.string .empty,.string .empty,.slice none 0 0]) 3 56 E_ent.und hi hz0 hz1 hz2 rfl (by omega) _ k (cEnt (E.take k)) rfl (HOW.out _ (Nw.alloc' (Nw.drewO _) _)) ⟨_,0,none⟩ 1 1 [.string a,.string d,.slice xA ns.length xc] rfl rfl (World.news_of_block (heap_alloc_new _ _)) (by intro u hu;simp at hu;rcases hu with rfl | rfl | rfl<;>rfl) (by omega) (by simp only [maxLen];omega) (by omega) (Nat.zero_le _) _ rfl ?_;intro g5 cap5 w5 q1 q2 q3 q4)
     all_goals
      have q2':(wx.drew.alloc (.cells #[.string a,.string d,.slice xA ns.length xc] 181)).grownBy w5 (Value.slice Ak k ck).ownBlock:=q2;have q3':(Value.slice Ak k ck).ownBlock=some g5∨g5=(wx.alloc (.cells #[.string a,.string d,.slice xA ns.length xc] 181)).heap.size:=q3;have hkA:=HK5.out w5 q2';have hgb:wq.heap.size≤g5:=by
       rcases q3' with h | h
       ·rw [HOWB.out g5 h];exact HBk.out
       ·have:=HNQ.out.size;rw [World.size_alloc] at h;omega
      have HO5:Hid (Ow w5 g5 181 3 (some ⟨g5,0,none⟩) (k+1) cap5 (cEnt (E.take (k+1)))):=hid (by
       rw [HT.out];exact .inr ⟨rfl,q4,q1⟩)
      have HN5:=hid (Kp.nw HNQ.out hkA HBk.out HBk.out);have HGB:=hid hgb;clear hkA q1 q2 q3 q4 q2' q3' hgb;go_wp2;go_roundw
      case rel=>exact ⟨k+1,g5,_,cap5,by omega,by go_num,rfl,HO5,HGB,HN5⟩
      case measure=>simp [intOf];omega
    ·obtain rfl:k=E.length:=by omega
     have hO:=HO.out;rw [List.take_length] at hO;go_wp2;go_ret;exact ⟨bk,Ak,ck,E,rfl,HIDX.out,hO.rd,fun x hx=>(HRE.out x hx).nw HN.out,HNr.out.trans HN.out⟩
end
section
open Go Go.RowKit Go.Lib Go.Sort Go.Shelf
def difs (l:List Nat):List Nat:=List.zipWith (fun a b=>b - a) (0::l) l
theorem difs_len (l:List Nat):(difs l).length=l.length:=by unfold difs;simp
theorem difs_get (l:List Nat) (j:Nat) (h:j < l.length):(difs l)[j]'(by rw [difs_len];exact h)=l[j] - (0::l)[j]'(by simp;omega):=by
 unfold difs;rw [List.getElem_zipWith]
theorem last_le {l:List Nat} (ha:l.Pairwise (· < ·)) {j:Nat} (h:j < l.length):(0::l)[j]'(by simp;omega)≤l[j]:=by
 cases j with
 | zero=>simp
 | succ j =>
  rw [List.getElem_cons_succ];exact Nat.le_of_lt (List.pairwise_iff_getElem.1 ha j (j+1) (by omega) h (by omega))
abbrev EntV:=Lab × List Nat
def entEnc (t:List ByteArray) (x:EntV):List Nat:=([x.1.1,x.1.2].flatMap fun s=>vint (idxS t s))++vint x.2.length++(difs x.2).flatMap vint
def posEnc (t:List ByteArray) (l:List EntV):List Nat:=vint l.length++l.flatMap (entEnc t)
def EntOk (t:List ByteArray) (x:EntV):Prop:=x.1.1∈t∧x.1.2∈t∧x.2.length≤1000∧x.2.Pairwise (· < ·)∧∀ n∈x.2,n≤1000000
theorem cEnt_get:∀ (l:List GR) (k i:Nat),k < l.length→i < 3→(cEnt l)[k*3+i]? = l[k]?.bind fun e=>(cEnt1 e)[i]?
 | [],k,_,h,_=>by simp at h
 | x::l,k,i,h,hi=>by
  rw [show cEnt (x::l)=cEnt1 x++cEnt l from rfl];cases k with
  | zero=>rw [List.getElem?_append_left (by simp [cEnt1];omega)];simp
  | succ k =>
   rw [List.getElem?_append_right (by simp [cEnt1];omega),show (k+1)*3+i - (cEnt1 x).length=k*3+i from by simp [cEnt1];omega];rw [cEnt_get l k i (by simpa using h) hi];simp
theorem ent_at {w:World} {b k:Nat} {A:Option Addr} {l:List GR} (h:Rd w b A (cEnt l)) (hk:k < l.length) :
  ∃ o,A=some ⟨b,o,none⟩∧b < w.heap.size∧w.cell? ⟨b,o+k*3,none⟩=some (.string l[k].lab.1)∧w.cell? ⟨b,o+k*3+1,none⟩=some (.string l[k].lab.2)∧w.cell? ⟨b,o+k*3+2,none⟩=some (.slice l[k].A l[k].ns.length l[k].c):=by
 rcases h with h | ⟨o,rfl,hb,hc⟩
 ·have:=cEnt_len l;rw [h] at this;simp at this;omega
 ·refine ⟨o,rfl,hb,hc (k*3) _ ?_,?_,?_⟩
  ·have:=cEnt_get l k 0 hk (by omega);rw [Nat.add_zero] at this;rw [this,List.getElem?_eq_getElem hk];rfl
  ·rw [Nat.add_assoc];refine hc (k*3+1) _ ?_;rw [cEnt_get l k 1 hk (by omega),List.getElem?_eq_getElem hk];rfl
  ·rw [Nat.add_assoc];refine hc (k*3+2) _ ?_;rw [cEnt_get l k 2 hk (by omega),List.getElem?_eq_getElem hk];rfl
def InEnt (w:World) (x:GR):Prop:=Rd w x.b x.A (cN .i64 x.ns)
set_option maxRecDepth 100000 in
set_option maxHeartbeats 2000000 in
theorem PosEncode_any (w:World) (b bt:Nat) (A At:Option Addr) (n c nt ct:Nat) (t:List ByteArray) (l:List GR) (hn:n=l.length) (hm:n≤1000) (hr:Rd w b A (cEnt l)) (hnt:nt=t.length) (hrt:Rd w bt At (cT t)) (ht:TblOk t) (hI:∀ s∈l,InEnt w s) (hok:∀ s∈l,EntOk t (keyG s)) :
  Calls Tryz.prog 58 #[.slice At nt ct,.slice A n c] w (NewBE w (posEnc t (l.map keyG))):=by
 subst hn hnt;have HR:=hid hr;have HRT:=hid hrt;have HT:=hid ht;have HI:=hid hI;have HOK:=hid hok;have htl:t.length≤1000:=ht.1;have hVl:=vint_len l.length (by omega);have HVA:=hid fun W=>VAppend_any W 0 none 0 0 [] l.length (Ow.nil _ _ _ _) (by omega) (by omega)
 have HE:=hid (show posEnc t (l.map keyG)=vint l.length++(l.map keyG).flatMap (entEnc t) from by unfold posEnc;rw [List.length_map]);obtain ⟨V,hV⟩:∃ V,vint l.length=V:=⟨_,rfl⟩;rw [hV] at hVl HE;simp only [hV] at HVA;have u0:IntKind.u64.wrap (l.length:Int)=(l.length:Int):=IntWalk.u64_in _ (by omega);clear hr hrt ht hI hok hV;go_enter Tryz.func58,Tryz.ntmps58
 go_wp2_with fail;refine (HVA.out w).mono ?_;rintro e w1 hA;obtain ⟨b1,A1,c1,rfl,hRI,_⟩:=RI.start.app hA;simp only [Nat.zero_add,List.nil_append] at hRI;have HRI:=hid hRI;have hv0:V.length≤10+10050*0:=by omega
 clear hRI hA HVA u0;go_wp2_with fail;go_loopw [6,22] (fun v i wr=>∃ (k M bk:Nat) (Ak:Option Addr) (ck:Nat),k≤l.length∧i=.int .i64 k∧v=.slice Ak M ck∧M≤10+10050*k∧Hid (RI w wr [] bk Ak M ck (V++((l.map keyG).take k).flatMap (entEnc t)))) (fun _ i _=>l.length - (intOf i).toNat)
 case atStart=>exact ⟨0,V.length,b1,A1,c1,by omega,rfl,rfl,hv0,by simpa using HRI⟩
 case round =>
  obtain ⟨k,M,bk,Ak,ck,hk,rfl,rfl,hM,HK⟩:=hrel;by_cases hlt:k < l.length
  ·have hltI:(k:Int) < (l.length:Int):=by omega
   obtain ⟨o,rfl,_,hc0,hc1,hc2⟩:=ent_at (HR.out.nw HK.out.nw) hlt;have HIx:=hid (HI.out l[k] (List.getElem_mem hlt));have HOx:=hid (HOK.out l[k] (List.getElem_mem hlt));have HTk:=hid (show ((l.map keyG).take (k+1)).flatMap (entEnc t)=((l.map keyG).take k).flatMap (entEnc t)++entEnc t (keyG l[k]) from by rw [flat_snoc _ (by simpa using hlt),List.getElem_map]);generalize l[k]=x at *;obtain ⟨⟨a,d⟩,ns,xb,xA,xc⟩:=x;dsimp only at hc0 hc1 hc2;have hcl:ns.length≤1000:=HOx.out.2.2.1;have u2:IntKind.u64.wrap (ns.length:Int)=(ns.length:Int):=IntWalk.u64_in _ (by omega);have l2:=vint_len ns.length (by omega);obtain ⟨w0,hw0⟩:∃ w0,w0=wr.alloc (.cells #[.string a,.string d,.slice xA ns.length xc] 181):=⟨_,rfl⟩;obtain ⟨bx,hbx⟩:∃ bx,bx=wr.heap.size:=⟨_,rfl⟩;have hNx:Nw wr w0:=by rw [hw0];exact (Nw.refl _).alloc' _
   have hbb:w0.heap[bx]? = some (.cells #[.string a,.string d,.slice xA ns.length xc] 181 (0,0)):=by rw [hw0,hbx];exact heap_alloc_new _ _
   obtain ⟨w2,hw2⟩:∃ w2,w2=w0.alloc (.cells #[.string a,.string d] 9):=⟨_,rfl⟩;obtain ⟨b3,hb3⟩:∃ b3,b3=wr.heap.size+1:=⟨_,rfl⟩;have hN2:Nw w0 w2:=by rw [hw2];exact (Nw.refl _).alloc' _
   have hs0:w0.heap.size=wr.heap.size+1:=by rw [hw0];simp
   have hlit:w2.heap[b3]? = some (.cells #[.string a,.string d] 9 (0,0)):=by rw [hw2,hb3,← hs0];exact heap_alloc_new _ _
   have hR0:=(HK.out.add hNx (k:=bx) (.inr (by omega)) (lt_of_block hbb)).add hN2 (k:=b3) (.inr (by omega)) (lt_of_block hlit);have hbb2:=(hN2.block bx (lt_of_block hbb)).trans hbb;have HXs:=hid (show V++((l.map keyG).take (k+1)).flatMap (entEnc t)=(V++((l.map keyG).take k).flatMap (entEnc t))++([a,d].flatMap (fun s=>vint (idxS t s)))++vint ns.length++(difs ns).flatMap vint from by rw [HTk.out];unfold entEnc;simp only [List.append_assoc]);obtain ⟨X1,hX1⟩:∃ X,V++((l.map keyG).take k).flatMap (entEnc t)=X:=⟨_,rfl⟩;rw [hX1] at hR0 HXs;have HR2:=hid hR0;have HBB:=hid hbb2;have hrl:Rd w2 b3 (some ⟨b3,0,none⟩) (cT [a,d]):=.inr ⟨0,rfl,lt_of_block hlit,fun j u hu=>by rw [Nat.zero_add,cell_at hlit];simpa [cT] using hu⟩;have HRS:=hid hrl;rw [hw0,hbx] at hbb;have e0:=cell_at (k:=0) hbb;have e1:=cell_at (k:=1) hbb;have e2:=cell_at (k:=2) hbb;obtain ⟨ss,hss⟩:∃ ss,[a,d]=ss:=⟨_,rfl⟩;have HSL:=hid (show ss.length=2 from by rw [← hss];rfl);have HSM:=hid (show ∀ s∈ss,s∈t from by
    rw [← hss];intro s hs;simp at hs;rcases hs with rfl | rfl
    ·exact HOx.out.1
    ·exact HOx.out.2.1)
   rw [hss] at HRS HXs;clear HK HTk hR0 hX1 hNx hN2 hbb2 hlit hrl hss hs0;go_wp2_with fail;rw [← hw0,← hw2,← hb3,← hbx];clear e0 e1 e2 hw0 hw2 hbx hb3 hc0 hc1 hc2 hbb;have hv2:M≤20+10050*k+10*0:=by omega
   go_loopw [6,34] (fun v i wr=>∃ (j M bk:Nat) (Ak:Option Addr) (ck:Nat),j≤2∧i=.int .i64 j∧v=.slice Ak M ck∧M≤20+10050*k+10*j∧Hid (RI w wr [b3,bx] bk Ak M ck (X1++(ss.take j).flatMap fun s=>vint (idxS t s)))∧Hid (wr.heap[b3]? = w2.heap[b3]?∧wr.heap[bx]? = w2.heap[bx]?∧w2.heap.size≤wr.heap.size)) (fun _ i _=>2 - (intOf i).toNat)
   case atStart=>exact ⟨0,M,bk,Ak,ck,by omega,rfl,rfl,hv2,by simpa using HR2,hid ⟨rfl,rfl,Nat.le_refl _⟩⟩
   case round =>
    clear hM hv2;obtain ⟨j,M,bk,Ak,ck,hj,rfl,rfl,hM,HK,HKP⟩:=hrel;by_cases hjt:j < 2
    ·have hltJ:(j:Int) < 2:=by omega
     have hjs:j < ss.length:=by have:=HSL.out;omega
     obtain ⟨o3,ho3,_,hc⟩:=(HRS.out.same HKP.out.1 HKP.out.2.2).get (k:=j) (by simpa using hjs);obtain rfl:o3=0:=by simpa using ho3.symm
     rw [List.getElem_map,Nat.zero_add] at hc;have hst:=HSM.out ss[j] (List.getElem_mem hjs);have HTj:=hid (show (ss.take (j+1)).flatMap (fun s=>vint (idxS t s))=(ss.take j).flatMap (fun s=>vint (idxS t s))++vint (idxS t ss[j]) from flat_snoc _ hjs);generalize ss[j]=s at *;have hix:=idxS_lt hst;have hvl:=vint_len (idxS t s) (by omega);have HIX:=hid (SIndex_any wr bt At t.length ct t s rfl (HRT.out.nw HK.out.nw) HT.out hst);have HVI:=hid fun W (hD:Dr wr W)=>VAppend_any W bk Ak M ck _ (idxS t s) (HK.out.ow.nw hD.nw) (by omega) (by omega)
     have HXI:=hid fun W (hD:Dr wr W)=>HK.out.tr hD.nw
     have HKI:=hid fun W (hD:Dr wr W)=>And.intro (hD.nw.block b3 (HK.out.kk b3 (by simp))) (And.intro (hD.nw.block bx (HK.out.kk bx (by simp))) hD.nw.size)
     generalize idxS t s=q at *;have u3:IntKind.u64.wrap (q:Int)=(q:Int):=IntWalk.u64_in _ (by omega);clear HK hst ho3;go_wp2_with fail;refine HIX.out.mono ?_;rintro e w3 ⟨rfl,hD⟩;have HD:=hid hD;clear hD;go_wp2_with fail;refine (HVI.out _ HD.out).mono ?_;rintro e w4 hA;obtain ⟨b4,A4,c4,rfl,hR4,hk4⟩:=(HXI.out _ HD.out).app hA;have HR4:=hid hR4;have hk3:=HKI.out _ HD.out;have HK4:=hid (show w4.heap[b3]? = w2.heap[b3]?∧w4.heap[bx]? = w2.heap[bx]?∧w2.heap.size≤w4.heap.size from ⟨(hk4 b3 (by simp)).trans (hk3.1.trans HKP.out.1),(hk4 bx (by simp)).trans (hk3.2.1.trans HKP.out.2.1),by
      obtain ⟨_,_,_,_,_,_,h,_⟩:=hA;have:=h.size;have:=hk3.2.2;have:=HKP.out.2.2;omega⟩)
     clear hA hR4 hk4 hk3;go_wp2_with fail;go_roundw
     case rel=>exact ⟨j+1,M+(vint q).length,b4,A4,c4,by omega,by go_num,rfl,by omega,hid (HR4.out.cast (by rw [HTj.out,List.append_assoc]) rfl),HK4⟩
     case measure=>simp [intOf];omega
    ·obtain rfl:j=2:=by omega
     have hR5:=HK.out;rw [← HSL.out,List.take_length] at hR5;have hbb:=HKP.out.2.1.trans HBB.out;have HB5:=hid hbb;have e2:=cell_at (k:=2) hbb;have HV5:=hid (VAppend_any wr bk Ak M ck _ ns.length hR5.ow (by omega) (by omega));have HR5:=hid hR5;clear hR5 hbb HK HKP HSM HBB HSL HRS HR2;go_wp2_with fail;refine HV5.out.mono ?_;rintro e w6 hA;obtain ⟨b6,A6,c6,rfl,hR6,hk6⟩:=HR5.out.app hA;have HR6:=hid hR6.drop;have hbb:=(hk6 bx (by simp)).trans HB5.out;have HCK:Hid (Rd w xb xA (cN .i64 ns)):=hid HIx.out;have HCL:=hid HOx.out.2.2.2;have e2:=cell_at (k:=2) hbb;dsimp only at HCL;have hv6:M+(vint ns.length).length≤50+10050*k+10*0:=by omega
     clear hR6 hA hk6 hbb HR5 HV5 HB5;go_wp2_with fail;generalize M+(vint ns.length).length=M6 at *;obtain ⟨X6,hX6⟩:∃ X,X1++ss.flatMap (fun s=>vint (idxS t s))++vint ns.length=X:=⟨_,rfl⟩;rw [hX6] at HR6 HXs;clear e2 hM hX6;go_loopw [6,13,60] (fun v p i wr=>∃ (j M bk:Nat) (Ak:Option Addr) (ck:Nat),∃ hj:j≤ns.length,i=.int .i64 j∧p=.int .i64 ((0::ns)[j]'(by simp;omega):Nat)∧v=.slice Ak M ck∧M≤50+10050*k+10*j∧Hid (RI w wr [] bk Ak M ck (X6++((difs ns).take j).flatMap vint))) (fun _ _ i _=>ns.length - (intOf i).toNat)
     case atStart=>exact ⟨0,M6,b6,A6,c6,by omega,rfl,rfl,rfl,hv6,by simpa using HR6⟩
     case round =>
      clear hv6;obtain ⟨j,M,bk,Ak,ck,hj,rfl,rfl,rfl,hM,HK⟩:=hrel;by_cases hjt:j < ns.length
      ·have hltJ:(j:Int) < (ns.length:Int):=by omega
       obtain ⟨o3,rfl,_,hc⟩:=(HCK.out.nw HK.out.nw).get (k:=j) (by simpa using hjt);rw [List.getElem_map] at hc;have hx:=HCL.out.2 ns[j] (List.getElem_mem hjt);have hll:=last_le HCL.out.1 hjt;have HTj:=hid (show ((difs ns).take (j+1)).flatMap vint=((difs ns).take j).flatMap vint++vint (ns[j] - (0::ns)[j]'(by simp;omega)) from by rw [flat_snoc vint (l:=difs ns) (k:=j) (by rw [difs_len];exact hjt),difs_get ns j hjt]);have HNx:=hid (show (0::ns)[j+1]'(by simp;omega)=ns[j] from List.getElem_cons_succ ..);generalize (0::ns)[j]'(by simp;omega)=p at *;generalize ns[j]=q at *;have hvl:=vint_len (q - p) (by omega);have HV7:=hid (VAppend_any wr bk Ak M ck _ (q - p) HK.out.ow (by omega) (by omega));have hsb:(q:Int) - (p:Int)=((q - p:Nat):Int):=by omega
       have i3:IntKind.i64.wrap ((q:Int) - (p:Int))=((q - p:Nat):Int):=by rw [hsb];exact IntWalk.i64_in _ (by omega)
       generalize q - p=df at *;have u3:IntKind.u64.wrap (df:Int)=(df:Int):=IntWalk.u64_in _ (by omega);clear hsb;go_wp2_with fail;refine HV7.out.mono ?_;rintro e w7 hA;obtain ⟨b7,A7,c7,rfl,hR7,_⟩:=HK.out.app hA;have HR7:=hid hR7;clear hR7 hA HV7;go_wp2_with fail;go_roundw
       case rel=>exact ⟨j+1,M+(vint df).length,b7,A7,c7,by omega,by go_num,by rw [HNx.out],rfl,by omega,hid (HR7.out.cast (by rw [HTj.out,List.append_assoc]) rfl)⟩
       case measure=>simp [intOf];omega
      ·obtain rfl:j=ns.length:=by omega
       have hR7:=HK.out;rw [← difs_len ns,List.take_length,← HXs.out] at hR7;have HR7:=hid hR7;clear hR7 HK;go_wp2_with fail;go_roundw
       case rel=>exact ⟨k+1,M,bk,Ak,ck,by omega,by go_num,rfl,by omega,HR7⟩
       case measure=>simp [intOf];omega
  ·obtain rfl:k=l.length:=by omega
   have hR:=HK.out;rw [List.take_of_length_le (by simp),← HE.out] at hR;have hl:=hR.len;have HR9:=hid hR;clear hR;go_wp2;go_ret2;subst hl;exact RI.newBE HR9.out
end
section
open Go Go.RowKit Go.Lib Go.Sort Go.Shelf
def insK (x:Lab) (i:Nat):List EntV→List EntV
 | []=>[(x,[i])]
 | p::E=>if cmpL p.1 x = -1 then p::insK x i E else if cmpL p.1 x=0 then (x,p.2++[i])::E else (x,[i])::p::E
theorem insK_mem {x:Lab} {i:Nat}:∀ {E:List EntV} {y:Lab},y∈(insK x i E).map (·.1)↔y=x∨y∈E.map (·.1)
 | [],y=>by simp [insK]
 | p::E,y=>by
  rw [insK];split
  ·rw [List.map_cons,List.mem_cons,insK_mem,List.map_cons,List.mem_cons];constructor
   ·rintro (h | h | h)
    ·exact .inr (.inl h)
    ·exact .inl h
    ·exact .inr (.inr h)
   ·rintro (h | h | h)
    ·exact .inr (.inl h)
    ·exact .inl h
    ·exact .inr (.inr h)
  ·split
   ·rename_i h
    have hp:=(cmp3_L.zero _ _).1 h;simp only [List.map_cons,List.mem_cons,hp];constructor
    ·rintro (h | h)
     ·exact .inl h
     ·exact .inr (.inr h)
    ·rintro (h | h | h)
     ·exact .inl h
     ·exact .inl h
     ·exact .inr h
   ·simp only [List.map_cons,List.mem_cons]
theorem insK_asc {x:Lab} {i:Nat}:∀ {E:List EntV},(E.map (·.1)).Pairwise (fun a b=>cmpL a b = -1)→((insK x i E).map (·.1)).Pairwise fun a b=>cmpL a b = -1
 | [],_=>by simp [insK]
 | p::E,h=>by
  rw [List.map_cons,List.pairwise_cons] at h;rw [insK];split
  ·rename_i hp
   rw [List.map_cons,List.pairwise_cons];refine ⟨fun y hy=>?_,insK_asc h.2⟩;rcases insK_mem.1 hy with rfl | hy
   ·exact hp
   ·exact h.1 y hy
  ·split
   ·rename_i h0
    have hp:=(cmp3_L.zero _ _).1 h0;rw [List.map_cons,List.pairwise_cons];exact ⟨fun y hy=>by rw [← hp];exact h.1 y hy,h.2⟩
   ·rename_i h1 h0
    have hxp:cmpL x p.1 = -1:=by
     have:=cmp3_L.swap p.1 x;rcases cmp3_L.inn p.1 x with e | e | e
     ·exact (h1 e).elim
     ·exact (h0 e).elim
     ·omega
    rw [List.map_cons,List.map_cons,List.pairwise_cons];refine ⟨fun y hy=>?_,List.pairwise_cons.2 h⟩;rcases List.mem_cons.1 hy with rfl | hy
    ·exact hxp
    ·exact cmp3_L.trans _ _ _ hxp (h.1 y hy)
theorem insK_nums {x:Lab} {i:Nat} {f:Lab→List Nat}:∀ {E:List EntV},(E.map (·.1)).Pairwise (fun a b=>cmpL a b = -1)→(∀ p∈E,p.2=f p.1)→(x ∉ E.map (·.1)→f x=[]) →
  ∀ p∈insK x i E,(p.1=x∧p.2=f x++[i])∨(p.1≠x∧p.2=f p.1)
 | [],_,_,hx,p,hp=>by
  simp only [insK,List.mem_singleton] at hp;subst hp;exact .inl ⟨rfl,by rw [hx (by simp)];rfl⟩
 | q::E,ha,hn,hx,p,hp=>by
  rw [List.map_cons,List.pairwise_cons] at ha;rw [insK] at hp;have hne:∀ r∈E,cmpL q.1 r.1 = -1:=fun r hr=>ha.1 _ (List.mem_map_of_mem hr)
  have ne_of:∀ {a b:Lab},cmpL a b = -1→a≠b:=fun {a b} h e=>by
   rw [e,(cmp3_L.zero _ _).2 rfl] at h;omega
  split at hp
  ·rename_i h1
   rcases List.mem_cons.1 hp with rfl | hp
   ·exact .inr ⟨ne_of h1,hn _ List.mem_cons_self⟩
   ·exact insK_nums ha.2 (fun r hr=>hn r (List.mem_cons_of_mem _ hr)) (fun h=>hx (by
     rw [List.map_cons,List.mem_cons];rintro (e | e)
     ·exact ne_of h1 e.symm
     ·exact h e)) p hp
  ·split at hp
   ·rename_i h0
    have hq:=(cmp3_L.zero _ _).1 h0;rcases List.mem_cons.1 hp with rfl | hp
    ·exact .inl ⟨rfl,by rw [hn q List.mem_cons_self,hq]⟩
    ·refine .inr ⟨fun e=>?_,hn p (List.mem_cons_of_mem _ hp)⟩;exact ne_of (hne p hp) (by rw [hq,e])
   ·rename_i h1 h0
    have hxq:cmpL x q.1 = -1:=by
     have:=cmp3_L.swap q.1 x;rcases cmp3_L.inn q.1 x with e | e | e
     ·exact (h1 e).elim
     ·exact (h0 e).elim
     ·omega
    have hall:∀ r∈q::E,cmpL x r.1 = -1:=fun r hr=>by
     rcases List.mem_cons.1 hr with rfl | hr
     ·exact hxq
     ·exact cmp3_L.trans _ _ _ hxq (hne r hr)
    rcases List.mem_cons.1 hp with rfl | hp
    ·refine .inl ⟨rfl,?_⟩;rw [hx (fun h=>?_)]
     ·rfl
     ·obtain ⟨r,hr,he⟩:=List.mem_map.1 h;exact ne_of (hall r hr) he.symm
    ·exact .inr ⟨fun e=>ne_of (hall p hp) e.symm,hn p hp⟩
theorem IsIdx.nil:IsIdx [] []:=⟨List.Pairwise.nil,by simp,by simp⟩
theorem IsIdx.ins {done:List (Lab × Nat)} {E:List EntV} (h:IsIdx done E) (x:Lab) (i:Nat):IsIdx (done++[(x,i)]) (insK x i E):=by
 refine ⟨insK_asc h.asc,fun y=>?_,fun p hp=>?_⟩
 ·rw [insK_mem,h.mem];simp only [List.mem_append,List.mem_singleton,Prod.mk.injEq];constructor
  ·rintro (rfl | ⟨k,hk⟩)
   ·exact ⟨i,.inr ⟨rfl,rfl⟩⟩
   ·exact ⟨k,.inl hk⟩
  ·rintro ⟨k,hk | ⟨rfl,_⟩⟩
   ·exact .inr ⟨k,hk⟩
   ·exact .inl rfl
 ·rcases insK_nums (i:=i) (f:=numsOf done) h.asc h.nums (fun hx=>numsOf_none (fun k hk=>hx ((h.mem x).2 ⟨k,hk⟩))) p hp with ⟨h1,h2⟩ | ⟨h1,h2⟩
  ·rw [h1,numsOf_snoc_same];exact h2
  ·rw [numsOf_snoc_other (fun e=>h1 e.symm)];exact h2
theorem asc_one:∀ {a b:List Lab},a.Pairwise (fun x y=>cmpL x y = -1)→b.Pairwise (fun x y=>cmpL x y = -1)→(∀ x,x∈a↔x∈b)→a=b
 | [],[],_,_,_=>rfl
 | [],y::b,_,_,h=>by have:=(h y).2 List.mem_cons_self;cases this
 | x::a,[],_,_,h=>by have:=(h x).1 List.mem_cons_self;cases this
 | x::a,y::b,ha,hb,h=>by
  rw [List.pairwise_cons] at ha hb;have irr:∀ z:Lab,¬ cmpL z z = -1:=fun z e=>by rw [(cmp3_L.zero _ _).2 rfl] at e;omega
  have hxy:x=y:=by
   rcases List.mem_cons.1 ((h x).1 List.mem_cons_self) with e | e
   ·exact e
   ·rcases List.mem_cons.1 ((h y).2 List.mem_cons_self) with e2 | e2
    ·exact e2.symm
    ·exact (irr _ (cmp3_L.trans _ _ _ (ha.1 _ e2) (hb.1 _ e))).elim
  subst hxy;rw [asc_one ha.2 hb.2 (fun z=>?_)];have hz:=h z;rw [List.mem_cons,List.mem_cons] at hz;constructor
  ·intro hza;rcases hz.1 (.inr hza) with rfl | h2
   ·exact (irr _ (ha.1 _ hza)).elim
   ·exact h2
  ·intro hzb;rcases hz.2 (.inr hzb) with rfl | h2
   ·exact (irr _ (hb.1 _ hzb)).elim
   ·exact h2
theorem IsIdx.one {done:List (Lab × Nat)} {E F:List EntV} (h:IsIdx done E) (k:IsIdx done F):E=F:=by
 have hk:E.map (·.1)=F.map (·.1):=asc_one h.asc k.asc (fun x=>by rw [h.mem,k.mem]);have hl:E.length=F.length:=by have:=congrArg List.length hk;simpa using this
 apply List.ext_getElem hl
 intro j h1 h2;have e:E[j].1=F[j].1:=by
  have:(E.map (·.1))[j]'(by simpa using h1)=(F.map (·.1))[j]'(by simpa using h2):=by simp only [hk]
  simpa using this
 exact Prod.ext e (by rw [h.nums _ (List.getElem_mem h1),k.nums _ (List.getElem_mem h2),e])
end
end Go.Proofs.YticphebaflnedaaGreatDoor
