/- Laws that the last text builds on. -/
import Derived.Test.YtobfpajapgakdaaGreatDoorT7
import Derived.Test.YtobfpajapgakdaaGreatDoorProg
namespace Go.Proofs.YtobfpajapgakdaaGreatDoor
open Go.Lib(hid)
section
open Go Go.RowKit Go.Sort Go.Shelf
attribute [local go_sem] Oper.semAt_some
def partsF:Nat→Nat→Nat→List (Nat × Nat)
 | 0,_,_=>[]
 | f+1,n,i=>if i < n then (i,min 120 (n - i))::partsF f n (i+120) else []
def parts (n i:Nat):List (Nat × Nat):=partsF (n - i) n i
theorem partsF_more:∀ (f g n i:Nat),n - i≤f→f≤g→partsF f n i=partsF g n i:=by
 intro f;induction f with
 | zero =>
  intro g n i h _;cases g with
  | zero=>rfl
  | succ g=>rw [partsF,partsF,if_neg (by omega)]
 | succ f ih =>
  intro g n i h hg;obtain ⟨m,rfl⟩:∃ m,g=m+1:=⟨g - 1,by omega⟩;rw [partsF,partsF];split
  ·rw [ih m n (i+120) (by omega) (by omega)]
  ·rfl
theorem parts_lt {n i:Nat} (h:i < n):parts n i=(i,min 120 (n - i))::parts n (i+120):=by
 unfold parts;rw [show n - i=(n - i - 1)+1 by omega,partsF,if_pos h,show (n - i - 1)+1=n - i by omega];rw [partsF_more (n - (i+120)) (n - i - 1) n (i+120) (by omega) (by omega)]
theorem parts_ge {n i:Nat} (h:n≤i):parts n i=[]:=by
 unfold parts;rw [show n - i=0 by omega];rfl
theorem parts_length (n:Nat):∀ (f i:Nat),n - i≤f→(parts n i).length=(n - i+119) / 120:=by
 intro f;induction f with
 | zero=>intro i h;rw [parts_ge (by omega)];simp;omega
 | succ f ih =>
  intro i h;by_cases hi:i < n
  ·rw [parts_lt hi,List.length_cons,ih (i+120) (by omega)];omega
  ·rw [parts_ge (by omega)];simp;omega
abbrev partV (bs:Nat) (x:Nat × Nat):Value:=.slice (some ⟨bs,x.1*2,none⟩) x.2 x.2
set_option maxRecDepth 100000 in
theorem chunk_stops (q:Nat) (hq:1≤q) (w:World) (B B2 bs:Nat) (A:Option Addr) (n c:Nat) (hm:n≤1000000) (hnc:n≤c) (hA:0 < n→A=some ⟨bs,0,none⟩) (hB:w.heap[B]? = some (.cells #[.slice A n c] 49 (0,0))) (hB2:w.heap[B2]? = some (.cells #[.int .i64 120] 3 (0,0))) :
  SeqStopsK Fence.wide q Tryz.prog 148 #[.pointer (some ⟨B,0,none⟩),.pointer (some ⟨B2,0,none⟩)] (fun x:Nat × Nat=>#[partV bs x]) (KpC B B2) (fun xs=>xs=parts n 0) (fun _=>True) (parts n 0).length w:=by
 intro lp J Jx W hW hJ hJx hY h0;have hBW:=(hW.block B (lt_of_block hB)).trans hB;have hBW2:=(hW.block B2 (lt_of_block hB2)).trans hB2;have HY:=hid hY;have HJ:=hid hJ;have HB0:=hid hBW;have HB2:=hid hBW2;have HA:=hid hA;clear hY hJ hB hB2 hBW hBW2 hA;refine callsIn_of_wp Tryz.func148 rfl trivial ?_ rfl;simp only [Tryz.ntmps148,List.size_toArray,List.length_cons,List.length_nil,Nat.reduceAdd,Nat.reduceSub,Array.replicate_succ,Array.replicate_zero,List.push_toArray,List.append_toArray,List.nil_append,List.cons_append]
 gi_wp2
 gi_loopw [4] (fun v wr=>∃ (pre:List (Nat × Nat)) (k:Nat),k≤n+120∧v=.int .i64 (k:Int)∧J pre wr∧KpC B B2 W wr∧parts n 0=pre++parts n k) (fun v _=>n+120 - (intOf v).toNat)
 case atStart=>exact ⟨[],0,by omega,rfl,h0,⟨rfl,rfl,Nat.le_refl _⟩,by simp⟩
 case round =>
  obtain ⟨pre,k,hk,rfl,hJp,hK,hrel⟩:=hrel;have hBr:wr.cell? ⟨B,0,none⟩=some (.slice A n c):=by
   have:=hK.1.trans HB0.out;simp [World.cell?,this]
  have hBr2:wr.cell? ⟨B2,0,none⟩=some (.int .i64 120):=by
   have:=hK.2.1.trans HB2.out;simp [World.cell?,this]
  have HREL:=hid hrel;have HK:=hid hK;clear hrel hK h0;by_cases hlt:k < n
  ·obtain rfl:=HA.out (by omega);have hltI:(k:Int) < (n:Int):=by omega
   have hk0:(0:Int)≤(k:Int):=by omega
   have hkn:(k:Int)≤(n:Int):=by omega
   have hncI:(n:Int)≤(c:Int):=by omega
   have hck:¬ c=k:=by omega
   have hkn':k≤n:=by omega
   gi_wp2
   refine wpIn_wide.2 ?_;refine wp_region_quiet_lit (by kernel_rfl) (by kernel_rfl) ?_
   with_reducible refine wpQuiet_step ?_;intro K hK;go_simp;refine hK _ ?_;clear hK K
   with_reducible refine wpQuiet_step ?_;intro K hK;go_simp;refine hK _ ?_;clear hK K
   with_reducible refine wpQuiet_step ?_;intro K hK;go_simp;refine hK _ ?_;clear hK K
   with_reducible refine wpQuiet_step ?_;intro K hK;go_simp;refine hK _ ?_;clear hK K
   with_reducible refine wpQuiet_step ?_;intro K hK;go_simp;refine hK _ ?_;clear hK K
   with_reducible refine wpQuiet_step ?_;intro K hK;go_simp;refine hK _ ?_;clear hK K
   with_reducible refine wpQuiet_step ?_;intro K hK;go_simp;refine hK _ ?_;clear hK K
   with_reducible refine wpQuiet_nil ?_
   rintro _ ⟨nq,rfl⟩;have he:((k:Int)+min 120 ((n - k:Nat):Int)).toNat - k=min 120 (n - k):=by omega
   have hJ2:J pre (wr.drewN nq):=HJ.out pre wr _ none hJp ⟨rfl,rfl,rfl,Nat.le_refl _,fun _ _ _=>rfl⟩ (fun r e=>by cases e);have hnext:parts n 0=(pre++[(k,min 120 (n - k))])++parts n (k+120):=by rw [HREL.out,parts_lt hlt];simp
   have hplen:pre.length < (parts n 0).length:=by rw [hnext];simp
   obtain ⟨fn,tmps,assign,body,hy,hR⟩:=HY.out pre (k,min 120 (n - k)) _ hJ2 hplen;dsimp only [partV] at hy;rw [← he] at hy;have HR:=hid hR;have HNX:=hid hnext;clear hR hJp hJ2 hnext hplen he
   gi_wp2
   refine HR.out.mono ?_;rintro e W3 (⟨rfl,hJ3,hk3⟩ | ⟨rfl,hJx3⟩)
   ·have hKW:=HK.out.trans hk3;have hBr3:W3.cell? ⟨B2,0,none⟩=some (.int .i64 120):=by
     have:=hKW.2.1.trans HB2.out;simp [World.cell?,this]
    have HKW:=hid hKW;clear hKW
    gi_wp2
    go_roundw
    case rel=>exact ⟨_,k+120,by omega,by simp,hJ3,HKW.out,HNX.out⟩
    case measure=>simp [intOf];omega
   ·gi_wp2
    refine bodyPost_ret (results_none rfl _ _ _) rfl ?_;exact ⟨⟨_,rfl⟩,.inr ⟨_,trivial,hJx3⟩⟩
  ·gi_wp2
   go_end0
   refine ⟨⟨_,rfl⟩,.inl ⟨pre,?_,hJp⟩⟩;rw [HREL.out,parts_ge (by omega),List.append_nil]
end
section
open Go Go.RowKit Go.Sort Go.Shelf
attribute [local go_sem] Oper.semAt_some
theorem E_rows:ElemT Tryz.prog 110 49 (.slice none 0 0) 1 24:=ElemT.mk' Tryz.underlying110 (by kernel_rfl) rfl (by omega)
def SplI (w:World) (bs:Nat) (pre:List (Nat × Nat)) (W:World):Prop :=
 ∃ bp Ap cp,W.heap[w.heap.size]? = some (.cells #[.slice Ap pre.length cp] 110 (0,0))∧Ow W bp 49 1 Ap pre.length cp (pre.map (partV bs))∧w.heap.size < bp∧Nw w W
theorem SplI.own {w:World} {bs D:Nat} (hD:w.heap.size < D):OwnFrom D (SplI w bs):=by
 intro pre W W' row h hg hr;obtain ⟨bp,Ap,cp,h1,h2,h3,h4⟩:=h;refine ⟨bp,Ap,cp,(hg.block _ (lt_of_block h1) (fun e=>by have:=(hr _ e.symm).1;omega)).trans h1,h2.own hg (fun r e=>(hr r e).2),h3,h4.grown' hg (fun k e=>by have:=(hr _ e).1;omega)⟩
theorem spl_box {W w2:World} {g bp:Nat} {v:Value} {t e:TypeId} {u:Value} {o:Obj} (hb:W.heap[g]? = some (.cells #[u] t (0,0))) (hbp:g < bp) (hown:∀ r,v.ownBlock=some r→r=bp∧∃ cs fr,W.heap[bp]? = some (.cells cs e fr)) (hg:(W.alloc o).grownBy w2 v.ownBlock) :
  w2.cell? ⟨g,0,none⟩=some u∧w2.frozen? ⟨g,0,none⟩=false:=by
 have h:=(hg.block g (by simp;have:=lt_of_block hb;omega) (fun e=>by have:=(hown _ e.symm).1;omega)).trans ((heap_alloc_old W o (lt_of_block hb)).trans hb);exact ⟨by simp [World.cell?,h],by simp [World.frozen?,h]⟩
set_option maxRecDepth 100000 in
theorem AppendSeq_any (w:World) (B B2 bs:Nat) (A:Option Addr) (n c:Nat) (hm:n≤1000000) (hnc:n≤c) (hA:0 < n→A=some ⟨bs,0,none⟩) (hB:w.heap[B]? = some (.cells #[.slice A n c] 49 (0,0))) (hB2:w.heap[B2]? = some (.cells #[.int .i64 120] 3 (0,0))) :
  Calls Tryz.prog 147 #[.slice none 0 0,.func (.func 148) #[] #[.pointer (some ⟨B,0,none⟩),.pointer (some ⟨B2,0,none⟩)]] w fun e w' =>
   ∃ bp Ap cp,e=.returned (.slice Ap (parts n 0).length cp)∧Ow w' bp 49 1 Ap (parts n 0).length cp ((parts n 0).map (partV bs))∧w.heap.size≤bp∧Nw w w':=by
 have hBl:=lt_of_block hB;have hBl2:=lt_of_block hB2;have hw1:Nw w (w.alloc (.cells #[.slice none 0 0] 110)):=(Nw.refl w).alloc' _;have hsz:(w.alloc (.cells #[.slice none 0 0] 110)).heap.size=w.heap.size+1:=by simp
 obtain ⟨i0,hi,hz0,hz1,hz2⟩:=E_rows.info;refine (callsIn_wide (n:=4)).1 ?_;refine callsIn_of_wp_marks Tryz.func147 rfl trivial ?_ rfl;simp only [Tryz.ntmps147,List.size_toArray,List.length_cons,List.length_nil,Nat.reduceAdd,Nat.reduceSub,Array.replicate_succ,Array.replicate_zero,List.push_toArray,List.append_toArray,List.nil_append,List.cons_append]
 gi_wp2
 refine wpIn_rangeFunc_ownG (F:=Fence.wide) (n:=4) rfl (by omega) (gf:=148) (lb:=#[.pointer (some ⟨B,0,none⟩),.pointer (some ⟨B2,0,none⟩)]) rfl trivial (enters_of Tryz.func148 (by kernel_rfl) rfl)
  (chunk_stops 3 (by omega) _ B B2 bs A n c hm hnc hA ((hw1.block _ hBl).trans hB) ((hw1.block _ hBl2).trans hB2))
  KpC.trans (fun W lq o o' h1 _ _ _=>KpC.putObj _ _ W lq o' (by have:=hsz;omega) (by have:=hsz;omega)) (Below.refl _ _) (fun _=>rfl)
  (SplI w bs) (fun _ _ _=>False) (SplI.own (by have:=hsz;omega)) (fun _ _ _ _ _ hs _ _=>hs) ?start ?a1 ?assign ?body ?done ?stop
 case assign =>
  intro l x W K hK
  gi_wp2
  exact hK
 case stop =>
  intro D c pre W _ _ h _;exact h.elim
 case start =>
  exact ⟨w.heap.size+1,none,0,heap_alloc_new w _,Ow.nil _ _ _ _,by omega,hw1⟩
 case body =>
  intro lq pre x W hI hlt;obtain ⟨bp,Ap,cp,hb,hO,hbp,hN⟩:=hI;have hpl:=parts_length n n 0 (by omega);have hc:W.cell? ⟨w.heap.size,0,none⟩=some (.slice Ap pre.length cp):=by simp [World.cell?,hb]
  have hrow:=(hO.nw ((Nw.refl W).alloc' (.cells #[partV bs x] 49))).row;have hlW:=lt_of_block hb;have hown:∀ r,(Value.slice Ap pre.length cp).ownBlock=some r→r=bp∧∃ cs fr,W.heap[bp]? = some (.cells cs 49 fr):=by
   intro r hr;cases Ap with
   | none=>simp [Value.ownBlock] at hr
   | some p =>
    have hbk:=hO.blk;rcases hO with ⟨h,_⟩ | ⟨h,_⟩
    ·cases h
    ·injection h with h
     subst h;simp [Value.ownBlock] at hr;exact ⟨hr.symm,hbk⟩
  have HOWN:=hid hown;have HO:=hid hO;have HB:=hid hb;have hpl2:pre.length≤1000000:=by omega
  clear hown hO hpl hlt
  gi_wp2_with (gi_at_builtin;refine wpListIn_lies _ rfl (.tmp 8) (.tmp 10) 110 rfl 0 49 i0 (.slice none 0 0) 1 24 E_rows.und hi hz0 hz1 hz2 rfl (by omega) _ _ _ rfl hrow ⟨W.heap.size,0,none⟩ 1 1 [partV bs x] rfl rfl (cell_one_new W _ _) (by intro v hv;simp at hv;subst hv;rfl) (by omega) (by simp only [maxLen];omega) (by omega) (Nat.zero_le _) ?_;intro g cap w2 r1 r2 r3 r4;have hc2:=spl_box (v:=.slice Ap pre.length cp) hb hbp HOWN.out r2)
  have hN1:Nw W (W.alloc (.cells #[partV bs x] 49)):=(Nw.refl W).alloc' _;have hk1:Kp bp bp W w2:=(hN1.kp bp bp).grown r2 (fun k e=>.inl (HOWN.out k e).1);have hgb:w.heap.size < g:=by
   rcases r3 with e | e
   ·rw [(HOWN.out g e).1];exact hbp
   ·rw [e];simp;omega
  have hst:Kp w.heap.size w.heap.size w2 (w2.setCell ⟨w.heap.size,0,none⟩ (.slice (some ⟨g,0,none⟩) (pre.length+1) cap)):=(Kp.refl _ _ _).setCell' (p:=⟨w.heap.size,0,none⟩) (.inl rfl) _;have hs1:=hk1.size;have hs2:=hst.size;have hsW:=hN.size;have hbp':w.heap.size≤bp:=by omega
  have hNf:Nw w (w2.setCell ⟨w.heap.size,0,none⟩ (.slice (some ⟨g,0,none⟩) (pre.length+1) cap)):=Kp.nw (Kp.nw hN hk1 hbp' hbp') hst (Nat.le_refl _) (Nat.le_refl _);have hbx2:=((hk1.block w.heap.size hlW (by omega) (by omega)).trans hb);refine ⟨⟨by omega,fun k o hk1' ho hoc=>?_⟩,⟨?_,?_,by omega⟩,g,some ⟨g,0,none⟩,cap,?_,?_,hgb,hNf⟩
  ·have hkl:=lt_of_block ho;have hkb:k≠bp∨(∀ r,(Value.slice Ap pre.length cp).ownBlock=some r→False):=by
    by_cases e:k=bp
    ·right
     intro r hr;obtain ⟨cs,fr,hcs⟩:=(HOWN.out r hr).2;rw [e,hcs] at ho;cases ho;cases hoc
    ·exact .inl e
   rcases hkb with hkb | hkb
   ·exact (hst.block k (by omega) (by omega) (by omega)).trans ((hk1.block k hkl hkb hkb).trans ho)
   ·have hNN:Nw W w2:=hN1.grown' r2 (fun r e=>(hkb r e).elim);exact (hst.block k (by omega) (by omega) (by omega)).trans ((hNN.block k hkl).trans ho)
  ·exact (hst.block B (by omega) (by omega) (by omega)).trans (hk1.block B (by omega) (by omega) (by omega))
  ·exact (hst.block B2 (by omega) (by omega) (by omega)).trans (hk1.block B2 (by omega) (by omega) (by omega))
  ·rw [List.length_append,List.length_singleton];simp [World.setCell,Array.getElem?_modify,hbx2]
  ·have h:Ow w2 g 49 1 (some ⟨g,0,none⟩) (pre.length+1) cap (pre.map (partV bs)++[partV bs x]):=.inr ⟨rfl,r4,r1⟩;rw [List.length_append,List.length_singleton,List.map_append,List.map_singleton];exact h.kp hst (by omega) (by omega)
 case done =>
  intro D ys W hD hS hI hK;obtain ⟨bp,Ap,cp,hb,hO,hbp,hN⟩:=hI;have hc:W.cell? ⟨w.heap.size,0,none⟩=some (.slice Ap ys.length cp):=by simp [World.cell?,hb]
  rw [hS] at hc hO;clear hS
  gi_wp2
  refine ⟨by simp,.inl ⟨_,_,rfl,run_takeDeferred hK,?_⟩⟩;refine ⟨_,results_tmp rfl _ _ _,bp,Ap,cp,rfl,hO.own (grownBy_putObj' W D _) (fun k e=>by cases e;exact ⟨_,hK,rfl⟩),by omega,hN.grown' (grownBy_putObj' W D _) (fun k e=>by cases e;have:=hsz;omega)⟩
theorem CollectP_any (w:World) (B B2 bs:Nat) (A:Option Addr) (n c:Nat) (hm:n≤1000000) (hnc:n≤c) (hA:0 < n→A=some ⟨bs,0,none⟩) (hB:w.heap[B]? = some (.cells #[.slice A n c] 49 (0,0))) (hB2:w.heap[B2]? = some (.cells #[.int .i64 120] 3 (0,0))) :
  Calls Tryz.prog 107 #[.func (.func 148) #[] #[.pointer (some ⟨B,0,none⟩),.pointer (some ⟨B2,0,none⟩)]] w fun e w' =>
   ∃ bp Ap cp,e=.returned (.slice Ap (parts n 0).length cp)∧Ow w' bp 49 1 Ap (parts n 0).length cp ((parts n 0).map (partV bs))∧w.heap.size≤bp∧Nw w w':=by
 have HA:=hid (AppendSeq_any w B B2 bs A n c hm hnc hA hB hB2);clear hA hB hB2;go_enter Tryz.func107,Tryz.ntmps107
 go_wp2_with fail;refine HA.out.mono ?_;rintro e w1 ⟨bp,Ap,cp,rfl,h1,h2,h3⟩;go_wp2;go_ret;exact ⟨bp,Ap,cp,rfl,h1,h2,h3⟩
theorem Chunk_any (w:World) (A:Option Addr) (n c:Nat):Calls Tryz.prog 108 #[.slice A n c,.int .i64 120] w fun e w' =>
  e=.returned (.func (.func 148) #[] #[.pointer (some ⟨w.heap.size,0,none⟩),.pointer (some ⟨w.heap.size+1,0,none⟩)])∧w'=(w.alloc (.cells #[.slice A n c] 49)).alloc (.cells #[.int .i64 120] 3):=by
 go_enter Tryz.func108,Tryz.ntmps108
 go_wp2;go_ret;exact ⟨rfl,rfl⟩
theorem Split_any (w:World) (b:Nat) (A:Option Addr) (n c:Nat) (zs:List (Int × Nat)) (hn:n=zs.length) (hm:n≤1000000) (hr:Rd w b A (cS zs)) (hA:A=none→c=0) :
  Calls Tryz.prog 68 #[.slice A n c] w fun e w'=>∃ bs bp A2 c2 Ap cp,e=.returned (.slice Ap (parts n 0).length cp)∧Ow w' bp 49 1 Ap (parts n 0).length cp ((parts n 0).map (partV bs))∧w.heap.size≤bp ∧
   Ow w' bs 135 2 A2 n c2 (cS zs)∧w.heap.size≤bs∧Nw w w':=by
 have HC:=hid (CloneS_any w b A n c zs hn (by omega) hr hA);clear hr hn hA;go_enter Tryz.func68,Tryz.ntmps68
 go_wp2_with fail;refine HC.out.mono ?_;rintro e w1 ⟨bs,A1,c1,rfl,hO1,hb1,hN1,hc1⟩;have HO1:=hid hO1;clear hO1;go_wp2_with fail;refine (Chunk_any w1 A1 n c1).mono ?_;rintro e w2 ⟨rfl,rfl⟩;have hN2:Nw w1 ((w1.alloc (.cells #[.slice A1 n c1] 49)).alloc (.cells #[.int .i64 120] 3)):=((Nw.refl w1).alloc' _).alloc' _;have HCo:=hid (CollectP_any ((w1.alloc (.cells #[.slice A1 n c1] 49)).alloc (.cells #[.int .i64 120] 3)) w1.heap.size (w1.heap.size+1) bs A1 n c1 hm hc1 (fun h=>(HO1.out.at_ (j:=0) (by omega)).1) (heap_alloc2_old w1 _ _) (heap_alloc2_new w1 _ _));have hs2:=hN2.size;have hs1:=hN1.size;generalize (w1.alloc (.cells #[.slice A1 n c1] 49)).alloc (.cells #[.int .i64 120] 3)=w2 at *;go_wp2_with fail;refine HCo.out.mono ?_;rintro e w3 ⟨bp,Ap,cp,rfl,h1,h2,h3⟩;go_wp2;go_ret;exact ⟨bs,bp,A1,c1,Ap,cp,rfl,h1,by omega,(HO1.out.nw hN2).nw h3,hb1,(hN1.trans hN2).trans h3⟩
end
section
open Go Go.RowKit Go.Lib Go.Sort Go.Shelf
attribute [local go_sem] Oper.semAt_some
def LabI (w:World) (pre:List Lab) (W:World):Prop :=
 ∃ bp Ap cp,W.heap[w.heap.size]? = some (.cells #[.slice Ap pre.length cp] 48 (0,0))∧Ow W bp 124 2 Ap pre.length cp (cL pre)∧w.heap.size < bp∧Nw w W
theorem LabI.own {w:World} {D:Nat} (hD:w.heap.size < D):OwnFrom D (LabI w):=by
 intro pre W W' row h hg hr;obtain ⟨bp,Ap,cp,h1,h2,h3,h4⟩:=h;refine ⟨bp,Ap,cp,(hg.block _ (lt_of_block h1) (fun e=>by have:=(hr _ e.symm).1;omega)).trans h1,h2.own hg (fun r e=>(hr r e).2),h3,h4.grown' hg (fun k e=>by have:=(hr _ e).1;omega)⟩
def LabX (T:Nat→Array Value) (x:Lab) (a:Act) (W:World):Prop:=∃ b5,a = { tmps:=T b5,defers:=[] }∧W.heap[b5]? = some (.cells #[.string x.1,.string x.2] 124 (0,0))
theorem LabX.own (T:Lab→Nat→Array Value) (D:Nat) (x:Lab) (a:Act):OwnFrom D (fun (_:Unit) W=>LabX (T x) x a W):=by
 intro _ W W' row h hg hr;obtain ⟨b5,e,h1⟩:=h;refine ⟨b5,e,(hg.block _ (lt_of_block h1) (fun e=>?_)).trans h1⟩;obtain ⟨_,o,h2,h3⟩:=hr _ e.symm;rw [h1] at h2;cases h2;cases h3
abbrev labT (w0 B:Nat) (x:Lab) (b5:Nat):Array Value:=#[.slice none 0 0,.func (.func 126) #[] #[.pointer (some ⟨B,0,none⟩)],.pointer (some ⟨w0,0,none⟩),undef,.slice none 0 0,.pointer (some ⟨b5,0,none⟩),
 .func (.func 126) #[] #[.pointer (some ⟨B,0,none⟩)],labKey x,undef,undef,undef,undef,undef]
theorem old_walk {W:World} {k:Nat} {o p:Obj} (h:W.heap[k]? = some o):(W.alloc p).heap[k]? = some o:=(heap_alloc_old _ _ (lt_of_block h)).trans h
theorem two_new (W:World) (a d:Value) (t:TypeId):∀ j u,[a,d][j]? = some u→(W.alloc (.cells #[a,d] t)).cell? ((⟨W.heap.size,0,none⟩:Addr).add j)=some u:=by
 intro j u h;rw [add_lit'];rw [Nat.zero_add,cell_at (heap_alloc_new W (.cells #[a,d] t))];simpa using h
set_option maxRecDepth 100000 in
theorem AppendSeqK_any (w:World) (B b:Nat) (l:List (Lab × Value)) (hm:l.length≤1000000) (hB:w.heap[B]? = some (.cells #[.map (some b)] 127 (0,0))) (hb:w.heap[b]? = some (.map (entsE l) l.length)) :
  Calls Tryz.prog 170 #[.slice none 0 0,.func (.func 126) #[] #[.pointer (some ⟨B,0,none⟩)]] w fun e w' =>
   ∃ (ks:List Lab) (bp:Nat) (Ap:Option Addr) (cp:Nat),e=.returned (.slice Ap l.length cp)∧ks.Perm (l.map (·.1))∧Ow w' bp 124 2 Ap l.length cp (cL ks)∧w.heap.size≤bp∧Nw w w':=by
 have hBl:=lt_of_block hB;have hbl:=lt_of_block hb;have hw1:Nw w (w.alloc (.cells #[.slice none 0 0] 48)):=(Nw.refl w).alloc' _;have hsz:(w.alloc (.cells #[.slice none 0 0] 48)).heap.size=w.heap.size+1:=by simp
 obtain ⟨i0,hi,hz0,hz1,hz2⟩:=E_lab.info;refine (callsIn_wide (n:=4)).1 ?_;refine callsIn_of_wp_marks Tryz.func170 rfl trivial ?_ rfl;simp only [Tryz.ntmps170,List.size_toArray,List.length_cons,List.length_nil,Nat.reduceAdd,Nat.reduceSub,Array.replicate_succ,Array.replicate_zero,List.push_toArray,List.append_toArray,List.nil_append,List.cons_append]
 gi_wp2
 refine wpIn_rangeFunc_ownH (F:=Fence.wide) (n:=4) rfl (by omega) (gf:=126) (lb:=#[.pointer (some ⟨B,0,none⟩)]) rfl trivial (enters_of Tryz.func126 (by kernel_rfl) rfl)
  (keys_stops 3 (by omega) _ B b l ((hw1.block _ hBl).trans hB) ((hw1.block _ hbl).trans hb))
  KpM.trans (fun W lq o o' h1 h2 _ h4=>⟨World.putObj_heap_other (by have:=hsz;omega),fun k o2 hk ho=>(World.putObj_heap_other (fun e=>by subst e;rw [h2] at hk;cases hk;rw [h4] at ho;cases ho)).trans hk,by simp⟩) (Below.refl _ _) (fun _=>rfl)
  (LabI w) (fun _ _ _=>False) (LabI.own (by have:=hsz;omega)) (fun _ _ _ _ _ hs _ _=>hs) ?start (fun x=>LabX (labT w.heap.size B x) x) (fun x a'=>LabX.own (labT w.heap.size B) _ x a') ?assign ?body ?done ?stop
 case assign =>
  intro l pre x W K hI hK;obtain ⟨a,d⟩:=x;have hG:W.grownBy (W.alloc (.cells #[.string a,.string d] 124)) none:=World.grownBy_alloc W _ none;have hBW:B < W.heap.size:=by obtain ⟨_,_,_,_,_,_,h⟩:=hI;have:=h.size;omega
  have hK2:=hK { tmps:=labT w.heap.size B (a,d) W.heap.size,defers:=[] } (W.alloc (.cells #[.string a,.string d] 124)) ⟨by simp,fun k o _ h _=>old_walk h⟩
   ⟨heap_alloc_old _ _ hBW,fun k o h _=>old_walk h,by simp⟩ ((LabI.own (Nat.lt_succ_self _)) pre W _ none hI hG (fun r e=>by cases e)) ⟨W.heap.size,rfl,heap_alloc_new _ _⟩
  gi_wp2
  exact hK2
 case stop =>
  intro D c pre W _ _ h _;exact h.elim
 case start =>
  exact ⟨w.heap.size+1,none,0,heap_alloc_new w _,Ow.nil _ _ _ _,by omega,hw1⟩
 case body =>
  rintro lq pre ⟨a,d⟩ a' W hlq hlr hI ⟨b5,rfl,hb5⟩ hlt;obtain ⟨bp,Ap,cp,hb,hO,hbp,hN⟩:=hI;have hc:W.cell? ⟨w.heap.size,0,none⟩=some (.slice Ap pre.length cp):=by simp [World.cell?,hb]
  have e0:=cell_at (k:=0) hb5;have e1:=cell_at (k:=1) hb5;have hlW:=lt_of_block hb;have hrow:=(hO.nw ((Nw.refl W).alloc' (.cells #[.string a,.string d] 124))).row;have hown:∀ r,(Value.slice Ap pre.length cp).ownBlock=some r→r=bp∧∃ cs fr,W.heap[bp]? = some (.cells cs 124 fr):=by
   intro r hr;cases Ap with
   | none=>simp [Value.ownBlock] at hr
   | some p =>
    have hbk:=hO.blk;rcases hO with ⟨h,_⟩ | ⟨h,_⟩
    ·cases h
    ·injection h with h
     subst h;simp [Value.ownBlock] at hr;exact ⟨hr.symm,hbk⟩
  have HOWN:=hid hown;have HO:=hid hO;have HB:=hid hb;have hpl2:pre.length≤1000000:=by omega
  have hBW:B < W.heap.size:=by have:=hN.size;omega
  clear hown hO hlt
  gi_wp2_with (gi_at_builtin;refine wpListIn_lies _ rfl (.tmp 8) (.tmp 10) 48 rfl 0 124 i0 (.agg #[.string .empty,.string .empty]) 2 32 E_lab.und hi hz0 hz1 hz2 rfl (by omega) _ _ _ rfl hrow ⟨W.heap.size,0,none⟩ 1 1 [.string a,.string d] rfl rfl (two_new W _ _ _) (by intro v hv;simp at hv;rcases hv with rfl | rfl<;>rfl) (by omega) (by simp only [maxLen];omega) (by omega) (Nat.zero_le _) ?_;intro g cap w2 r1 r2 r3 r4;have hc2:=spl_box (v:=.slice Ap pre.length cp) hb hbp HOWN.out r2)
  have hN1:Nw W (W.alloc (.cells #[.string a,.string d] 124)):=(Nw.refl W).alloc' _;have hk1:Kp bp bp W w2:=(hN1.kp bp bp).grown r2 (fun k e=>.inl (HOWN.out k e).1);have hgb:w.heap.size < g:=by
   rcases r3 with e | e
   ·rw [(HOWN.out g e).1];exact hbp
   ·rw [e];simp;omega
  have hst:Kp w.heap.size w.heap.size w2 (w2.setCell ⟨w.heap.size,0,none⟩ (.slice (some ⟨g,0,none⟩) (pre.length+1) cap)):=(Kp.refl _ _ _).setCell' (p:=⟨w.heap.size,0,none⟩) (.inl rfl) _;have hs1:=hk1.size;have hs2:=hst.size;have hsW:=hN.size;have hbp':w.heap.size≤bp:=by omega
  have hNf:Nw w (w2.setCell ⟨w.heap.size,0,none⟩ (.slice (some ⟨g,0,none⟩) (pre.length+1) cap)):=Kp.nw (Kp.nw hN hk1 hbp' hbp') hst (Nat.le_refl _) (Nat.le_refl _);have hbx2:=((hk1.block w.heap.size hlW (by omega) (by omega)).trans hb);have hnc:∀ (k:Nat) (o:Obj),W.heap[k]? = some o→o.isCells=false→(w2.setCell ⟨w.heap.size,0,none⟩ (.slice (some ⟨g,0,none⟩) (pre.length+1) cap)).heap[k]? = some o:=by
   intro k o ho hoc;have hkl:=lt_of_block ho;have hkw:k≠w.heap.size:=fun e=>by
    rw [e,hb] at ho;cases ho;cases hoc
   have hkb:k≠bp∨(∀ r,(Value.slice Ap pre.length cp).ownBlock=some r→False):=by
    by_cases e:k=bp
    ·right
     intro r hr;obtain ⟨cs,fr,hcs⟩:=(HOWN.out r hr).2;rw [e,hcs] at ho;cases ho;cases hoc
    ·exact .inl e
   rcases hkb with hkb | hkb
   ·exact (hst.block k (by omega) (by omega) (by omega)).trans ((hk1.block k hkl hkb hkb).trans ho)
   ·have hNN:Nw W w2:=hN1.grown' r2 (fun r e=>(hkb r e).elim);exact (hst.block k (by omega) (by omega) (by omega)).trans ((hNN.block k hkl).trans ho)
  refine ⟨⟨by omega,fun k o _ ho hoc=>hnc k o ho hoc⟩,⟨?_,fun k o ho hw=>hnc k o ho (by cases o<;>simp_all [Obj.isWalk,Obj.isCells]),by omega⟩,g,some ⟨g,0,none⟩,cap,?_,?_,hgb,hNf⟩
  ·exact (hst.block B (by omega) (by omega) (by omega)).trans (hk1.block B (by omega) (by omega) (by omega))
  ·rw [List.length_append,List.length_singleton];simp [World.setCell,Array.getElem?_modify,hbx2]
  ·have h:Ow w2 g 124 2 (some ⟨g,0,none⟩) (pre.length+1) cap (cL pre++[.string a,.string d]):=.inr ⟨rfl,r4,r1⟩;rw [List.length_append,List.length_singleton,show cL (pre++[(a,d)])=cL pre++[.string a,.string d] from by unfold cL c2;rw [List.flatMap_append];rfl];exact h.kp hst (by omega) (by omega)
 case done =>
  intro D ys W hD hS hI hK;obtain ⟨bp,Ap,cp,hb,hO,hbp,hN⟩:=hI;have hyl:ys.length=l.length:=by rw [hS.length_eq,List.length_map]
  rw [hyl] at hb hO;have hc:W.cell? ⟨w.heap.size,0,none⟩=some (.slice Ap l.length cp):=by simp [World.cell?,hb]
  have HS:=hid hS;clear hS
  gi_wp2
  refine ⟨by simp,.inl ⟨_,_,rfl,run_takeDeferred hK,?_⟩⟩;refine ⟨_,results_tmp rfl _ _ _,ys,bp,Ap,cp,rfl,HS.out,hO.own (grownBy_putObj' W D _) (fun k e=>by cases e;exact ⟨_,hK,rfl⟩),by omega,hN.grown' (grownBy_putObj' W D _) (fun k e=>by cases e;have:=hsz;omega)⟩
theorem CollectK_any (w:World) (B b:Nat) (l:List (Lab × Value)) (hm:l.length≤1000000) (hB:w.heap[B]? = some (.cells #[.map (some b)] 127 (0,0))) (hb:w.heap[b]? = some (.map (entsE l) l.length)) :
  Calls Tryz.prog 124 #[.func (.func 126) #[] #[.pointer (some ⟨B,0,none⟩)]] w fun e w' =>
   ∃ (ks:List Lab) (bp:Nat) (Ap:Option Addr) (cp:Nat),e=.returned (.slice Ap l.length cp)∧ks.Perm (l.map (·.1))∧Ow w' bp 124 2 Ap l.length cp (cL ks)∧w.heap.size≤bp∧Nw w w':=by
 have HA:=hid (AppendSeqK_any w B b l hm hB hb);clear hB hb;go_enter Tryz.func124,Tryz.ntmps124
 go_wp2_with fail;refine HA.out.mono ?_;rintro e w1 ⟨ks,bp,Ap,cp,rfl,h1,h2,h3,h4⟩;go_wp2;go_ret;exact ⟨ks,bp,Ap,cp,rfl,h1,h2,h3,h4⟩
end
section
open Go Go.RowKit Go.Sort
structure Cl (w:World) (lo:Nat) (s:Ser):Prop where
 lab:Ow w s.bl 124 2 s.al s.labs.length s.cl (cL s.labs)
 smp:Ow w s.bs 135 2 s.as_ s.smps.length s.cs (cS s.smps)
 lol:lo≤s.bl∧s.bl < w.heap.size
 los:lo≤s.bs∧s.bs < w.heap.size
 wf:InS s.smps
 small:∀ x∈s.labs,x.1.size≤9223372036854775807∧x.2.size≤9223372036854775807
 as_:s.as_=some ⟨s.bs,0,none⟩
def Ap (g:Nat) (l:List Ser):Prop:=l.Pairwise (fun s t=>s.bs≠t.bs∧s.bs≠t.bl∧s.bl≠t.bs∧s.bl≠t.bl)∧∀ s∈l,s.bs≠g∧s.bl≠g∧s.bs≠s.bl
section
variable {w w':World} {lo g g' b n c:Nat} {A:Option Addr} {s:Ser} {e:TypeId} {size:Nat} {xs:List Value}
theorem Ow.nil_cap (h:Ow w b e size A n c xs):A=none→c=0:=by
 rintro rfl;rcases h with ⟨_,_,h,_⟩ | ⟨h,_⟩
 ·exact h
 ·cases h
theorem Cl.kp (h:Cl w lo s) (hk:Kp g g' w w') (h1:s.bl≠g) (h2:s.bl≠g') (h3:s.bs≠g) (h4:s.bs≠g'):Cl w' lo s :=
 ⟨h.lab.kp hk h1 h2,h.smp.kp hk h3 h4,⟨h.lol.1,Nat.lt_of_lt_of_le h.lol.2 hk.size⟩,⟨h.los.1,Nat.lt_of_lt_of_le h.los.2 hk.size⟩,h.wf,h.small,h.as_⟩
theorem Cl.ok (h:Cl w lo s):SerOk w s :=
 ⟨⟨h.lab.rd,rfl,h.lab.nil_cap,h.lab.cap.1,h.lab.cap.2,h.small⟩,⟨h.smp.rd,rfl,h.wf,h.smp.nil_cap,h.smp.cap.1,h.smp.cap.2⟩⟩
end
theorem Ow.ser {w:World} {g n c:Nat} {l:List Ser} (h:Ow w g 51 2 (some ⟨g,0,none⟩) n c (cR l)) {k:Nat} (hk:k < l.length) :
  (w.cell? ⟨g,k*2,none⟩=some (.slice l[k].al l[k].labs.length l[k].cl)∧w.frozen? ⟨g,k*2,none⟩=false)∧w.cell? ⟨g,k*2+1,none⟩=some (.slice l[k].as_ l[k].smps.length l[k].cs)∧w.frozen? ⟨g,k*2+1,none⟩=false:=by
 have hl:=h.len;rw [show (cR l).length=2*l.length from c2_length l] at hl;obtain ⟨_,_,h1,h2⟩:=h.at_ (j:=k*2) (by omega);obtain ⟨_,_,h3,h4⟩:=h.at_ (j:=k*2+1) (by omega);obtain ⟨e1,e2⟩:=c2_at (f:=fun s:Ser=>Value.slice s.al s.labs.length s.cl) (g:=fun s=>.slice s.as_ s.smps.length s.cs) l k hk;exact ⟨⟨h1.trans e1,h2⟩,h3.trans e2,h4⟩
set_option maxRecDepth 100000 in
set_option maxHeartbeats 3200000 in
theorem Clone_any (w:World) (b:Nat) (A:Option Addr) (n c:Nat) (l:List Ser) (hI:InSer w b A n c l) (hs:∀ s∈l,Small s) (hn:n≤1000000) :
  Calls Tryz.prog 94 #[.slice A n c] w fun e w'=>∃ l',e=.returned (.slice (some ⟨w.heap.size,0,none⟩) n n)∧l'.map valS=l.map valS∧Ow w' w.heap.size 51 2 (some ⟨w.heap.size,0,none⟩) n n (cR l')∧(∀ s∈l',Cl w' w.heap.size s)∧Ap w.heap.size l'∧Nw w w':=by
 have hl:=hI.len;subst hl;have HR:=hid hI.rd;have HOK:=hid fun s (h:s∈l)=>And.intro (hI.ok s h) (hs s h)
 have mkR:=fun W=>make_any E_ser W l.length hn (by omega)
 have hz:Value.cells (.agg #[.slice none 0 0,.slice none 0 0])=#[.slice none 0 0,.slice none 0 0]:=rfl;rw [hz] at mkR;have hOw:=made_ow 51 (.agg #[.slice none 0 0,.slice none 0 0]) 2 w l.length hn;rw [hz] at hOw;generalize madeCells #[Value.slice none 0 0,.slice none 0 0] (l.length*2)=md at *;have HOw:=hid hOw;clear hI hs hOw hz;go_enter Tryz.func94,Tryz.ntmps94
 go_wp2_with (refine wpList_copyK E_ser rfl (.tmp 9) (.tmp 10) rfl rfl rfl HOw.out (HR.out.nw ((Nw.refl w).alloc' _)) (by rw [show (cR l).length=2*l.length from c2_length _];omega) (c2_one (fun _=>rfl) (fun _=>rfl) l) ?_;intro w2 hO2 hK2 hsz2)
 have HO2:=hid hO2;have HN2:=hid (Kp.nw ((Nw.refl w).alloc' (.cells md 51)) hK2 (Nat.le_refl _) (Nat.le_refl _));have hsz:w.heap.size < w2.heap.size:=by rw [hsz2];simp
 clear hO2 hK2 hsz2 HOw;obtain ⟨g,hg⟩:∃ g,w.heap.size=g:=⟨_,rfl⟩;rw [hg] at HO2 hsz;simp only [hg];have HG:=hid hg;clear hg;go_loopw [14] (fun i wr=>∃ (k:Nat) (m:List Ser),k≤l.length∧i=.int .i64 k∧m.length=k∧Hid (m.map valS=(l.take k).map valS)∧Hid (Ow wr g 51 2 (some ⟨g,0,none⟩) l.length l.length (cR (m++l.drop k)))∧Hid (∀ s∈m,Cl wr g s)∧Hid (Ap g m)∧Hid (Nw w wr)∧Hid (g < wr.heap.size)) (fun i _=>l.length - (intOf i).toNat)
 case atStart=>exact ⟨0,[],by omega,rfl,rfl,hid rfl,hid (by simpa using HO2.out),hid (by simp),hid ⟨.nil,by simp⟩,HN2,hid hsz⟩
 case round =>
  obtain ⟨k,m,hk,rfl,hm,HV,HO,HC,HA,HN,HGL⟩:=hrel;by_cases hlt:k < l.length
  ·have hltI:(k:Int) < (l.length:Int):=by omega
   have hOs:=fun W (hN:Nw wr W)=>Ow.ser (HO.out.nw hN) (k:=k) (by rw [List.length_append,List.length_drop];omega)
   have hx:(m++l.drop k)[k]'(by rw [List.length_append,List.length_drop];omega)=l[k]:=by
    rw [List.getElem_append_right (by omega)];simp [hm]
   rw [hx] at hOs;have HTk:=hid (show (l.take (k+1)).map valS=(l.take k).map valS++[valS l[k]] from by rw [List.take_succ_eq_append_getElem hlt,List.map_append];rfl);have HOx:=hid (HOK.out l[k] (List.getElem_mem hlt));have hsplit:m++l.drop k=m++l[k]::l.drop (k+1):=by rw [drop_cons hlt]
   have HSP:=hid hsplit;generalize l[k]=x at *;obtain ⟨⟨h0,_⟩,h1,_⟩:=hOs wr (Nw.refl _);have HOs:=hid hOs;obtain ⟨bx,hbx⟩:∃ o,o=Obj.cells #[.slice x.al x.labs.length x.cl,.slice x.as_ x.smps.length x.cs] 51:=⟨_,rfl⟩;have mkL:=fun W=>make_any E_lab W x.labs.length HOx.out.2.1 (by omega)
   have mkS:=fun W=>make_any E_smp W x.smps.length HOx.out.2.2 (by omega)
   rw [show Value.cells (.agg #[.string .empty,.string .empty])=#[.string .empty,.string .empty] from rfl] at mkL;rw [show Value.cells (.agg #[.int .i64 0,.int .u64 0])=#[.int .i64 0,.int .u64 0] from rfl] at mkS;have HmL:=hid (made_ow 124 (.agg #[.string .empty,.string .empty]) 2 (wr.alloc bx) x.labs.length HOx.out.2.1);have HmS:=hid fun W=>made_ow 135 (.agg #[.int .i64 0,.int .u64 0]) 2 W x.smps.length HOx.out.2.2
   rw [show Value.cells (.agg #[.string .empty,.string .empty])=#[.string .empty,.string .empty] from rfl] at HmL;rw [show Value.cells (.agg #[.int .i64 0,.int .u64 0])=#[.int .i64 0,.int .u64 0] from rfl] at HmS;generalize madeCells #[Value.string .empty,.string .empty] (x.labs.length*2)=mL at *;generalize madeCells #[Value.int .i64 0,.int .u64 0] (x.smps.length*2)=mS at *;have hNB:Nw wr ((wr.alloc bx).alloc (.cells mL 124)):=((Nw.refl wr).alloc' _).alloc' _;obtain ⟨⟨s0,s1⟩,_,_⟩:=hOs _ hNB;rw [hbx] at s0 s1;clear hOs hsplit hx;go_wp2_with fail;rw [← hbx];have hCc:Kp g g wr (((wr.alloc bx).alloc (.cells mL 124)).setCell ⟨g,k*2,none⟩ (.slice (some ⟨wr.heap.size+1,0,none⟩) x.labs.length x.labs.length)):=((hNB.kp g g).setCell' (.inl rfl) _);have hOc:=(HO.out.nw hNB).set_ (k*2) (.slice (some ⟨wr.heap.size+1,0,none⟩) x.labs.length x.labs.length);have hgn:=HGL.out;have hne:¬ g=wr.heap.size+1:=by omega
   have hns:(wr.alloc bx).heap.size=wr.heap.size+1:=by simp
   have hLc:=HmL.out.kp ((Kp.refl g g ((wr.alloc bx).alloc (.cells mL 124))).setCell' (.inl rfl) (p:=⟨g,k*2,none⟩) (.slice (some ⟨wr.heap.size+1,0,none⟩) x.labs.length x.labs.length)) (by rw [hns];omega) (by rw [hns];omega);rw [hns] at hLc;have hbb:(((wr.alloc bx).alloc (.cells mL 124)).setCell ⟨g,k*2,none⟩ (.slice (some ⟨wr.heap.size+1,0,none⟩) x.labs.length x.labs.length)).heap[wr.heap.size]? = some bx :=
    (Below.heap_setCell _ ⟨g,k*2,none⟩ _ wr.heap.size (by show wr.heap.size≠g;omega)).trans ((((Nw.refl (wr.alloc bx)).alloc' _).block _ (by simp)).trans (heap_alloc_new _ _))
   have hsC:(((wr.alloc bx).alloc (.cells mL 124)).setCell ⟨g,k*2,none⟩ (.slice (some ⟨wr.heap.size+1,0,none⟩) x.labs.length x.labs.length)).heap.size=wr.heap.size+2:=by simp [World.setCell]
   generalize ((wr.alloc bx).alloc (.cells mL 124)).setCell ⟨g,k*2,none⟩ (.slice (some ⟨wr.heap.size+1,0,none⟩) x.labs.length x.labs.length)=wC at *;have hlen:=hOc.len;obtain ⟨nb,hnb⟩:∃ nb,wr.heap.size=nb:=⟨_,rfl⟩;rw [hnb] at hOc hLc hbb hsC hgn hne ⊢;have hpc:wC.cell? ⟨g,k*2,none⟩=some (.slice (some ⟨nb+1,0,none⟩) x.labs.length x.labs.length):=by
    rw [List.length_set,show (cR _).length=2*_ from c2_length _,List.length_append,List.length_drop] at hlen;obtain ⟨_,_,h,_⟩:=hOc.at_ (j:=k*2) (by omega);rw [h,List.getElem?_set_self (by rw [show (cR _).length=2*_ from c2_length _,List.length_append,List.length_drop];omega)]
   rw [hbx] at hbb;have hb0:=(cell_at (k:=0) hbb).trans rfl;have hb1:=(cell_at (k:=1) hbb).trans rfl;have q0:∀ p':Gp,(grow (wC.drewN p'.n) p'.os).cell? ⟨g,k*2,none⟩=some (.slice (some ⟨nb+1,0,none⟩) x.labs.length x.labs.length):=cell_gr (by show g < _;omega) hpc;have q1:∀ p':Gp,(grow (wC.drewN p'.n) p'.os).cell? ⟨nb,0,none⟩=some (.slice x.al x.labs.length x.cl):=cell_gr (by show nb < _;omega) hb0;have HOc:=hid hOc;have HLc:=hid hLc;have HCc:=hid hCc;have HBB:=hid hbb;have HNB:=hid hnb;clear hOc hLc hCc hbb hnb h0 h1 s0 s1 HmL mkL hNB hpc hb0 hb1 hns hlen;refine wp_region_gr_tail 7 (by kernel_rfl) (by kernel_rfl) ?_;simp only [List.take_succ_cons,List.take_zero,List.drop_succ_cons,List.drop_zero]
   repeat (go_big_quiet_step (first | fail))
   refine wpQuiet_nil ?_;rintro _ ⟨p',rfl⟩;have hND:=(Gr.nw ⟨p',rfl⟩:Nw wC (grow (wC.drewN p'.n) p'.os));generalize grow (wC.drewN p'.n) p'.os=wD at *;clear q0 q1;have hCd:=HCc.out.trans (hND.kp g g) (.inl rfl) (.inl rfl);have HNwD:=hid (Kp.nw HN.out hCd (Nat.le_of_eq HG.out) (Nat.le_of_eq HG.out));refine wpList_copyK E_lab rfl (.tmp 31) (.tmp 33) rfl rfl rfl (HLc.out.nw hND) (HOx.out.1.1.rd.nw HNwD.out) (by rw [show (cL x.labs).length=2*x.labs.length from c2_length _];omega) (oc_L _) ?_;intro wE hLe hKe hsE;have hnb:=HNB.out;have hsD:=hND.size;have hCe:=hCd.trans hKe (.inr (.inr (by omega))) (.inr (.inr (by omega)));have hOe:=(HOc.out.nw hND).kp hKe hne hne;have hBe:=(hKe.block nb (by omega) (by omega) (by omega)).trans ((hND.block nb (by omega)).trans HBB.out);have hNF:Nw wE (wE.alloc (.cells mS 135)):=(Nw.refl wE).alloc' _;have hlen:=hOe.len;rw [List.length_set,show (cR _).length=2*_ from c2_length _,List.length_append,List.length_drop] at hlen;obtain ⟨_,_,f00,f1⟩:=(hOe.nw hNF).at_ (j:=k*2+1) (by omega);rw [List.getElem?_eq_getElem (by rw [List.length_set,show (cR _).length=2*_ from c2_length _,List.length_append,List.length_drop];omega)] at f00;obtain ⟨uf,f0⟩:∃ u,(wE.alloc (.cells mS 135)).cell? ⟨g,k*2+1,none⟩=some u:=⟨_,f00⟩;clear f00;have hb1:=(cell_at (k:=1) hBe).trans rfl;have HLe:=hid hLe;have HCe:=hid hCe;have HOe:=hid hOe;have HBe:=hid hBe;have HsE:=hid (show nb+2≤wE.heap.size from by omega);have HmS2:=hid (HmS.out wE);clear hLe hKe hCe hOe hBe hsE hsD hND hCd HLc HOc HCc HBB HmS hlen hsC;go_wp2_with fail;have hCh:=(HCe.out.trans (hNF.kp g g) (.inl rfl) (.inl rfl)).setCell' (p:=⟨g,k*2+1,none⟩) (.inl rfl) (.slice (some ⟨wE.heap.size,0,none⟩) x.smps.length x.smps.length);have hOh:=(HOe.out.nw hNF).set_ (k*2+1) (.slice (some ⟨wE.heap.size,0,none⟩) x.smps.length x.smps.length);have hKF:Kp g g wE ((wE.alloc (.cells mS 135)).setCell ⟨g,k*2+1,none⟩ (.slice (some ⟨wE.heap.size,0,none⟩) x.smps.length x.smps.length)):=(hNF.kp g g).setCell' (.inl rfl) _;have hgE:g < wE.heap.size:=by have:=HsE.out;omega
   have hSh:=HmS2.out.kp ((Kp.refl g g (wE.alloc (.cells mS 135))).setCell' (.inl rfl) (p:=⟨g,k*2+1,none⟩) (.slice (some ⟨wE.heap.size,0,none⟩) x.smps.length x.smps.length)) (by omega) (by omega);have hLh:=HLe.out.kp hKF (by omega) (by omega);have hBh:=(hKF.block nb (by have:=HsE.out;omega) (by omega) (by omega)).trans HBe.out;have hsH:((wE.alloc (.cells mS 135)).setCell ⟨g,k*2+1,none⟩ (.slice (some ⟨wE.heap.size,0,none⟩) x.smps.length x.smps.length)).heap.size=wE.heap.size+1:=by simp [World.setCell]
   generalize (wE.alloc (.cells mS 135)).setCell ⟨g,k*2+1,none⟩ (.slice (some ⟨wE.heap.size,0,none⟩) x.smps.length x.smps.length)=wH at *;have hnE:nb+1 < wE.heap.size:=by have:=HsE.out;omega
   obtain ⟨nc,hnc⟩:∃ nc,wE.heap.size=nc:=⟨_,rfl⟩;rw [hnc] at hOh hSh hsH hgE hnE ⊢;have hlen:=hOh.len;rw [List.length_set,List.length_set,show (cR _).length=2*_ from c2_length _,List.length_append,List.length_drop] at hlen;have hpc:wH.cell? ⟨g,k*2+1,none⟩=some (.slice (some ⟨nc,0,none⟩) x.smps.length x.smps.length):=by
    obtain ⟨_,_,h,_⟩:=hOh.at_ (j:=k*2+1) (by omega);rw [h,List.getElem?_set_self (by rw [List.length_set,show (cR _).length=2*_ from c2_length _,List.length_append,List.length_drop];omega)]
   have hb2:=(cell_at (k:=1) hBh).trans rfl;have q0:∀ p':Gp,(grow (wH.drewN p'.n) p'.os).cell? ⟨g,k*2+1,none⟩=some (.slice (some ⟨nc,0,none⟩) x.smps.length x.smps.length):=cell_gr (by show g < _;omega) hpc;have q1:∀ p':Gp,(grow (wH.drewN p'.n) p'.os).cell? ⟨nb,1,none⟩=some (.slice x.as_ x.smps.length x.cs):=cell_gr (by show nb < _;omega) hb2;have HOh:=hid hOh;have HSh:=hid hSh;have HCh:=hid hCh;have HLh:=hid hLh;have HNC:=hid hnc;clear hOh hSh hCh hLh hBh f0 f1 hb1 hb2 hpc hKF hNF hlen hnc HmS2 mkS HLe HOe HBe HsE HCe;refine wp_region_gr_tail 7 (by kernel_rfl) (by kernel_rfl) ?_;simp only [List.take_succ_cons,List.take_zero,List.drop_succ_cons,List.drop_zero]
   repeat (go_big_quiet_step (first | fail))
   refine wpQuiet_nil ?_;rintro _ ⟨p2,rfl⟩;have hNI:=(Gr.nw ⟨p2,rfl⟩:Nw wH (grow (wH.drewN p2.n) p2.os));generalize grow (wH.drewN p2.n) p2.os=wI at *;clear q0 q1;have hCi:=HCh.out.trans (hNI.kp g g) (.inl rfl) (.inl rfl);have hNwI:=Kp.nw HN.out hCi (Nat.le_of_eq HG.out) (Nat.le_of_eq HG.out);refine wpList_copyK E_smp rfl (.tmp 47) (.tmp 49) rfl rfl rfl (HSh.out.nw hNI) (HOx.out.1.2.rd.nw hNwI) (by rw [show (cS x.smps).length=2*x.smps.length from c2_length _];omega) (oc_S _) ?_;intro wJ hSj hKj hsJ;have hsI:=hNI.size;have hwr:=HNB.out;have hCj:=hCi.trans hKj (.inr (.inr (by omega))) (.inr (.inr (by omega)));have hOj:=(HOh.out.nw hNI).kp hKj (by omega) (by omega);have hLj:=(HLh.out.nw hNI).kp hKj (by omega) (by omega);have HSj:=hid hSj;have HCj:=hid hCj;have HOj:=hid hOj;have HLj:=hid hLj;have HsJ:=hid (show nc < wJ.heap.size∧wr.heap.size≤nb from by omega);clear hSj hKj hCj hOj hLj hsJ hsI hCi hNwI hNI HSh HCh HOh HLh;go_wp2_with fail;go_roundw
   case rel =>
    have hgn:=HGL.out;refine ⟨k+1,m++[⟨x.labs,x.smps,nb+1,some ⟨nb+1,0,none⟩,x.labs.length,nc,some ⟨nc,0,none⟩,x.smps.length⟩],by omega,by go_num,by simp [hm],hid ?_,hid ?_,hid ?_,hid ?_,hid (Kp.nw HN.out HCj.out (Nat.le_of_eq HG.out) (Nat.le_of_eq HG.out)),hid (by have:=HsJ.out;omega)⟩
    ·rw [HTk.out,List.map_append,HV.out];rfl
    ·have h:=HOj.out;have e:=c2_set (f:=fun s:Ser=>Value.slice s.al s.labs.length s.cl) (h:=fun s=>.slice s.as_ s.smps.length s.cs) (m++l.drop k) k ⟨x.labs,x.smps,nb+1,some ⟨nb+1,0,none⟩,x.labs.length,nc,some ⟨nc,0,none⟩,x.smps.length⟩;unfold cR at h ⊢;rw [e,HSP.out,List.set_append_right _ _ (by omega),hm,Nat.sub_self,List.set_cons_zero] at h;rw [List.append_assoc];exact h
    ·intro s hs;rcases List.mem_append.1 hs with hs | hs
     ·have h2:=HA.out.2 s hs;exact (HC.out s hs).kp HCj.out h2.2.1 h2.2.1 h2.1 h2.1
     ·obtain rfl:=List.mem_singleton.1 hs;have h3:=HsJ.out;have h4:=HNB.out;exact ⟨HLj.out,HSj.out,by dsimp only;omega,by dsimp only;omega,HOx.out.1.2.wf,HOx.out.1.1.small,rfl⟩
    ·have h4:=HNB.out;refine ⟨List.pairwise_append.2 ⟨HA.out.1,List.pairwise_singleton _ _,?_⟩,?_⟩
     ·intro s hs t ht;obtain rfl:=List.mem_singleton.1 ht;have h5:=HC.out s hs;have h6:=h5.lol;have h7:=h5.los;dsimp only;omega
     ·intro s hs;rcases List.mem_append.1 hs with hs | hs
      ·exact HA.out.2 s hs
      ·obtain rfl:=List.mem_singleton.1 hs;dsimp only;omega
   case measure=>simp [intOf];omega
  ·obtain rfl:k=l.length:=by omega
   go_wp2;go_ret;rw [HG.out];refine ⟨m,rfl,?_,?_,HC.out,HA.out,HN.out⟩
   ·rw [HV.out,List.take_length]
   ·have h:=HO.out;rw [List.drop_length,List.append_nil] at h;exact h
end
section
open Go Go.RowKit Go.Sort Go.Shelf
theorem Ow.of_heapC {w:World} {g:Nat} {e:TypeId} {size n c:Nat} {cs:Array Value} (h:w.heap[g]? = some (.cells cs e (0,0))) (hs:cs.size=c*size) (hnc:n≤c) (hn:c≤9223372036854775807):Ow w g e size (some ⟨g,0,none⟩) n c (cs.toList.take (n*size)):=by
 have hle:n*size≤c*size:=Nat.mul_le_mul_right _ hnc;exact .inr ⟨rfl,lt_of_block h,by simp;omega,.inr ⟨g,c,cs,rfl,Nat.zero_le _,h,hnc,by simpa [maxLen] using hn,hs,rfl⟩⟩
section
variable {α:Type} [Inhabited α] {f h:α→Value}
theorem holds_ow {w:World} {g:Nat} {e:TypeId} {a:Addr} {c:Nat} {d:Array α} (hO:Ow w g e 2 (some a) d.size c (c2 f h d.toList)):HoldsK (fun x=>[f x,h x]) 2 w g 0 d:=by
 intro j hj;rw [size_flatK] at hj;rw [get_flatK _ _ _ _ hj];obtain ⟨_,_,h1,h2⟩:=hO.at_ (j:=j) hj;obtain ⟨e1,e2⟩:=c2_at (f:=f) (g:=h) d.toList (j / 2) (by rw [Array.length_toList];omega);have ed:d[j / 2]! = d.toList[j / 2]'(by rw [Array.length_toList];omega):=by rw [getElem!_pos d (j / 2) (by omega)];simp
 rw [Nat.zero_add];refine ⟨?_,h2⟩;rw [h1,ed];have:j % 2=0∨j % 2=1:=by omega
 rcases this with h3 | h3
 ·rw [h3];rw [show j / 2*2=j by omega] at e1;rw [e1];rfl
 ·rw [h3];rw [show j / 2*2+1=j by omega] at e2;rw [e2];rfl
theorem sort_ow {w:World} {g:Nat} {e:TypeId} {a:Addr} {n c m:Nat} {d':Array α} {xs:List Value} (hO:Ow w g e 2 (some a) n c xs) (hd:d'.size=n) (os:Array Obj) :
  Ow (sortWorldK (fun x=>[f x,h x]) 2 w g 0 m d' os) g e 2 (some ⟨g,0,none⟩) n c (c2 f h d'.toList)∧Kp g g w (sortWorldK (fun x=>[f x,h x]) 2 w g 0 m d' os):=by
 obtain ⟨cs,hh,hs,_,_⟩:=hO.heap;have hcap:=hO.cap;have hg:=lt_of_block hh;have hheap:(sortWorldK (fun x=>[f x,h x]) 2 w g 0 m d' os).heap[g]? = some (.cells (putCells id 0 (flatK (fun x=>[f x,h x]) 2 d') cs) e (0,0)):=by
  unfold sortWorldK putRowK;rw [heap_grow_old _ _ (by simpa [putRow,mapBlock,Sort.ahead] using hg)];simp [putRow,mapBlock,Sort.ahead,Array.getElem?_modify,hh,onCells]
 constructor
 ·have:=Ow.of_heapC (size:=2) (n:=n) hheap (by simpa [putCells] using hs) hcap.1 hcap.2;have ht:(putCells id 0 (flatK (fun x=>[f x,h x]) 2 d') cs).toList.take (n*2)=c2 f h d'.toList:=by
   apply List.ext_getElem?
   intro j;by_cases hj:j < n*2
   ·rw [List.getElem?_take_of_lt hj,Array.getElem?_toList];obtain ⟨e1,e2⟩:=c2_at (f:=f) (g:=h) d'.toList (j / 2) (by rw [Array.length_toList];omega);have ed:d'[j / 2]! = d'.toList[j / 2]'(by rw [Array.length_toList];omega):=by rw [getElem!_pos d' (j / 2) (by omega)];simp
    have hcs:j < cs.size:=by rw [hs];omega
    have hc:(putCells id 0 (flatK (fun x=>[f x,h x]) 2 d') cs)[j]? = some ((flatK (fun x=>[f x,h x]) 2 d')[j]!):=by
     simp only [putCells,Array.getElem?_mapIdx,Array.getElem?_eq_getElem hcs,Option.map_some];rw [if_pos ⟨Nat.zero_le _,by rw [size_flatK];omega⟩];simp
    rw [hc,get_flatK _ _ _ _ (by omega),ed];have:j % 2=0∨j % 2=1:=by omega
    rcases this with h3 | h3
    ·rw [h3];rw [show j / 2*2=j by omega] at e1;rw [e1];rfl
    ·rw [h3];rw [show j / 2*2+1=j by omega] at e2;rw [e2];rfl
   ·rw [List.getElem?_take_eq_none (by omega),List.getElem?_eq_none (by rw [c2_length,Array.length_toList];omega)]
  rwa [ht] at this
 ·refine ⟨rfl,rfl,rfl,by simp [sortWorldK,putRowK,putRow,mapBlock,Sort.ahead],fun k hk h1 _=>?_⟩;unfold sortWorldK putRowK;rw [heap_grow_old _ _ (by simpa [putRow,mapBlock,Sort.ahead] using hk)];have:g≠k:=fun e=>h1 e.symm
  simp [putRow,mapBlock,Sort.ahead,Array.getElem?_modify,this]
end
theorem perm_of {α:Type} [Inhabited α] {d d':Array α} (h:PermIn 0 d.size d d'):d'.toList.Perm d.toList:=by
 obtain ⟨h1,_,h3⟩:=h;rw [show d.extract 0 d.size=d from by simp,show d'.extract 0 d.size=d' from by rw [← h1];simp] at h3;exact h3
theorem sorted_of {α:Type} [Inhabited α] {lt:α→α→Bool} {d:Array α} {n:Nat} (h:SortedIn lt 0 n d) (hn:n=d.size):d.toList.Pairwise fun x y=>lt y x=false:=by
 subst hn;rw [List.pairwise_iff_getElem];intro i j hi hj hij;rw [Array.length_toList] at hi hj;have:=h i j (Nat.zero_le _) hij hj;rw [getElem!_pos d i hi,getElem!_pos d j hj] at this;simpa using this
end
section
open Go Go.RowKit Go.Sort Go.Shelf
structure Cmp3 {α:Type} (f:α→α→Int):Prop where
 inn:∀ a b,f a b = -1∨f a b=0∨f a b=1
 swap:∀ a b,f a b = - f b a
 zero:∀ a b,f a b=0↔a=b
 trans:∀ a b c,f a b = -1→f b c = -1→f a c = -1
theorem cmpS_swap (a b:ByteArray):cmpS a b = - cmpS b a:=by
 rcases bl_total a.toList b.toList with h | h | h
 ·rw [cmpS_neg.2 h,cmpS_pos.2 h]
 ·obtain rfl:=bytes_ext h;rw [cmpS_zero.2 rfl];rfl
 ·rw [cmpS_pos.2 h,cmpS_neg.2 h];rfl
theorem cmp3_S:Cmp3 cmpS where
 inn:=cmpS_in
 swap:=cmpS_swap
 zero _ _:=cmpS_zero
 trans _ _ _ h k:=cmpS_neg.2 (bl_trans _ _ _ (cmpS_neg.1 h) (cmpS_neg.1 k))
theorem Cmp3.pair {α β:Type} {f:α→α→Int} {h:β→β→Int} (F:Cmp3 f) (H:Cmp3 h):Cmp3 fun x y:α × β=>if f x.1 y.1≠0 then f x.1 y.1 else h x.2 y.2 where
 inn a b:=by
  by_cases e:f a.1 b.1=0
  ·rw [if_neg (fun n=>n e)];exact H.inn _ _
  ·rw [if_pos e];exact F.inn _ _
 swap a b:=by
  have s:=F.swap a.1 b.1;by_cases e:f a.1 b.1=0
  ·have e2:f b.1 a.1=0:=by omega
   rw [if_neg (fun n=>n e),if_neg (fun n=>n e2)];exact H.swap _ _
  ·have e2:¬ f b.1 a.1=0:=by omega
   rw [if_pos e,if_pos e2];exact s
 zero a b:=by
  by_cases e:f a.1 b.1=0
  ·rw [if_neg (fun n=>n e),H.zero];have:=(F.zero _ _).1 e;exact ⟨fun h=>Prod.ext this h,fun h=>by rw [h]⟩
  ·rw [if_pos e];exact ⟨fun h=>(e h).elim,fun h=>(e ((F.zero _ _).2 (by rw [h]))).elim⟩
 trans a b c:=by
  intro h k;by_cases e:f a.1 b.1=0
  ·have ea:=(F.zero _ _).1 e;rw [if_neg (fun n=>n e)] at h;by_cases e2:f b.1 c.1=0
   ·rw [if_neg (fun n=>n e2)] at k;rw [← ea] at e2;rw [if_neg (fun n=>n e2)];exact H.trans _ _ _ h k
   ·rw [if_pos e2] at k;rw [← ea] at e2 k;rw [if_pos e2];exact k
  ·rw [if_pos e] at h;have hk:f a.1 c.1 = -1:=by
    by_cases e2:f b.1 c.1=0
    ·rw [← (F.zero _ _).1 e2];exact h
    ·rw [if_pos e2] at k;exact F.trans _ _ _ h k
   have e3:¬ f a.1 c.1=0:=by omega
   rw [if_pos e3];exact hk
theorem cmp3_L:Cmp3 cmpL:=cmp3_S.pair cmp3_S
theorem cmpLs_cons (x y:Lab) (a b:List Lab):cmpLs (x::a) (y::b)=if cmpL x y≠0 then cmpL x y else cmpLs a b:=rfl
theorem cmp3_Ls:Cmp3 cmpLs where
 inn:=cmpLs_in
 swap:=by
  intro a;induction a with
  | nil=>intro b;cases b<;>rfl
  | cons x a ih =>
   intro b;cases b with
   | nil=>rfl
   | cons y b =>
    rw [cmpLs_cons,cmpLs_cons];have s:=cmp3_L.swap x y;by_cases e:cmpL x y=0
    ·rw [if_neg (by simp [e]),if_neg (by omega)];exact ih b
    ·rw [if_pos e,if_pos (by omega)];exact s
 zero:=cmpLs_zero
 trans:=by
  intro a;induction a with
  | nil =>
   intro b c h k;cases c with
   | nil=>cases b with
    | nil=>exact k
    | cons y b=>exact absurd k (by show ¬ (1:Int) = -1;omega)
   | cons z c=>rfl
  | cons x a ih =>
   intro b c h k;cases b with
   | nil=>exact absurd h (by show ¬ (1:Int) = -1;omega)
   | cons y b =>
    cases c with
    | nil=>exact absurd k (by show ¬ (1:Int) = -1;omega)
    | cons z c =>
     rw [cmpLs_cons] at h k ⊢;by_cases e:cmpL x y=0
     ·have ea:=(cmp3_L.zero _ _).1 e;rw [if_neg (by simp [e])] at h;subst ea;by_cases e2:cmpL x z=0
      ·rw [if_neg (by simp [e2])] at k ⊢;exact ih _ _ h k
      ·rw [if_pos e2] at k ⊢;exact k
     ·rw [if_pos e] at h;have hk:cmpL x z = -1:=by
       by_cases e2:cmpL y z=0
       ·rw [← (cmp3_L.zero _ _).1 e2];exact h
       ·rw [if_pos e2] at k;exact cmp3_L.trans _ _ _ h k
      rw [if_pos (by omega)];exact hk
theorem Cmp3.lt {α β:Type} {f:β→β→Int} (F:Cmp3 f) {κ:α→β} {x y:α}:ltOf (fun x y:α=>f (κ x) (κ y)) x y=true↔f (κ x) (κ y) = -1:=by
 unfold ltOf;rw [decide_eq_true_iff];have:=F.inn (κ x) (κ y);show f (κ x) (κ y) < 0↔_
 omega
theorem Cmp3.swo {α β:Type} {f:β→β→Int} (F:Cmp3 f) (κ:α→β):SWO (ltOf fun x y:α=>f (κ x) (κ y)) where
 irrefl x:=by
  rw [Bool.eq_false_iff];intro h;rw [F.lt,(F.zero _ _).2 rfl] at h;cases h
 trans x y z h1 h2:=by
  rw [F.lt] at *;exact F.trans _ _ _ h1 h2
 ntrans x y z h1 h2:=by
  rw [Bool.eq_false_iff] at *;intro h;rw [ne_eq,F.lt] at *;have s1:=F.swap (κ x) (κ y);have s2:=F.swap (κ y) (κ z);rcases F.inn (κ x) (κ y) with a | a | a
  ·exact h1 a
  ·rw [(F.zero _ _).1 a] at h;exact h2 h
  ·exact h2 (F.trans _ _ _ (by omega) h)
end
end Go.Proofs.YtobfpajapgakdaaGreatDoor
namespace Go.Proofs
open Go.Shelf
def Tryz.sortLab_ren:Go.Shelf.Ren:=⟨fun | 6=>125 | 15=>172 | 14=>171 | 28=>213 | 29=>214 | 20=>205 | 21=>206 | 22=>207 | 23=>208 | 24=>209 | 25=>210 | 26=>211 | 27=>212 | 46=>237 | 47=>238 | 48=>239 | 49=>240 | 50=>241 | 57=>251 | n=>n,fun | 22=>48 | 24=>124 | 25=>132 | 3=>3 | 39=>231 | 0=>0 | 53=>163 | 55=>92 | 4=>4 | 46=>283 | 45=>282 | 50=>121 | 5=>5 | 9=>9 | 66=>307 | 70=>310 | 76=>317 | 77=>235 | n=>n,fun | n=>n⟩
theorem Tryz.sortLab:Go.Proofs.SlLaysF0.n6 Tryz.prog Tryz.sortLab_ren:={
 mixed:=by kernel_rfl
 f6:=⟨Tryz.f125.name,by decide,Tryz.func125.trans (congrArg some (by kernel_rfl))⟩
 f14:=⟨Tryz.f171.name,by decide,Tryz.func171.trans (congrArg some (by kernel_rfl))⟩
 f15:=Tryz.func172.trans (congrArg some (by kernel_rfl))
 f20:=⟨Tryz.f205.name,by decide,Tryz.func205.trans (congrArg some (by kernel_rfl))⟩
 f21:=⟨Tryz.f206.name,by decide,Tryz.func206.trans (congrArg some (by kernel_rfl))⟩
 f22:=⟨Tryz.f207.name,by decide,Tryz.func207.trans (congrArg some (by kernel_rfl))⟩
 f23:=⟨Tryz.f208.name,by decide,Tryz.func208.trans (congrArg some (by kernel_rfl))⟩
 f24:=⟨Tryz.f209.name,by decide,Tryz.func209.trans (congrArg some (by kernel_rfl))⟩
 f25:=⟨Tryz.f210.name,by decide,Tryz.func210.trans (congrArg some (by kernel_rfl))⟩
 f26:=⟨Tryz.f211.name,by decide,Tryz.func211.trans (congrArg some (by kernel_rfl))⟩
 f27:=⟨Tryz.f212.name,by decide,Tryz.func212.trans (congrArg some (by kernel_rfl))⟩
 f28:=Tryz.func213.trans (congrArg some (by kernel_rfl))
 f29:=Tryz.func214.trans (congrArg some (by kernel_rfl))
 f46:=⟨Tryz.f237.name,by decide,Tryz.func237.trans (congrArg some (by kernel_rfl))⟩
 f47:=Tryz.func238.trans (congrArg some (by kernel_rfl))
 f48:=Tryz.func239.trans (congrArg some (by kernel_rfl))
 f49:=⟨Tryz.f240.name,by decide,Tryz.func240.trans (congrArg some (by kernel_rfl))⟩
 f50:=⟨Tryz.f241.name,by decide,Tryz.func241.trans (congrArg some (by kernel_rfl))⟩
 f57:=⟨Tryz.f251.name,by decide,Tryz.func251.trans (congrArg some (by kernel_rfl))⟩
 t0:=Tryz.underlying0
 a0:=Tryz.isAgg0
 z0:=Tryz.sizeOf0
 v0:=Tryz.zeroValue0
 t3:=Tryz.underlying3
 a3:=Tryz.isAgg3
 z3:=Tryz.sizeOf3
 v3:=Tryz.zeroValue3
 t4:=Tryz.underlying4
 a4:=Tryz.isAgg4
 z4:=Tryz.sizeOf4
 v4:=Tryz.zeroValue4
 t5:=Tryz.underlying5
 a5:=Tryz.isAgg5
 z5:=Tryz.sizeOf5
 v5:=Tryz.zeroValue5
 t9:=Tryz.underlying9
 a9:=Tryz.isAgg9
 z9:=Tryz.sizeOf9
 v9:=Tryz.zeroValue9
 t22:=Tryz.underlying48
 a22:=Tryz.isAgg48
 z22:=Tryz.sizeOf48
 v22:=Tryz.zeroValue48
 t25:=Tryz.underlying132
 a25:=Tryz.isAgg132
 z25:=Tryz.sizeOf132
 v25:=Tryz.zeroValue132
 t39:=Tryz.underlying231
 a39:=Tryz.isAgg231
 z39:=Tryz.sizeOf231
 v39:=Tryz.zeroValue231
 t45:=Tryz.underlying282
 a45:=Tryz.isAgg282
 z45:=Tryz.sizeOf282
 v45:=Tryz.zeroValue282
 t46:=Tryz.underlying283
 a46:=Tryz.isAgg283
 z46:=Tryz.sizeOf283
 v46:=Tryz.zeroValue283
 t50:=Tryz.underlying121
 a50:=Tryz.isAgg121
 z50:=Tryz.sizeOf121
 v50:=Tryz.zeroValue121
 t53:=Tryz.underlying163
 a53:=Tryz.isAgg163
 z53:=Tryz.sizeOf163
 v53:=Tryz.zeroValue163
 t55:=Tryz.underlying92
 a55:=Tryz.isAgg92
 z55:=Tryz.sizeOf92
 v55:=Tryz.zeroValue92
 t66:=Tryz.underlying307
 a66:=Tryz.isAgg307
 z66:=Tryz.sizeOf307
 v66:=Tryz.zeroValue307
 t70:=Tryz.underlying310
 a70:=Tryz.isAgg310
 z70:=Tryz.sizeOf310
 v70:=Tryz.zeroValue310
 t76:=Tryz.underlying317
 a76:=Tryz.isAgg317
 z76:=Tryz.sizeOf317
 v76:=Tryz.zeroValue317
 t77:=Tryz.underlying235
 a77:=Tryz.isAgg235
 z77:=Tryz.sizeOf235
 v77:=Tryz.zeroValue235 }
def Tryz.insSmp_ren:Go.Shelf.Ren:=⟨fun | 20=>182 | n=>n,fun | 24=>135 | 22=>49 | 3=>3 | 25=>158 | 4=>4 | 0=>0 | n=>n,fun | n=>n⟩
theorem Tryz.insSmp:Go.Proofs.SlLaysF0.n20 Tryz.prog Tryz.insSmp_ren:={
 mixed:=by kernel_rfl
 f20:=⟨Tryz.f182.name,by decide,Tryz.func182.trans (congrArg some (by kernel_rfl))⟩
 t0:=Tryz.underlying0
 a0:=Tryz.isAgg0
 z0:=Tryz.sizeOf0
 v0:=Tryz.zeroValue0
 t3:=Tryz.underlying3
 a3:=Tryz.isAgg3
 z3:=Tryz.sizeOf3
 v3:=Tryz.zeroValue3
 t4:=Tryz.underlying4
 a4:=Tryz.isAgg4
 z4:=Tryz.sizeOf4
 v4:=Tryz.zeroValue4
 t22:=Tryz.underlying49
 a22:=Tryz.isAgg49
 z22:=Tryz.sizeOf49
 v22:=Tryz.zeroValue49
 t25:=Tryz.underlying158
 a25:=Tryz.isAgg158
 z25:=Tryz.sizeOf158
 v25:=Tryz.zeroValue158 }
def Tryz.insSer_ren:Go.Shelf.Ren:=⟨fun | 20=>185 | n=>n,fun | 24=>51 | 22=>22 | 3=>3 | 25=>108 | 4=>4 | 0=>0 | n=>n,fun | n=>n⟩
theorem Tryz.insSer:Go.Proofs.SlLaysF0.n20 Tryz.prog Tryz.insSer_ren:={
 mixed:=by kernel_rfl
 f20:=⟨Tryz.f185.name,by decide,Tryz.func185.trans (congrArg some (by kernel_rfl))⟩
 t0:=Tryz.underlying0
 a0:=Tryz.isAgg0
 z0:=Tryz.sizeOf0
 v0:=Tryz.zeroValue0
 t3:=Tryz.underlying3
 a3:=Tryz.isAgg3
 z3:=Tryz.sizeOf3
 v3:=Tryz.zeroValue3
 t4:=Tryz.underlying4
 a4:=Tryz.isAgg4
 z4:=Tryz.sizeOf4
 v4:=Tryz.zeroValue4
 t22:=Tryz.underlying22
 a22:=Tryz.isAgg22
 z22:=Tryz.sizeOf22
 v22:=Tryz.zeroValue22
 t25:=Tryz.underlying108
 a25:=Tryz.isAgg108
 z25:=Tryz.sizeOf108
 v25:=Tryz.zeroValue108 }
end Go.Proofs
namespace Go.Proofs.YtobfpajapgakdaaGreatDoor
open Go.Lib(hid)
section
open Go Go.RowKit Go.Lib Go.Sort Go.Shelf
set_option maxRecDepth 100000 in
theorem cmpOr_any (w:World) (b:Nat) (x y:Int) (h0:w.cell? ⟨b,0,none⟩=some (.int .i64 x)) (h1:w.cell? ⟨b,1,none⟩=some (.int .i64 y)) :
  Calls Tryz.prog 127 #[.slice (some ⟨b,0,none⟩) 2 2] w fun e w'=>e=.returned (.int .i64 (if x≠0 then x else y))∧w=w':=by
 have H0:=hid h0;have H1:=hid h1;by_cases hx:x=0
 ·subst hx;by_cases hy:y=0
  ·subst hy;go_enter Tryz.func127,Tryz.ntmps127
   go_wp2;refine wp_loop_rounds 3 ?_;rw [rounds_succ];go_wp2;rw [rounds_succ];go_wp2;rw [rounds_succ];go_wp2;go_ret;exact ⟨by simp,rfl⟩
  ·have e1:(y != 0)=true:=by simpa using hy
   go_enter Tryz.func127,Tryz.ntmps127
   go_wp2;refine wp_loop_rounds 3 ?_;rw [rounds_succ];go_wp2;rw [rounds_succ];go_wp2;go_ret;exact ⟨by simp,rfl⟩
 ·have e1:(x != 0)=true:=by simpa using hx
  go_enter Tryz.func127,Tryz.ntmps127
  go_wp2;refine wp_loop_rounds 3 ?_;rw [rounds_succ];go_wp2;go_ret;exact ⟨by simp,rfl⟩
set_option maxRecDepth 100000 in
set_option maxHeartbeats 1600000 in
theorem pcmp_any (w:World) (x y:Lab) :
  Calls Tryz.prog 80 #[.agg #[.string x.1,.string x.2],.agg #[.string y.1,.string y.2]] w fun e w'=>e=.returned (.int .i64 (cmpL x y))∧Gr w w':=by
 obtain ⟨a,b⟩:=x;obtain ⟨c,d⟩:=y;have HC:=hid (show cmpL (a,b) (c,d)=(if cmpS a c≠0 then cmpS a c else cmpS b d) from rfl);dsimp only at HC ⊢;generalize cmpL (a,b) (c,d)=C at *;have HOr:=hid fun W bk=>cmpOr_any W bk (cmpS a c) (cmpS b d)
 rw [← HC.out] at HOr;clear HC;go_enter Tryz.func80,Tryz.ntmps80
 go_wp2_with fail;have hb0:((w.alloc (.cells #[.string a,.string b] 124)).alloc (.cells #[.string c,.string d] 124)).heap[w.heap.size]? = some (.cells #[.string a,.string b] 124 (0,0)):=by
  rw [heap_alloc_old _ _ (by simp)];exact heap_alloc_new _ _
 have hb1:((w.alloc (.cells #[.string a,.string b] 124)).alloc (.cells #[.string c,.string d] 124)).heap[w.heap.size+1]? = some (.cells #[.string c,.string d] 124 (0,0)):=by
  simpa using heap_alloc_new (w.alloc (.cells #[.string a,.string b] 124)) _
 have hgr:Gr w ((w.alloc (.cells #[.string a,.string b] 124)).alloc (.cells #[.string c,.string d] 124)):=(Gr.alloc _ _).trans (Gr.alloc _ _);generalize (w.alloc (.cells #[.string a,.string b] 124)).alloc (.cells #[.string c,.string d] 124)=wq at *;have hl0:=lt_of_block hb0;have hl1:=lt_of_block hb1;have q0:∀ p:Gp,(grow (wq.drewN p.n) p.os).cell? ⟨w.heap.size,0,none⟩=some (.string a):=cell_gr hl0 (by simp [World.cell?,hb0]);have q1:∀ p:Gp,(grow (wq.drewN p.n) p.os).cell? ⟨w.heap.size,1,none⟩=some (.string b):=cell_gr hl0 (by simp [World.cell?,hb0]);have q2:∀ p:Gp,(grow (wq.drewN p.n) p.os).cell? ⟨w.heap.size+1,0,none⟩=some (.string c):=cell_gr hl1 (by simp [World.cell?,hb1]);have q3:∀ p:Gp,(grow (wq.drewN p.n) p.os).cell? ⟨w.heap.size+1,1,none⟩=some (.string d):=cell_gr hl1 (by simp [World.cell?,hb1]);refine wp_region_gr_tail 10 (by kernel_rfl) (by kernel_rfl) ?_;simp only [List.take_succ_cons,List.take_zero,List.drop_succ_cons,List.drop_zero]
 repeat (quiet_step (first | (go_at_call 128;refine Calls.gr ((CompareS_any _ _ _).mono fun _ _ h=>⟨h.1,by rw [← h.2];exact Gr.refl _⟩))))
 refine wpQuiet_nil ?_;rintro _ ⟨p,rfl⟩;have hG:=hgr.trans ⟨p,rfl⟩;generalize grow (wq.drewN p.n) p.os=wz at *;generalize cmpS a c=c1 at *;generalize cmpS b d=c2 at *;have hN:=heap_alloc_new wz (.cells #[.int .i64 c1,.int .i64 c2] 3);have HO2:=hid (HOr.out _ wz.heap.size (cell_at (k:=0) hN) (cell_at (k:=1) hN));have HG:=hid (hG.alloc' (.cells #[.int .i64 c1,.int .i64 c2] 3));clear q0 q1 q2 q3 hG hgr hb0 hb1 hN;go_wp2_with fail;refine HO2.out.mono ?_;rintro e w2 ⟨rfl,hw⟩;subst hw;go_wp2;go_ret;exact ⟨rfl,HG.out⟩
theorem SortK_any (w:World) (g n c:Nat) (a:Addr) (l:List Lab) (hn:n=l.length) (hm:n≤1000000) (hO:Ow w g 124 2 (some a) n c (cL l)) :
  Calls Tryz.prog 125 #[.slice (some a) n c,.func (.func 80) #[] #[]] w fun e w'=>e=.returned (.tuple #[])∧∃ l',l'.Perm l∧l'.Pairwise (fun x y=>¬ cmpL y x = -1)∧Ow w' g 124 2 (some a) n c (cL l')∧Kp g g w w':=by
 subst hn;obtain ⟨cs,hh,_,_,rfl⟩:=hO.heap;have eg:∀ args w,(callFunc 80 args).run Tryz.prog w=.ok (.enter 80 args) w:=enters_of Tryz.func80 (by kernel_rfl) rfl;have hO':Ow w g 124 2 (some ⟨g,0,none⟩) l.toArray.size c (c2 (fun x:Lab=>.string x.1) (fun x=>.string x.2) l.toArray.toList):=by simpa [cL] using hO
 have hcmp:CmpLays Tryz.prog 80 #[] (fun x:Lab=>[.string x.1,.string x.2]) 2 cmpL g 0 l.toArray.size w:=by
  intro m os dk hd x y;refine (pcmp_any _ x y).mono ?_;rintro e w' ⟨he,p,hp⟩;exact ⟨he,p.n,p.os,hp⟩
 have hcon:=AnyQ.slices_SortFunc Tryz.sortLab 2 (fun w=>by kernel_rfl) (fun w=>by kernel_rfl) (fun x:Lab=>[.string x.1,.string x.2]) (fun _=>rfl) (fun x v hv=>by simp at hv;rcases hv with rfl | rfl<;>rfl) cmpL (cmp3_L.swo id) 80 #[] g 0 c l.toArray w eg hcmp (holds_ow hO') (lt_of_block hh) (by simp;omega);change Calls Tryz.prog 125 _ _ _ at hcon
 rw [List.size_toArray] at hcon;refine hcon.mono ?_;rintro e w' ⟨rfl,d',m,os,hp,hs,rfl⟩;have hd:d'.size=l.length:=by have:=hp.1;simpa using this
 have hw:=sort_ow (α:=Lab) (f:=fun x=>.string x.1) (h:=fun x=>.string x.2) (m:=m) hO hd os;refine ⟨rfl,d'.toList,?_,?_,hw.1,hw.2⟩
 ·have:=perm_of (d:=l.toArray) (d':=d') (by simpa using hp);simpa using this
 ·refine (sorted_of hs hd.symm).imp ?_;intro x y h h2;rw [show ltOf cmpL y x=true from (cmp3_L.lt (κ:=id)).2 h2] at h;cases h
end
section
open Go Go.RowKit Go.Lib Go.Sort Go.Shelf
open Go.ChangeMaps (setBlock heap_setBlock_same heap_setBlock_other)
def numsOf (done:List (Lab × Nat)) (x:Lab):List Nat:=(done.filter fun q=>cmpL q.1 x == 0).map (·.2)
theorem cmpL_eq {x y:Lab}:(cmpL x y == 0)=true↔x=y:=by rw [beq_iff_eq,cmp3_L.zero]
theorem numsOf_snoc_same (done:List (Lab × Nat)) (x:Lab) (i:Nat):numsOf (done++[(x,i)]) x=numsOf done x++[i]:=by
 unfold numsOf;have:(cmpL x x == 0)=true:=cmpL_eq.2 rfl;rw [List.filter_append,List.map_append];simp [this]
theorem numsOf_snoc_other {done:List (Lab × Nat)} {x y:Lab} {i:Nat} (h:x≠y):numsOf (done++[(x,i)]) y=numsOf done y:=by
 unfold numsOf;have:(cmpL x y == 0)=false:=by
  rw [Bool.eq_false_iff];exact fun e=>h (cmpL_eq.1 e)
 rw [List.filter_append,List.map_append];simp [this]
theorem numsOf_none {done:List (Lab × Nat)} {x:Lab} (h:∀ i,(x,i) ∉ done):numsOf done x=[]:=by
 unfold numsOf;rw [List.map_eq_nil_iff,List.filter_eq_nil_iff];rintro ⟨y,i⟩ hq e;obtain rfl:=cmpL_eq.1 e;exact h i hq
theorem numsOf_len (done:List (Lab × Nat)) (x:Lab):(numsOf done x).length≤done.length:=by
 unfold numsOf;rw [List.length_map];exact List.length_filter_le _ _
structure GrpOf (done:List (Lab × Nat)) (G:List (Lab × List Nat)):Prop where
 nd:(G.map (·.1)).Nodup
 mem:∀ x,x∈G.map (·.1)↔∃ i,(x,i)∈done
 nums:∀ p∈G,p.2=numsOf done p.1
theorem GrpOf.nil:GrpOf [] []:=⟨List.nodup_nil,by simp,by simp⟩
theorem GrpOf.new {done:List (Lab × Nat)} {G:List (Lab × List Nat)} (h:GrpOf done G) {x:Lab} (i:Nat) (hx:x ∉ G.map (·.1)):GrpOf (done++[(x,i)]) (G++[(x,[i])]):=by
 refine ⟨?_,fun y=>?_,fun p hp=>?_⟩
 ·rw [List.map_append];refine List.nodup_append.2 ⟨h.nd,by simp,fun a ha c hc e=>?_⟩;simp at hc;subst hc e;exact hx ha
 ·rw [List.map_append,List.mem_append,h.mem];simp only [List.map_cons,List.map_nil,List.mem_singleton,List.mem_append,Prod.mk.injEq];constructor
  ·rintro (⟨k,hk⟩ | rfl)
   ·exact ⟨k,.inl hk⟩
   ·exact ⟨i,.inr ⟨rfl,rfl⟩⟩
  ·rintro ⟨k,hk | ⟨rfl,_⟩⟩
   ·exact .inl ⟨k,hk⟩
   ·exact .inr rfl
 ·rcases List.mem_append.1 hp with hp1 | hp1
  ·rw [h.nums p hp1,numsOf_snoc_other];intro e;exact hx (e ▸ List.mem_map_of_mem hp1)
  ·simp only [List.mem_singleton] at hp1;subst hp1;rw [numsOf_snoc_same,numsOf_none]
   ·rfl
   ·intro k hk;exact hx ((h.mem x).2 ⟨k,hk⟩)
theorem GrpOf.old {done:List (Lab × Nat)} {G:List (Lab × List Nat)} (h:GrpOf done G) {x:Lab} {ns:List Nat} {j:Nat} (i:Nat) (hj:j < G.length) (hx:G[j]=(x,ns)):GrpOf (done++[(x,i)]) (G.set j (x,ns++[i])):=by
 have hm:(G.set j (x,ns++[i])).map (·.1)=G.map (·.1):=by
  rw [List.map_set];apply List.ext_getElem?
  intro k;rw [List.getElem?_set];split
  ·rename_i e
   subst e;simp [hj,hx]
  ·rfl
 have hxm:x∈G.map (·.1):=List.mem_map.2 ⟨G[j],List.getElem_mem hj,by rw [hx]⟩;refine ⟨by rw [hm];exact h.nd,fun y=>?_,fun p hp=>?_⟩
 ·rw [hm,h.mem];simp only [List.mem_append,List.mem_singleton,Prod.mk.injEq];constructor
  ·rintro ⟨k,hk⟩;exact ⟨k,.inl hk⟩
  ·rintro ⟨k,hk | ⟨rfl,_⟩⟩
   ·exact ⟨k,hk⟩
   ·exact (h.mem y).1 hxm
 ·obtain ⟨k,hk,rfl⟩:=List.getElem_of_mem hp;rw [List.length_set] at hk;by_cases e:j=k
  ·subst e;have hn:=h.nums _ (List.getElem_mem hj);rw [hx] at hn;rw [List.getElem_set_self,numsOf_snoc_same,← hn]
  ·rw [List.getElem_set_ne e,h.nums _ (List.getElem_mem hk),numsOf_snoc_other];intro e2;refine e (nodup_inj h.nd (i:=j) (j:=k) (hi:=by simpa using hj) (hj:=by simpa using hk) ?_);rw [List.getElem_map,List.getElem_map,hx,e2]
structure GR where
 lab:Lab
 ns:List Nat
 b:Nat
 A:Option Addr
 c:Nat
abbrev valG (r:GR):Lab × Value:=(r.lab,.slice r.A r.ns.length r.c)
abbrev keyG (r:GR):Lab × List Nat:=(r.lab,r.ns)
structure GInv (w W:World) (B:Nat) (done:List (Lab × Nat)) (rows:List GR):Prop where
 map:W.heap[B]? = some (.map (entsE (rows.map valG)) (rows.map valG).length)
 hB:w.heap.size≤B
 own:∀ r∈rows,Ow W r.b 3 1 r.A r.ns.length r.c (cN .i64 r.ns)
 far:∀ r∈rows,w.heap.size≤r.b∧r.A≠none
 apart:rows.Pairwise fun r s=>r.b≠s.b
 nw:Nw w W
 ok:∀ r∈rows,LOk r.lab
 grp:GrpOf done (rows.map keyG)
theorem GInv.tr {w W W':World} {B:Nat} {done:List (Lab × Nat)} {rows:List GR} (h:GInv w W B done rows) (hN:Nw W W'):GInv w W' B done rows :=
 ⟨(hN.block B (lt_of_block h.map)).trans h.map,h.hB,fun r hr=>(h.own r hr).nw hN,h.far,h.apart,h.nw.trans hN,h.ok,h.grp⟩
theorem GInv.start (w:World):GInv w (w.alloc (.map #[] 0)) w.heap.size [] [] :=
 ⟨heap_alloc_new _ _,Nat.le_refl _,by simp,by simp,List.Pairwise.nil,(Nw.refl w).alloc' _,by simp,GrpOf.nil⟩
theorem Ow.ne_map {w:World} {b B n c:Nat} {e:TypeId} {size:Nat} {A:Option Addr} {xs:List Value} {es:Array MapEntry} {k:Nat} (h:Ow w b e size A n c xs) (hA:A≠none) (hB:w.heap[B]? = some (.map es k)):b≠B:=by
 intro e;rcases h with ⟨h,_⟩ | ⟨rfl,hlt,h⟩
 ·exact hA h
 ·obtain ⟨cs,fr,hb⟩:=Ow.blk (.inr ⟨rfl,hlt,h⟩);rw [e,hB] at hb;cases hb
theorem keysG (rows:List GR):(rows.map valG).map (·.1)=(rows.map keyG).map (·.1):=by simp
theorem GInv.keys_nd {w W:World} {B:Nat} {done:List (Lab × Nat)} {rows:List GR} (h:GInv w W B done rows):((rows.map valG).map (·.1)).Nodup:=by rw [keysG];exact h.grp.nd
theorem GInv.oks {w W:World} {B:Nat} {done:List (Lab × Nat)} {rows:List GR} (h:GInv w W B done rows):∀ p∈rows.map valG,LOk p.1:=by
 intro p hp;obtain ⟨r,hr,rfl⟩:=List.mem_map.1 hp;exact h.ok r hr
theorem kp_set (W:World) (B:Nat) (o:Obj):Kp B B W (setBlock W B o):=kp_putObj W B o
theorem group_round {w W:World} {B:Nat} {done:List (Lab × Nat)} {rows:List GR} (h:GInv w W B done rows) {x:Lab} (hx:LOk x) (i:Nat) :
  ∃ (j b:Nat) (A:Option Addr) (c:Nat) (ns:List Nat) (W1:World),(Instr.mapEntry 127 (.map (some B)) (labKey x)).run Tryz.prog W=.ok (.tuple #[.slice A ns.length c,.int .i64 j]) W1 ∧
   Ow W1 b 3 1 A ns.length c (cN .i64 ns)∧ns.length≤done.length∧Kp B B W W1∧(A=none∨b≠B) ∧
   ∀ (b':Nat) (A':Option Addr) (c':Nat) (W2:World),Ow W2 b' 3 1 A' (ns.length+1) c' (cN .i64 (ns++[i]))→(b'=b∨W1.heap.size≤b')→Kp b b W1 W2→(A=none→Nw W1 W2) →
    ∃ W3,(Instr.entryStore 127 (.map (some B)) (.int .i64 j) (.slice A' (ns.length+1) c')).run Tryz.prog W2=.ok () W3∧Kp B B W2 W3∧∃ rows',GInv w W3 B (done++[(x,i)]) rows':=by
 have hBl:=lt_of_block h.map;have hne:∀ r∈rows,r.b≠B:=fun r hr=>(h.own r hr).ne_map (h.far r hr).2 h.map
 have hA':∀ (W2:World) (b':Nat) (A':Option Addr) (c':Nat) (ns:List Nat),Ow W2 b' 3 1 A' (ns.length+1) c' (cN .i64 (ns++[i]))→A'≠none:=fun W2 b' A' c' ns hO e=>by
  rcases hO with ⟨_,h1,_⟩ | ⟨h1,_⟩
  ·omega
  ·rw [e] at h1;cases h1
 by_cases hm:x∈(rows.map keyG).map (·.1)
 ·obtain ⟨j,hj,hjx⟩:=List.getElem_of_mem hm;have hjr:j < rows.length:=by simpa using hj
  obtain ⟨r,hr⟩:∃ r,rows[j]=r:=⟨_,rfl⟩;have hrm:r∈rows:=hr ▸ List.getElem_mem hjr;have hrx:r.lab=x:=by rw [← hjx,← hr];simp
  have hget:(rows.map valG)[j]? = some (x,.slice r.A r.ns.length r.c):=by
   rw [List.getElem?_map,List.getElem?_eq_getElem hjr,hr];simp [hrx]
  have hrun:=run_entry_old h.map h.oks hx h.keys_nd hget;have hb1:=heap_setBlock_same h.map (.map (entsE (rows.map valG)) (rows.map valG).length);have hk1:Kp B B W (setBlock W B (.map (entsE (rows.map valG)) (rows.map valG).length)):=kp_set _ _ _;generalize setBlock W B (.map (entsE (rows.map valG)) (rows.map valG).length)=W1 at *;have hO1:∀ s∈rows,Ow W1 s.b 3 1 s.A s.ns.length s.c (cN .i64 s.ns):=fun s hs=>(h.own s hs).kp hk1 (hne s hs) (hne s hs)
  have hnl:r.ns.length≤done.length:=by
   have:=h.grp.nums (keyG r) (List.mem_map_of_mem hrm);have e:r.ns=numsOf done r.lab:=this;rw [e];exact numsOf_len _ _
  refine ⟨j,r.b,r.A,r.c,r.ns,W1,hrun,hO1 r hrm,hnl,hk1,.inr (hne r hrm),?_⟩;intro b' A' c' W2 hO2 hb' hk2 _;have hB2:W2.heap[B]? = some (.map (entsE (rows.map valG)) (rows.map valG).length):=(hk2.block B (lt_of_block hb1) (fun e=>hne r hrm e.symm) (fun e=>hne r hrm e.symm)).trans hb1;have hst:=run_entry_store hB2 (j:=j) (by simpa using hjr) (.slice A' (r.ns.length+1) c');have hN:=hA' _ _ _ _ _ hO2;have hbB:b'≠B:=hO2.ne_map hN hB2;have hjm:j < (rows.map valG).length:=by rw [List.length_map];exact hjr
  have hset:(rows.map valG).set j (((rows.map valG)[j]'hjm).1,Value.slice A' (r.ns.length+1) c')=(rows.set j ⟨x,r.ns++[i],b',A',c'⟩).map valG:=by
   rw [List.map_set,List.getElem_map,hr,show valG (⟨x,r.ns++[i],b',A',c'⟩:GR)=(x,Value.slice A' (r.ns.length+1) c') from by rw [valG,List.length_append,List.length_singleton],← hrx]
  rw [hset] at hst;have hb3:=heap_setBlock_same hB2 (.map (entsE ((rows.set j ⟨x,r.ns++[i],b',A',c'⟩).map valG)) (rows.map valG).length);have hk3:Kp B B W2 (setBlock W2 B (.map (entsE ((rows.set j ⟨x,r.ns++[i],b',A',c'⟩).map valG)) (rows.map valG).length)):=kp_set _ _ _;generalize setBlock W2 B (.map (entsE ((rows.set j ⟨x,r.ns++[i],b',A',c'⟩).map valG)) (rows.map valG).length)=W3 at *;have hjk:∀ k (hk:k < rows.length),k≠j→rows[k].b≠r.b:=fun k hk hkj=>by
   rcases Nat.lt_trichotomy k j with h1 | h1 | h1
   ·have:=List.pairwise_iff_getElem.1 h.apart k j hk hjr h1
    rwa [hr] at this
   ·exact (hkj h1).elim
   ·have:=List.pairwise_iff_getElem.1 h.apart j k hjr hk h1;rw [hr] at this;exact fun e=>this e.symm
  have hlt1:∀ s∈rows,s.b < W1.heap.size:=fun s hs=>(hO1 s hs).lt_some (h.far s hs).2
  have hjb:∀ k (hk:k < rows.length),k≠j→rows[k].b≠b':=fun k hk hkj e=>by
   rcases hb' with h1 | h1
   ·exact hjk k hk hkj (e.trans h1)
   ·have:=hlt1 _ (List.getElem_mem hk);omega
  have hmem:∀ s∈rows.set j ⟨x,r.ns++[i],b',A',c'⟩,s=⟨x,r.ns++[i],b',A',c'⟩∨∃ k,∃ hk:k < rows.length,k≠j∧s=rows[k]:=fun s hs=>by
   obtain ⟨k,hk,rfl⟩:=List.getElem_of_mem hs;rw [List.length_set] at hk;by_cases e:j=k
   ·subst e;exact .inl (List.getElem_set_self _)
   ·exact .inr ⟨k,hk,fun e2=>e e2.symm,List.getElem_set_ne e _⟩
  have hwb:w.heap.size≤r.b:=(h.far r hrm).1;refine ⟨W3,hst,hk3,rows.set j ⟨x,r.ns++[i],b',A',c'⟩,?_⟩;refine { map:=by rw [hb3];simp,hB:=h.hB,own:=fun s hs=>?_,far:=fun s hs=>?_,apart:=?_,nw:=?_,ok:=fun s hs=>?_,grp:=?_ }
  ·rcases hmem s hs with rfl | ⟨k,hk,hkj,rfl⟩
   ·exact (show Ow W2 b' 3 1 A' (r.ns++[i]).length c' (cN .i64 (r.ns++[i])) from by rw [List.length_append];exact hO2).kp hk3 hbB hbB
   ·have hkm:=List.getElem_mem hk;exact ((hO1 _ hkm).kp hk2 (hjk k hk hkj) (hjk k hk hkj)).kp hk3 (hne _ hkm) (hne _ hkm)
  ·rcases hmem s hs with rfl | ⟨k,hk,hkj,rfl⟩
   ·refine ⟨?_,hN⟩;rcases hb' with h1 | h1
    ·rw [h1];exact hwb
    ·have:=h.nw.size;have:=hk1.size;show w.heap.size≤b';omega
   ·exact h.far _ (List.getElem_mem hk)
  ·rw [List.pairwise_iff_getElem];intro a c ha hc hac;rw [List.length_set] at ha hc;have hp:=List.pairwise_iff_getElem.1 h.apart a c ha hc hac;rw [List.getElem_set,List.getElem_set];split
   ·split
    ·omega
    ·exact fun e=>hjb c hc (by omega) e.symm
   ·split
    ·exact hjb a ha (by omega)
    ·exact hp
  ·have n1:Nw w W1:=Kp.nw h.nw hk1 h.hB h.hB;have n2:Nw w W2:=Kp.nw n1 hk2 hwb hwb;exact Kp.nw n2 hk3 h.hB h.hB
  ·rcases hmem s hs with rfl | ⟨k,hk,hkj,rfl⟩
   ·exact hx
   ·exact h.ok _ (List.getElem_mem hk)
  ·rw [List.map_set];exact h.grp.old i (by simpa using hjr) (by rw [List.getElem_map,hr,← hrx])
 ·have hnew:∀ p∈rows.map valG,p.1≠x:=fun p hp e=>hm (by rw [← keysG];exact e ▸ List.mem_map_of_mem hp)
  have hrun:=run_entry_new h.map h.oks hx hnew;have hb1:=heap_setBlock_same h.map (.map (entsE (rows.map valG++[(x,.slice none 0 0)])) ((rows.map valG).length+1));have hk1:Kp B B W (setBlock W B (.map (entsE (rows.map valG++[(x,.slice none 0 0)])) ((rows.map valG).length+1))):=kp_set _ _ _;generalize setBlock W B (.map (entsE (rows.map valG++[(x,.slice none 0 0)])) ((rows.map valG).length+1))=W1 at *;have hO1:∀ s∈rows,Ow W1 s.b 3 1 s.A s.ns.length s.c (cN .i64 s.ns):=fun s hs=>(h.own s hs).kp hk1 (hne s hs) (hne s hs)
  refine ⟨(rows.map valG).length,W1.heap.size,none,0,[],W1,hrun,Ow.nil _ _ _ _,Nat.zero_le _,hk1,.inl rfl,?_⟩;intro b' A' c' W2 hO2 hb' _ hn2;have hN2:=hn2 rfl;have hB2:W2.heap[B]? = some (.map (entsE (rows.map valG++[(x,.slice none 0 0)])) (rows.map valG++[(x,Value.slice none 0 0)]).length):=by
   rw [List.length_append,List.length_singleton];exact (hN2.block B (lt_of_block hb1)).trans hb1
  have hjl:(rows.map valG).length < (rows.map valG++[(x,Value.slice none 0 0)]).length:=by simp
  have hst:=run_entry_store hB2 (j:=(rows.map valG).length) hjl (Value.slice A' 1 c');have hN:=hA' _ _ _ _ [] hO2;have hbB:b'≠B:=hO2.ne_map hN hB2;have hset:(rows.map valG++[(x,Value.slice none 0 0)]).set (rows.map valG).length (((rows.map valG++[(x,Value.slice none 0 0)])[(rows.map valG).length]'hjl).1,Value.slice A' 1 c')=(rows++[GR.mk x [i] b' A' c']).map valG:=by
   rw [List.map_append,List.set_append_right _ _ (Nat.le_refl _)];simp [valG]
  rw [hset] at hst;have hb3:=heap_setBlock_same hB2 (.map (entsE ((rows++[GR.mk x [i] b' A' c']).map valG)) (rows.map valG++[(x,Value.slice none 0 0)]).length);have hk3:Kp B B W2 (setBlock W2 B (.map (entsE ((rows++[GR.mk x [i] b' A' c']).map valG)) (rows.map valG++[(x,Value.slice none 0 0)]).length)):=kp_set _ _ _;generalize setBlock W2 B (.map (entsE ((rows++[GR.mk x [i] b' A' c']).map valG)) (rows.map valG++[(x,Value.slice none 0 0)]).length)=W3 at *;have hb1':W1.heap.size≤b':=by
   rcases hb' with h1 | h1
   ·omega
   ·exact h1
  have hlt1:∀ s∈rows,s.b < W1.heap.size:=fun s hs=>(hO1 s hs).lt_some (h.far s hs).2
  have n1:Nw w W1:=Kp.nw h.nw hk1 h.hB h.hB;refine ⟨W3,hst,hk3,rows++[GR.mk x [i] b' A' c'],?_⟩;refine { map:=by rw [hb3];simp,hB:=h.hB,own:=fun s hs=>?_,far:=fun s hs=>?_,apart:=?_,nw:=?_,ok:=fun s hs=>?_,grp:=?_ }
  ·rcases List.mem_append.1 hs with hs | hs
   ·exact ((hO1 _ hs).nw hN2).kp hk3 (hne _ hs) (hne _ hs)
   ·simp only [List.mem_singleton] at hs;subst hs;exact (show Ow W2 b' 3 1 A' [i].length c' (cN .i64 [i]) from hO2).kp hk3 hbB hbB
  ·rcases List.mem_append.1 hs with hs | hs
   ·exact h.far _ hs
   ·simp only [List.mem_singleton] at hs;subst hs;exact ⟨by have:=n1.size;show w.heap.size≤b';omega,hN⟩
  ·refine List.pairwise_append.2 ⟨h.apart,List.pairwise_singleton _ _,fun a ha c hc=>?_⟩;simp only [List.mem_singleton] at hc;subst hc;have:=hlt1 a ha;show a.b≠b'
   omega
  ·exact Kp.nw (n1.trans hN2) hk3 h.hB h.hB
  ·rcases List.mem_append.1 hs with hs | hs
   ·exact h.ok _ hs
   ·simp only [List.mem_singleton] at hs;subst hs;exact hx
  ·rw [List.map_append];exact h.grp.new i hm
end
section
open Go Go.RowKit
theorem Write_int (w:World) (b:Nat) (A:Option Addr) (m c:Nat) (bs:List Bool) (X N:Int) (x n:Nat) (hX:X=(x:Int)) (hN:N=(n:Int)) (hO:Ow w b 4 1 A m c (cB bs)) (hn:n≤64) (hx:x < 18446744073709551616) (hs:m+n≤1099511627776) :
  Calls Tryz.prog 133 #[.slice A m c,.int .u64 X,.int .i64 N] w fun e w' =>
   ∃ b' A' c',e=.returned (.slice A' (m+n) c')∧Ow w' b' 4 1 A' (m+n) c' (cB (bs++bitsOf x n))∧(b'=b∨w.heap.size≤b')∧Kp b b w w'∧(A=none→Nw w w'∧(w.heap.size≤b'∨A'=none)):=by
 subst hX hN;exact Write_any w b A m c bs x n hO hn hx hs
theorem wpList_app2 {P:Program} {w:World} {b:Nat} {e:TypeId} {n c:Nat} {A:Option Addr} {xs:List Value} {ops:Array Oper} {rest:List Oper} {o:Oper} {a:Act} {Q:Exit→Act→World→Prop} {t:TypeId} {z:Value} {bytes:Nat} (E:ElemT P t e z 1 bytes) (hgd:o.guard=none) (s x:Operand)
  (ho:o.op=.call { callee:=.builtin .append,args:=#[s,x],argTypes:=#[t,t] })
  (hs:a.eval s=.slice A n c) (hown:Ow w b e 1 A n c xs) {u v:Value} (hx:a.eval x=.slice (some ⟨w.heap.size,0,none⟩) 2 2) (h1:u.oneCell'=true) (h1':v.oneCell'=true)
  (hbytes:(n+2)*bytes≤140737488355328) (hby0:0 < bytes)
  (h:∀ b' A' c' w',Ow w' b' e 1 A' (n+2) c' (xs++[u,v])→(b'=b∨w.heap.size≤b')→Kp b b w w'→(A=none→Nw w w'∧w.heap.size≤b')→wpList P ops Q rest (a.put o.dst (.slice A' (n+2) c')) w') :
  wpList P ops Q (o::rest) a (w.alloc (.cells #[u,v] e)):=by
 have hn:n+2≤140737488355328:=Nat.le_trans (Nat.le_mul_of_pos_right _ hby0) hbytes;have hnw:Nw w (w.alloc (.cells #[u,v] e)):=Nw.alloc' (Nw.refl w) _;refine wpList_app E hgd s x ho hs (hown.nw hnw) (b2:=w.heap.size) (news:=[u,v]) hx (.inr ⟨0,rfl,by simp,fun j v' hj=>?_⟩) (by simp) (by simp) (by intro v' hv;simp at hv;rcases hv with rfl | rfl;exact h1;exact h1')
  (by simp only [maxLen];omega) hbytes ?_
 ·have hb:(w.alloc (.cells #[u,v] e)).heap[w.heap.size]? = some (.cells #[u,v] e (0,0)):=heap_alloc_new w _;have:=World.news_of_block hb j v' (by simpa using hj)
  rwa [add_lit'] at this
 ·intro b' A' c' w' h2 h3 h4 h4n;have h5:=h4.size;have h6:=hnw.size;refine h b' A' c' w' h2 (by rcases h3 with h3 | h3;exact .inl h3;right;omega) ?_ ?_
  ·exact (hnw.kp b b).trans h4 (.inl rfl) (.inl rfl)
  ·refine fun e=>⟨Nw.trans hnw (h4n e).1,?_⟩
   rcases (h4n e).2 with h7 | rfl
   ·omega
   ·rcases h2 with ⟨_,h8,_⟩ | ⟨h8,_⟩
    ·omega
    ·cases h8
theorem bit64 (x i:Nat) (h:i < 64):(bitsOf x 64)[i]'(by rw [bitsOf_length];exact h)=decide (x / 2 ^ (63 - i) % 2=1):=bitsOf_get x 64 i (by rw [bitsOf_length];exact h)
theorem lead_lt {x k:Nat} (h0:x≠0) (hx:x < 18446744073709551616) (hk:k < lz x):decide (x / 2 ^ (63 - k) % 2=1)=false:=by
 obtain ⟨h1,h2,h3⟩:=lz_spec h0 hx;have:2 ^ (64 - lz x)≤2 ^ (63 - k):=Nat.pow_le_pow_right (by omega) (by omega);rw [Nat.div_eq_of_lt (by omega)];rfl
theorem lead_at {x:Nat} (h0:x≠0) (hx:x < 18446744073709551616):decide (x / 2 ^ (63 - lz x) % 2=1)=true:=by
 obtain ⟨h1,h2,h3⟩:=lz_spec h0 hx;have e:2 ^ (64 - lz x)=2 ^ (63 - lz x)*2:=by rw [← Nat.pow_succ];congr 1;omega
 have:x / 2 ^ (63 - lz x)=1:=by
  rw [Nat.div_eq_iff (Nat.pow_pos (by omega))];generalize 2 ^ (63 - lz x)=p at *;omega
 rw [this];rfl
theorem trail_lt {x k:Nat} (h0:x≠0) (hx:x < 18446744073709551616) (hk:k < tz x):decide (x / 2 ^ k % 2=1)=false:=by
 obtain ⟨m,h1,h2⟩:=tz_spec h0 hx;have e:x / 2 ^ k=2*(2 ^ (tz x - k - 1)*(2*m+1)):=by
  have:x=2 ^ k*(2*(2 ^ (tz x - k - 1)*(2*m+1))):=by
   rw [← Nat.mul_assoc 2,← Nat.pow_succ',← Nat.mul_assoc,← Nat.pow_add,show k+(tz x - k - 1+1)=tz x from by omega];exact h1
  conv=>lhs;rw [this]
  rw [Nat.mul_div_cancel_left _ (Nat.pow_pos (by omega))]
 rw [e,Nat.mul_mod_right];rfl
theorem trail_at {x:Nat} (h0:x≠0) (hx:x < 18446744073709551616):decide (x / 2 ^ tz x % 2=1)=true:=by
 obtain ⟨m,h1,h2⟩:=tz_spec h0 hx;have e:x / 2 ^ tz x=2*m+1:=by
  conv=>lhs;lhs;rw [h1]
  rw [Nat.mul_div_cancel_left _ (Nat.pow_pos (by omega))]
 rw [e,decide_eq_true_iff];omega
theorem zeros_any (w:World) (x:Nat) (h0:x≠0) (hx:x < 18446744073709551616) :
  Calls Tryz.prog 174 #[.int .u64 (x:Int)] w fun e w'=>e=.returned (.tuple #[.int .i64 (lz x:Int),.int .i64 (tz x:Int)])∧Nw w w':=by
 have HW:=hid (Write_any w 0 none 0 0 [] x 64 (Ow.nil _ _ _ _) (by omega) hx (by omega));have hl:=(lz_spec h0 hx).1;have ht:=(tz_spec h0 hx).choose_spec.2;have L1:=hid fun (k:Nat) (hk:k < lz x)=>lead_lt h0 hx hk
 have L2:=hid (lead_at h0 hx);have L3:=hid fun (k:Nat) (hk:k < tz x)=>trail_lt h0 hx hk
 have L4:=hid (trail_at h0 hx);generalize lz x=p at *;generalize tz x=q at *;clear h0 hx;go_enter Tryz.func174,Tryz.ntmps174
 go_wp2_with (go_at_call 133;refine HW.out.mono ?_;rintro e w1 ⟨b1,A1,c1,rfl,h1,_,_,h2⟩)
 have hN:=(h2 trivial).1;have hr:=h1.rd;rw [List.nil_append] at hr;have HL:=hid (bitsOf_length x 64);clear h1 h2
 go_loop [5] (fun i=>∃ k:Nat,k≤p∧i=.int .i64 k) (fun i=>p - (intOf i).toNat)
 case atStart=>exact ⟨0,by omega,rfl⟩
 case round =>
  obtain ⟨k,hk,rfl⟩:=hrel;obtain ⟨o,rfl,_,hc⟩:=hr.get (k:=k) (by rw [List.length_map,HL.out];omega);rw [List.getElem_map,bit64 x k (by omega)] at hc;by_cases hlt:k < p
  ·rw [L1.out k hlt] at hc;go_wp2
   go_round
   case rel=>exact ⟨k+1,by omega,by go_num⟩
   case measure=>simp [intOf];omega
  ·obtain rfl:k=p:=by omega
   rw [L2.out] at hc;go_wp2;clear hc
   go_loop [6] (fun i=>∃ k:Nat,k≤q∧i=.int .i64 k) (fun i=>q - (intOf i).toNat)
   case atStart=>exact ⟨0,by omega,rfl⟩
   case round =>
    obtain ⟨j,hj,rfl⟩:=hrel;obtain ⟨o2,e2,_,hc⟩:=hr.get (k:=63 - j) (by rw [List.length_map,HL.out];omega);obtain rfl:o2=o:=by injection e2 with e2;injection e2 with _ e2 _;exact e2.symm
    rw [List.getElem_map,bit64 x _ (by omega),show 63 - (63 - j)=j from by omega] at hc;have i0:(0:Int)≤63 - (j:Int):=by omega
    have i1:63 - (j:Int) < 64:=by omega
    have i2:(63 - (j:Int)).toNat=63 - j:=by omega
    by_cases hlt2:j < q
    ·rw [L3.out j hlt2] at hc;go_wp2
     go_round
     case rel=>exact ⟨j+1,by omega,by go_num⟩
     case measure=>simp [intOf];omega
    ·obtain rfl:j=q:=by omega
     rw [L4.out] at hc;go_wp2;go_ret2;exact ⟨rfl,hN⟩
theorem inside_any (w:World) (x t q:Nat) (hx:x < 18446744073709551616) (ht:t≤64) (hq:q=x / 2 ^ t) :
  Calls Tryz.prog 175 #[.int .u64 (x:Int),.int .i64 (t:Int)] w fun e w'=>e=.returned (.int .u64 (q:Int))∧w=w':=by
 have HQ:=hid hq;clear hq;go_enter Tryz.func175,Tryz.ntmps175
 go_wp2
 go_loop [0,5] (fun y i=>∃ k:Nat,k≤t∧i=.int .i64 k∧∃ z:Nat,z < 18446744073709551616∧y=.int .u64 (z:Int)∧Hid (z=x / 2 ^ k)) (fun _ i=>t - (intOf i).toNat)
 case atStart=>exact ⟨0,by omega,rfl,x,hx,rfl,hid (by simp)⟩
 case round =>
  obtain ⟨k,hk,rfl,z,hz,rfl,HZ⟩:=hrel;by_cases hlt:k < t
  ·go_wp2
   go_round
   case rel=>exact ⟨k+1,by omega,by go_num,z / 2,by omega,by go_num,hid (by rw [HZ.out,Nat.pow_succ,Nat.div_div_eq_div_mul])⟩
   case measure=>simp [intOf];omega
  ·obtain rfl:k=t:=by omega
   obtain rfl:z=q:=by rw [HZ.out,HQ.out]
   go_wp2;go_ret;exact ⟨rfl,rfl⟩
def leadOf:Win→Int
 | none=>-1
 | some ab=>ab.1
def trailOf:Win→Int
 | none=>0
 | some ab=>ab.2
def XRel (l:List Nat) (k:Nat) (pre:List Bool) (win:Win):Prop :=
 WinOk win∧pre.length≤78*k∧((k=0∧pre=[]∧win=none)∨∃ last,0 < k∧l[k - 1]? = some last∧xput l=pre++xputF last win (l.drop k))
theorem xword_len6 (win:Win) (x:Nat):(xword win x).1.length≤78:=by
 unfold xword;split
 ·split<;>simp [bitsOf_length]<;>omega
 ·simp [bitsOf_length];omega
theorem XRel.start (l:List Nat):XRel l 0 [] none:=⟨trivial,by simp,.inl ⟨rfl,rfl,rfl⟩⟩
theorem XRel.first {l:List Nat} {v:Nat} {pre:List Bool} {win:Win} (h:XRel l 0 pre win) (hv:l[0]? = some v):XRel l 1 (pre++bitsOf v 64) win:=by
 obtain ⟨h1,h2,h3⟩:=h;rcases h3 with ⟨_,rfl,rfl⟩ | ⟨_,h,_⟩
 ·refine ⟨trivial,by simp [bitsOf_length],.inr ⟨v,by omega,hv,?_⟩⟩;cases l with
  | nil=>simp at hv
  | cons x l =>
   obtain rfl:x=v:=by simpa using hv
   rfl
 ·omega
theorem XRel.next {l:List Nat} {k v last:Nat} {pre:List Bool} {win:Win} (h:XRel l k pre win) (hk:0 < k) (hv:l[k]? = some v) (hl:l[k - 1]? = some last) (hv':v < 18446744073709551616) (hl':last < 18446744073709551616) :
  XRel l (k+1) (pre++(xstep last win v).1) (xstep last win v).2:=by
 obtain ⟨h1,h2,h3⟩:=h;have hlen:(xstep last win v).1.length≤78:=by
  unfold xstep;split
  ·simp
  ·exact xword_len6 _ _
 rcases h3 with ⟨h,_⟩ | ⟨last',_,h4,h5⟩
 ·omega
 ·obtain rfl:last'=last:=by rw [hl] at h4;exact (Option.some.inj h4).symm
  refine ⟨?_,by rw [List.length_append];omega,.inr ⟨v,by omega,by simpa using hv,?_⟩⟩
  ·unfold xstep;split
   ·exact h1
   ·rename_i h0
    have:=lz_tz h0 (xor_lt64 hv' hl');unfold xword;split
    ·split
     ·exact h1
     ·exact this
    ·exact this
  ·obtain ⟨hlt,e⟩:=List.getElem?_eq_some_iff.1 hv;rw [h5,List.append_assoc];congr 1
   rw [List.drop_eq_getElem_cons hlt,e];rfl
theorem XRel.done {l:List Nat} {pre:List Bool} {win:Win} (h:XRel l l.length pre win):xput l=pre:=by
 obtain ⟨_,_,h3⟩:=h;rcases h3 with ⟨h0,rfl,_⟩ | ⟨last,_,_,h5⟩
 ·rw [List.eq_nil_of_length_eq_zero h0];rfl
 ·rw [h5,List.drop_length];simp [xputF]
def AppR (w:World) (b:Nat) (A:Option Addr) (m:Nat) (bs X:List Bool) (e:Ending) (w':World):Prop :=
 ∃ b' A' c',e=.returned (.slice A' (m+X.length) c')∧Ow w' b' 4 1 A' (m+X.length) c' (cB (bs++X))∧(b'=b∨w.heap.size≤b')∧Kp b b w w'∧(A=none→Nw w w'∧(w.heap.size≤b'∨A'=none))
structure Bst (w:World) (b:Nat) (A:Option Addr) (m:Nat) (bs:List Bool) (wr:World) (bk:Nat) (Ak:Option Addr) (M ck:Nat) (X:List Bool):Prop where
 len:M=m+X.length
 ow:Ow wr bk 4 1 Ak M ck (cB (bs++X))
 at_:bk=b∨w.heap.size≤bk
 kp:Kp b b w wr
 nn:A=none→Nw w wr∧(w.heap.size≤bk∨Ak=none)
section
variable {w:World} {b:Nat} {A:Option Addr} {m c:Nat} {bs:List Bool} {wr:World} {bk:Nat} {Ak:Option Addr} {M ck:Nat} {X:List Bool}
theorem Bst.start (hO:Ow w b 4 1 A m c (cB bs)):Bst w b A m bs w b A m c [] :=
 ⟨rfl,by simpa using hO,.inl rfl,Kp.refl _ _ _,fun e=>⟨Nw.refl _,.inr e⟩⟩
theorem Bst.nw {w':World} (h:Bst w b A m bs wr bk Ak M ck X) (hN:Nw wr w'):Bst w b A m bs w' bk Ak M ck X :=
 ⟨h.len,h.ow.nw hN,h.at_,h.kp.nw' hN,fun e=>⟨(h.nn e).1.trans hN,(h.nn e).2⟩⟩
theorem Bst.step {w1:World} {b1:Nat} {A1:Option Addr} {M1 c1:Nat} {Y:List Bool} (h:Bst w b A m bs wr bk Ak M ck X) (h4:Ow w1 b1 4 1 A1 M1 c1 (cB (bs++X)++cB Y)) (hM:M1=M+Y.length) (h5:b1=bk∨wr.heap.size≤b1)
  (h6:Kp bk bk wr w1) (h6n:Ak=none→Nw wr w1∧(wr.heap.size≤b1∨A1=none)):Bst w b A m bs w1 b1 A1 M1 c1 (X++Y):=by
 have hs:=h.kp.size;have h1:=h.at_;refine ⟨by rw [hM,h.len,List.length_append,Nat.add_assoc],?_,by omega,h.kp.trans h6 (by omega) (by omega),nn_step h.nn h5 h6 h6n⟩;rw [← List.append_assoc];simpa using h4
theorem Bst.app {w1:World} {b1:Nat} {A1:Option Addr} {M1 c1:Nat} {Y:List Bool} (h:Bst w b A m bs wr bk Ak M ck X) (h4:Ow w1 b1 4 1 A1 M1 c1 (cB (bs++X)++cB Y)) (hM:M1=M+Y.length) (h5:b1=bk∨wr.heap.size≤b1)
  (h6:Kp bk bk wr w1) (h6n:Ak=none→Nw wr w1∧wr.heap.size≤b1):Bst w b A m bs w1 b1 A1 M1 c1 (X++Y) :=
 h.step h4 hM h5 h6 fun e=>⟨(h6n e).1,.inl (h6n e).2⟩
theorem Bst.write (h:Bst w b A m bs wr bk Ak M ck X) (XI NI:Int) (x n:Nat) (hX:XI=(x:Int)) (hN:NI=(n:Int)) (hn:n≤64) (hx:x < 18446744073709551616) (hs:M+n≤1099511627776) :
  Calls Tryz.prog 133 #[.slice Ak M ck,.int .u64 XI,.int .i64 NI] wr fun e w'=>∃ b' A' c',e=.returned (.slice A' (M+n) c')∧Bst w b A m bs w' b' A' (M+n) c' (X++bitsOf x n):=by
 refine (Write_int wr bk Ak M ck _ XI NI x n hX hN h.ow hn hx hs).mono ?_;rintro e w' ⟨b',A',c',rfl,h4,h5,h6,h7⟩;exact ⟨b',A',c',rfl,h.step (by simpa using h4) (by rw [bitsOf_length]) h5 h6 h7⟩
theorem Bst.done (h:Bst w b A m bs wr bk Ak M ck X):AppR w b A m bs X (.returned (.slice Ak M ck)) wr:=by
 obtain ⟨rfl,h2,h3,h4,h5⟩:=h;exact ⟨bk,Ak,ck,rfl,h2,h3,h4,h5⟩
end
theorem xword_new {win:Win} {x:Nat} (hf:¬ fits win x) :
  xword win x=([true,true]++bitsOf (lz x) 6++bitsOf (63 - lz x - tz x) 6++bitsOf (x / 2 ^ tz x) (64 - lz x - tz x),some (lz x,tz x)):=by
 unfold xword;split
 ·split
  ·rename_i h;exact absurd h hf
  ·rfl
 ·rfl
set_option maxRecDepth 100000 in
set_option maxHeartbeats 1600000 in
theorem RXPut_any (w:World) (b bl:Nat) (A Al:Option Addr) (m c n cl:Nat) (bs:List Bool) (l:List Nat) (hO:Ow w b 4 1 A m c (cB bs)) (hn:n=l.length) (hm:n≤10000) (hb:m≤1000000000) (hne:bl≠b)
  (hr:Rd w bl Al (cN .u64 l)) (hx:∀ x∈l,x < 18446744073709551616) :
  Calls Tryz.prog 130 #[.slice A m c,.slice Al n cl] w (AppR w b A m bs (xput l)):=by
 subst hn;have HO:=hid hO;have HR:=hid hr;have HX:=hid fun (k v:Nat) (h:l[k]? = some v)=>hx v (List.mem_of_getElem? h)
 clear hO hr hx;go_enter Tryz.func130,Tryz.ntmps130
 go_wp2;go_loopw [0,5,6,7] (fun s ld tr i wr=>∃ k:Nat,k≤l.length∧i=.int .i64 k∧∃ (pre:List Bool) (win:Win) (M bk:Nat) (Ak:Option Addr) (ck:Nat),s=.slice Ak M ck∧ld=.int .i64 (leadOf win)∧tr=.int .i64 (trailOf win) ∧
   Hid (Bst w b A m bs wr bk Ak M ck pre)∧Hid (XRel l k pre win)) (fun _ _ _ i _=>l.length - (intOf i).toNat)
 case atStart=>exact ⟨0,by omega,rfl,[],none,m,b,A,c,rfl,rfl,rfl,hid (Bst.start HO.out),hid (XRel.start l)⟩
 case round =>
  obtain ⟨k,hk,rfl,pre,win,M,bk,Ak,ck,rfl,rfl,rfl,HS,hrel⟩:=hrel;have hK:=HS.out.kp;have hsk:=hK.size;have hpl:pre.length≤780000:=by have:=hrel.out.2.1;omega
  have hMb:M≤m+780000:=by have:=HS.out.len;omega
  by_cases hlt:k < l.length
  ·have hRl:Rd wr bl Al (cN .u64 l):=HR.out.kp hK hne hne;have HRL:=hid hRl;obtain ⟨o,rfl,_,hc⟩:=hRl.get (k:=k) (by simpa using hlt);rw [List.getElem_map] at hc;have HV:=hid (List.getElem?_eq_getElem hlt);generalize l[k]=v at *;have hv:v < 18446744073709551616:=HX.out k v HV.out;clear hRl hK;by_cases hk0:k=0
   ·subst hk0;rw [Nat.add_zero] at hc;have i0:(0:Int) < (l.length:Int):=by omega
    go_wp2_with (go_at_call 133;refine (HS.out.write _ _ v 64 rfl rfl (by omega) hv (by omega)).mono ?_;rintro e w3 ⟨b3,A3,c3,rfl,h4⟩;have H4:=hid h4;clear h4)
    go_roundw
    case rel=>exact ⟨1,by omega,by go_num,_,win,_,b3,A3,c3,rfl,rfl,rfl,H4,hid (hrel.out.first HV.out)⟩
    case measure=>simp [intOf];omega
   ·obtain ⟨o',e',_,hcl⟩:=HRL.out.get (k:=k - 1) (by simp;omega);obtain rfl:o'=o:=by injection e' with e';injection e' with _ e' _;exact e'.symm
    rw [List.getElem_map] at hcl;have HL:=hid (List.getElem?_eq_getElem (l:=l) (i:=k - 1) (by omega));generalize l[k - 1]=last at *;have hl:last < 18446744073709551616:=HX.out _ last HL.out;have HN:=hid (hrel.out.next (by omega) HV.out HL.out hv hl);have hxor:=u64_xor_nat v last hv hl;have hxl:=xor_lt64 hv hl;have i0:(0:Int)≤(k:Int) - 1:=by omega
    have i1:(k:Int) - 1 < (l.length:Int):=by omega
    have i2:((k:Int) - 1).toNat=k - 1:=by omega
    have hk0':((k:Int) == 0)=false:=by rw [beq_eq_false_iff_ne];omega
    have HST:=hid (show xstep last win v=if v ^^^ last=0 then ([false],win) else xword win (v ^^^ last) from rfl);have HW:=hid hrel.out.1;generalize v ^^^ last=x at *;go_wp2_with fail;go_quiet (fail)
    generalize hwq:World.drewN wr _=wq;have HSq:=hid (show Bst w b A m bs wq bk Ak M ck pre from by rw [← hwq];exact HS.out.nw (Nw.drewN _ _));clear hwq hc hcl HS HRL;by_cases hx0:x=0
    ·subst hx0;have hst:=HST.out;rw [if_pos rfl] at hst;have hn:=HN.out;rw [hst] at hn;have HN2:=hid hn;clear hst HN HST hn;go_wp2_with (at_builtin;refine wpList_app1 E_bool rfl (.tmp 36) (.tmp 37) rfl rfl HSq.out.ow rfl rfl (by omega) (by omega) ?_;intro b3 A3 c3 w3 h4 h5 h6 h6n;have H4:=hid (HSq.out.app (Y:=[false]) h4 rfl h5 h6 h6n);clear h4 h5 h6 h6n)
     go_roundw
     case rel=>exact ⟨k+1,by omega,by go_num,_,win,_,b3,A3,c3,rfl,rfl,rfl,H4,HN2⟩
     case measure=>simp [intOf];omega
    ·have hst:=HST.out;rw [if_neg hx0] at hst;have hx0':((x:Int) == 0)=false:=by rw [beq_eq_false_iff_ne];omega
     have HZ:=hid fun W=>zeros_any W x hx0 hxl
     have hlt2:=lz_tz hx0 hxl;by_cases hf:fits win x
     ·obtain ⟨a,t,rfl⟩:∃ a t,win=some (a,t):=by
       cases win with
       | none=>exact hf.elim
       | some ab=>exact ⟨ab.1,ab.2,rfl⟩
      have hf1:a≤lz x:=hf.1;have hf2:t≤tz x:=hf.2;rw [show xword (some (a,t)) x=([true,false]++bitsOf (x / 2 ^ t) (64 - a - t),some (a,t)) from if_pos hf] at hst;have hn:=HN.out;rw [hst] at hn;have HN2:=hid hn;have hab:a+t≤63:=HW.out;clear hst HN HST hn hf;have hy:x / 2 ^ t≤x:=Nat.div_le_self _ _;generalize hyy:x / 2 ^ t=y at *;have HY:=hid hyy.symm;generalize lz x=p at *;generalize tz x=q at *;have g1:(a:Int)≤(p:Int):=by omega
      have g2:(t:Int)≤(q:Int):=by omega
      have g3:leadOf (some (a,t))=(a:Int):=rfl;have g4:trailOf (some (a,t))=(t:Int):=rfl;rw [g3,g4];clear hyy g3 g4;go_wp2_with (first
       | (go_at_call 174;refine (HZ.out _).mono ?_;rintro e w2 ⟨rfl,hN2⟩;have HS2:=hid (HSq.out.nw hN2);clear hN2)
       | (at_builtin;refine wpList_app2 E_bool rfl (.tmp 56) (.tmp 57) rfl rfl HS2.out.ow rfl rfl rfl (by omega) (by omega) ?_;intro b3 A3 c3 w3 h4 h5 h6 h6n;have HS3:=hid (HS2.out.app (Y:=[true,false]) h4 rfl h5 h6 h6n);clear h4 h5 h6 h6n)
       | (go_at_call 175;refine (inside_any _ x t y hxl (by omega) HY.out).mono ?_;rintro e w4 ⟨rfl,hw4⟩;subst hw4)
       | (go_at_call 133;refine (HS3.out.write _ _ y (64 - a - t) rfl (by omega) (by omega) (by omega) (by omega)).mono ?_;rintro e w5 ⟨b5,A5,c5,rfl,h5⟩;have HS5:=hid h5;clear h5))
      go_roundw
      case rel=>exact ⟨k+1,by omega,by go_num,_,some (a,t),_,b5,A5,c5,rfl,rfl,rfl,by rw [List.append_assoc] at HS5;exact HS5,HN2⟩
      case measure=>simp [intOf];omega
     ·rw [xword_new hf] at hst;have hn:=HN.out;rw [hst] at hn;have HN2:=hid hn;have hcase:win=none∨(∃ a t,win=some (a,t)∧lz x < a)∨∃ a t,win=some (a,t)∧a≤lz x∧tz x < t:=by
       cases win with
       | none=>exact .inl rfl
       | some ab =>
        by_cases h:ab.1≤lz x
        ·exact .inr (.inr ⟨ab.1,ab.2,rfl,h,by have:¬ ab.2≤tz x:=fun h'=>hf ⟨h,h'⟩;omega⟩)
        ·exact .inr (.inl ⟨ab.1,ab.2,rfl,by omega⟩)
      clear hst HN HST hn hf HW hrel;have hy:x / 2 ^ tz x≤x:=Nat.div_le_self _ _;have HYY:=hid (rfl:x / 2 ^ tz x=x / 2 ^ tz x);generalize hyy:x / 2 ^ tz x=y at *;have HY:=hid hyy.symm;clear HYY hyy;generalize lz x=p at *;generalize tz x=q at *;have e1:IntKind.u64.wrap (p:Int)=(p:Int):=IntWalk.u64_in _ (by omega);have e2:IntKind.u64.wrap (63 - (p:Int) - (q:Int))=((63 - p - q:Nat):Int):=by rw [IntWalk.u64_in _ (by omega)];omega
      have HW:∃ ld tr:Int,leadOf win=ld∧trailOf win=tr∧(ld = -1∨(0≤ld∧(decide (ld≤(p:Int))=false))∨(0≤ld∧ld≤(p:Int)∧decide (tr≤(q:Int))=false)):=by
       rcases hcase with rfl | ⟨a,t,rfl,h⟩ | ⟨a,t,rfl,h,h'⟩
       ·exact ⟨_,_,rfl,rfl,.inl rfl⟩
       ·exact ⟨_,_,rfl,rfl,.inr (.inl ⟨Int.natCast_nonneg _,by rw [decide_eq_false_iff_not];show ¬ (a:Int)≤_;omega⟩)⟩
       ·exact ⟨_,_,rfl,rfl,.inr (.inr ⟨Int.natCast_nonneg _,by show (a:Int)≤_;omega,by rw [decide_eq_false_iff_not];show ¬ (t:Int)≤_;omega⟩)⟩
      obtain ⟨ld,tr,g3,g4,hW⟩:=HW;rw [g3,g4];clear g3 g4 hcase;rcases hW with rfl | ⟨g0,g1⟩ | ⟨g0,g1,g2⟩
      all_goals
       go_wp2_with (first
        | (go_at_call 174;refine (HZ.out _).mono ?_;rintro e w2 ⟨rfl,hN2⟩;have HS2:=hid (HSq.out.nw hN2);clear hN2)
        | (at_builtin;refine wpList_app2 E_bool rfl (.tmp 61) (.tmp 62) rfl rfl HS2.out.ow rfl rfl rfl (by omega) (by omega) ?_;intro b3 A3 c3 w3 h4 h5 h6 h6n;have HS3:=hid (HS2.out.app (Y:=[true,true]) h4 rfl h5 h6 h6n);clear h4 h5 h6 h6n HS2)
        | (go_at_call 175;refine (inside_any _ x q y hxl (by omega) HY.out).mono ?_;rintro e w6 ⟨rfl,hw6⟩;subst hw6)
        | (go_at_call 133;refine (HS5.out.write _ _ y (64 - p - q) rfl (by omega) (by omega) (by omega) (by omega)).mono ?_;rintro e w7 ⟨b7,A7,c7,rfl,h5⟩;have HS7:=hid h5;clear h5)
        | (go_at_call 133;refine (HS4.out.write _ _ (63 - p - q) 6 rfl rfl (by omega) (by omega) (by omega)).mono ?_;rintro e w5 ⟨b5,A5,c5,rfl,h5⟩;have HS5:=hid h5;clear h5)
        | (go_at_call 133;refine (HS3.out.write _ _ p 6 rfl rfl (by omega) (by omega) (by omega)).mono ?_;rintro e w4 ⟨b4,A4,c4,rfl,h5⟩;have HS4:=hid h5;clear h5))
       go_roundw
       case rel=>exact ⟨k+1,by omega,by go_num,_,some (p,q),_,b7,A7,c7,rfl,rfl,rfl,by simp only [List.append_assoc] at HS7;exact HS7,by simp only [List.append_assoc] at HN2;exact HN2⟩
       case measure=>simp [intOf];omega
  ·obtain rfl:k=l.length:=by omega
   have hp:=hrel.out.done;go_wp2;go_ret;rw [hp];exact HS.out.done
end
section
open Go Go.RowKit
def bump (rs:List (Nat × Nat)) (x:Nat):List (Nat × Nat) :=
 match rs.getLast? with
 | some r=>if x=r.1∧r.2 < 128 then rs.dropLast++[(r.1,r.2+1)] else rs++[(x,1)]
 | none=>[(x,1)]
theorem runF_ne:∀ (l:List Nat) (v c:Nat),runF v c l≠[]:=by
 intro l;induction l with
 | nil=>intro v c;simp [runF]
 | cons x l ih=>intro v c;unfold runF;split;exact ih _ _;simp
theorem bump_cons (r:Nat × Nat) (rs:List (Nat × Nat)) (x:Nat) (h:rs≠[]):bump (r::rs) x=r::bump rs x:=by
 cases rs with
 | nil=>exact (h rfl).elim
 | cons a rs =>
  unfold bump;rw [List.getLast?_cons_cons];cases h2:(a::rs).getLast? with
  | none=>simp at h2
  | some q=>simp only [];split<;>simp
theorem runF_snoc:∀ (l:List Nat) (v c x:Nat),runF v c (l++[x])=bump (runF v c l) x:=by
 intro l;induction l with
 | nil =>
  intro v c x;simp only [List.nil_append,runF,bump,List.getLast?_singleton];split<;>simp
 | cons y l ih =>
  intro v c x;rw [List.cons_append];simp only [runF];split
  ·exact ih _ _ _
  ·rw [bump_cons _ _ _ (runF_ne _ _ _),ih]
theorem runs_snoc (l:List Nat) (x:Nat):runs (l++[x])=bump (runs l) x:=by
 cases l with
 | nil=>simp [runs,runF,bump]
 | cons v l=>exact runF_snoc l v 1 x
theorem runF_len:∀ (l:List Nat) (v c:Nat),(runF v c l).length≤l.length+1:=by
 intro l;induction l with
 | nil=>intro v c;simp [runF]
 | cons x l ih =>
  intro v c;unfold runF;split
  ·have:=ih v (c+1);simp;omega
  ·have:=ih x 1;simp;omega
theorem runs_len (l:List Nat):(runs l).length≤l.length:=by
 cases l with
 | nil=>simp [runs]
 | cons v l=>have:=runF_len l v 1;simpa [runs] using this
theorem runF_count:∀ (l:List Nat) (v c:Nat),1≤c→c≤128→∀ r∈runF v c l,1≤r.2∧r.2≤128:=by
 intro l;induction l with
 | nil=>intro v c h1 h2 r hr;simp [runF] at hr;subst hr;exact ⟨h1,h2⟩
 | cons x l ih =>
  intro v c h1 h2 r hr;unfold runF at hr;split at hr
  ·exact ih v (c+1) (by omega) (by omega) r hr
  ·rcases List.mem_cons.1 hr with rfl | hr
   ·exact ⟨h1,h2⟩
   ·exact ih x 1 (by omega) (by omega) r hr
theorem runs_count (l:List Nat):∀ r∈runs l,1≤r.2∧r.2≤128:=by
 cases l with
 | nil=>intro r hr;simp [runs] at hr
 | cons v l=>exact runF_count l v 1 (by omega) (by omega)
theorem runF_val:∀ (l:List Nat) (v c:Nat),∀ r∈runF v c l,r.1=v∨r.1∈l:=by
 intro l;induction l with
 | nil=>intro v c r hr;simp [runF] at hr;subst hr;exact .inl rfl
 | cons x l ih =>
  intro v c r hr;unfold runF at hr;split at hr
  ·rcases ih v (c+1) r hr with h | h
   ·exact .inl h
   ·exact .inr (List.mem_cons_of_mem _ h)
  ·rcases List.mem_cons.1 hr with rfl | hr
   ·exact .inl rfl
   ·rcases ih x 1 r hr with h | h
    ·exact .inr (by rw [h];exact List.mem_cons_self)
    ·exact .inr (List.mem_cons_of_mem _ h)
theorem runs_val (l:List Nat):∀ r∈runs l,r.1∈l:=by
 cases l with
 | nil=>intro r hr;simp [runs] at hr
 | cons v l =>
  intro r hr;rcases runF_val l v 1 r hr with h | h
  ·rw [h];exact List.mem_cons_self
  ·exact List.mem_cons_of_mem _ h
theorem E_int:ElemT Tryz.prog 58 3 (.int .i64 0) 1 8:=ElemT.mk' Tryz.underlying58 (by kernel_rfl) rfl (by omega)
def Spl (w wr:World) (rs:List (Nat × Nat)) (b1:Nat) (A1:Option Addr) (c1:Nat) (b2:Nat) (A2:Option Addr) (c2:Nat):Prop :=
 Ow wr b1 92 1 A1 rs.length c1 (cN .u64 (rs.map (·.1)))∧Ow wr b2 3 1 A2 rs.length c2 (cN .i64 (rs.map (·.2)))∧(rs=[]→A1=none∧c1=0∧A2=none∧c2=0)∧(rs≠[]→w.heap.size≤b1∧w.heap.size≤b2∧b1≠b2)∧Nw w wr
theorem last_get {α:Type} {rs:List α} {r:α} (h:rs.getLast? = some r):0 < rs.length∧rs[rs.length - 1]? = some r:=by
 have:rs≠[]:=by rintro rfl;simp at h
 exact ⟨List.length_pos_iff.2 this,by rw [← h,List.getLast?_eq_getElem?]⟩
theorem bump_yes {rs:List (Nat × Nat)} {v c:Nat} (h:rs.getLast? = some (v,c)) (hc:c < 128):bump rs v=rs.dropLast++[(v,c+1)]:=by
 unfold bump;rw [h];simp [hc]
theorem bump_no {rs:List (Nat × Nat)} {x:Nat} (h:∀ v c,rs.getLast? = some (v,c)→¬ (x=v∧c < 128)):bump rs x=rs++[(x,1)]:=by
 unfold bump;cases e:rs.getLast? with
 | none=>rw [List.getLast?_eq_none_iff.1 e];rfl
 | some r=>simp only [];rw [if_neg (h r.1 r.2 e)]
theorem set_last {α:Type} (rs:List α) (a:α) (h:0 < rs.length):rs.set (rs.length - 1) a=rs.dropLast++[a]:=by
 have hne:rs≠[]:=List.length_pos_iff.1 h;obtain ⟨d,z,rfl⟩:∃ d z,rs=d++[z]:=⟨_,_,(List.dropLast_concat_getLast hne).symm⟩;simp
theorem set_fst {rs:List (Nat × Nat)} {v c:Nat} (h:rs.getLast? = some (v,c)) (d:Nat):(rs.set (rs.length - 1) (v,d)).map (·.1)=rs.map (·.1):=by
 have hne:rs≠[]:=by rintro rfl;simp at h
 obtain ⟨e,z,rfl⟩:∃ e z,rs=e++[z]:=⟨_,_,(List.dropLast_concat_getLast hne).symm⟩;obtain rfl:z=(v,c):=by simpa using h
 simp
set_option maxRecDepth 100000 in
set_option maxHeartbeats 1600000 in
theorem RSplit_any (w:World) (bl:Nat) (Al:Option Addr) (n cl:Nat) (l:List Nat) (hn:n=l.length) (hm:n≤10000) (hr:Rd w bl Al (cN .u64 l)) (hx:∀ x∈l,x < 18446744073709551616) :
  Calls Tryz.prog 176 #[.slice Al n cl] w fun e w'=>∃ b1 A1 c1 b2 A2 c2,e=.returned (.tuple #[.slice A1 (runs l).length c1,.slice A2 (runs l).length c2])∧Spl w w' (runs l) b1 A1 c1 b2 A2 c2:=by
 subst hn;have HR:=hid hr;have HX:=hid fun (k v:Nat) (h:l[k]? = some v)=>hx v (List.mem_of_getElem? h)
 clear hr hx;go_enter Tryz.func176,Tryz.ntmps176
 go_wp2;go_loopw [4,5,6] (fun s u i wr=>∃ k:Nat,k≤l.length∧i=.int .i64 k∧∃ (rs:List (Nat × Nat)) (b1:Nat) (A1:Option Addr) (c1 b2:Nat) (A2:Option Addr) (c2:Nat),s=.slice A1 rs.length c1∧u=.slice A2 rs.length c2∧Spl w wr rs b1 A1 c1 b2 A2 c2∧Hid (rs=runs (l.take k))) (fun _ _ i _=>l.length - (intOf i).toNat)
 case atStart=>exact ⟨0,by omega,rfl,[],w.heap.size,none,0,w.heap.size,none,0,rfl,rfl,⟨Ow.nil _ _ _ _,Ow.nil _ _ _ _,fun _=>⟨rfl,rfl,rfl,rfl⟩,by simp,Nw.refl w⟩,hid (by simp [runs])⟩
 case round =>
  obtain ⟨k,hk,rfl,rs,b1,A1,c1,b2,A2,c2,rfl,rfl,hS,hrs⟩:=hrel;by_cases hlt:k < l.length
  ·obtain ⟨hO1,hO2,hnil,hb12,hN⟩:=hS;have hsz:=hN.size;have hlen:rs.length≤k:=by
    have:=runs_len (l.take k);rw [← hrs.out,List.length_take] at this;omega
   obtain ⟨o,rfl,_,hc⟩:=(HR.out.nw hN).get (k:=k) (by simpa using hlt);rw [List.getElem_map] at hc;have HV:=hid (List.getElem?_eq_getElem hlt);have HNX:=hid (show runs (l.take (k+1))=bump rs l[k] from by rw [List.take_succ_eq_append_getElem hlt,runs_snoc,hrs.out]);have HR1:=hid (show ∀ wz,Nw wr wz→wz.cell? ⟨bl,o+k,none⟩=some (.int .u64 (l[k]:Int)) from fun wz h=>cell_old h (by have:=hN.size;omega) hc);generalize l[k]=x at *;have hxx:x < 18446744073709551616:=HX.out k x HV.out;cases hlast:rs.getLast? with
   | none =>
    have hrs0:rs=[]:=List.getLast?_eq_none_iff.1 hlast;subst hrs0;have hnx:runs (l.take (k+1))=[(x,1)]:=HNX.out;have HNX2:=hid hnx.symm;obtain ⟨rfl,rfl,rfl,rfl⟩:=hnil rfl;clear hlast hO1 hO2 hnx HNX hrs hb12;go_wp2_with fail;refine wp_region_quiet_lit (by kernel_rfl) (by kernel_rfl) ?_
    repeat (with_reducible refine wpQuiet_step ?_;intro K hK;go_simp;refine hK _ ?_;clear hK K)
    with_reducible refine wpQuiet_nil ?_
    rintro _ ⟨nq,rfl⟩;have hc':=HR1.out _ (Nw.drewN wr nq);have hNq:=hN.trans (Nw.drewN wr nq);generalize World.drewN wr nq=wq at *;clear hc hN;go_wp2_with (first
     | (at_builtin;refine wpList_app1 E_u64 rfl (.tmp 43) (.tmp 48) rfl rfl (Ow.nil wq wq.heap.size _ _) rfl rfl (by omega) (by omega) ?_;intro b3 A3 c3 w3 h1 h2 h3 h4)
     | (at_builtin;refine wpList_app1 E_int rfl (.tmp 50) (.tmp 51) rfl rfl (Ow.nil w3 w3.heap.size _ _) rfl rfl (by omega) (by omega) ?_;intro b4 A4 c4 w4 h5 h6 h7 h8))
    go_roundw
    case rel =>
     have hn3:=(h4 rfl).1;have hn4:=(h8 rfl).1;have hl3:b3 < w3.heap.size:=h1.lt (by omega);have hs:=hNq.size;have:=(h4 rfl).2;have:=(h8 rfl).2;have:=hn3.size;exact ⟨k+1,by omega,by go_num,[(x,1)],b3,A3,c3,b4,A4,c4,rfl,rfl,⟨h1.nw hn4,h5,by simp,fun _=>⟨by omega,by omega,by omega⟩,(hNq.trans hn3).trans hn4⟩,HNX2⟩
    case measure=>simp [intOf];omega
   | some r =>
    obtain ⟨v,c⟩:=r;obtain ⟨hl0,hlg⟩:=last_get hlast;have hne:rs≠[]:=List.length_pos_iff.1 hl0;obtain ⟨hb1,hb2,hbb⟩:=hb12 hne;obtain ⟨rfl,hb1w,hc1,_⟩:=hO1.at_ (j:=rs.length - 1) (by omega);obtain ⟨rfl,hb2w,hc2,hf2⟩:=hO2.at_ (j:=rs.length - 1) (by omega);rw [List.getElem?_map,List.getElem?_map,hlg] at hc1 hc2;simp only [Option.map_some] at hc1 hc2;have HO1:=hid hO1;have HO2:=hid hO2;have HNE:=hid hne;have HGL:=hid hlast;have i0:(0:Int)≤(rs.length:Int) - 1:=by omega
    have i1:(rs.length:Int) - 1 < (rs.length:Int):=by omega
    have i2:((rs.length:Int) - 1).toNat=rs.length - 1:=by omega
    have i3:(1:Int)≤(rs.length:Int):=by omega
    have i4:decide ((1:Int)≤(rs.length:Int))=true:=by simp;omega
    have hcnt:c≤128:=by
     have h:=runs_count (l.take k) (v,c) (by rw [← hrs.out];exact List.mem_of_getElem? hlg);exact h.2
    have HGG:=hid hlg;clear hnil hb12 hlast hlg hne hO1 hO2 hf2;by_cases hvx:v=x
    ·subst hvx;have hvv:((v:Int) == (v:Int))=true:=by simp
     by_cases hlt2:c < 128
     ·have hcI:(c:Int) < 128:=by omega
      have hcd:decide ((c:Int) < 128)=true:=by simp;omega
      have HNX2:=hid (show rs.set (rs.length - 1) (v,c+1)=runs (l.take (k+1)) from by rw [HNX.out,bump_yes HGL.out hlt2,set_last _ _ hl0]);go_wp2_with fail;go_quiet (fail)
      have hNd:=Nw.drewN wr nq;have HW1:=hid (HO1.out.nw hNd);have HW2:=hid (HO2.out.nw hNd);have HNN:=hid (hN.trans hNd);obtain ⟨_,_,hc2',hf2'⟩:=HW2.out.at_ (j:=rs.length - 1) (by omega);rw [List.getElem?_map,List.getElem?_map,HGG.out] at hc2';simp only [Option.map_some] at hc2';clear hc hc1 hc2 hN;generalize World.drewN wr nq=wq at *;clear hNd;go_wp2_with fail;go_roundw
      case rel =>
       have hrl:rs.length=(rs.set (rs.length - 1) (v,c+1)).length:=by simp
       have k1:Kp b2 b2 wq (wq.setCell ⟨b2,rs.length - 1,none⟩ (.int .i64 ((c:Int)+1))):=(Kp.refl b2 b2 wq).setCell' (.inl rfl) _;refine ⟨k+1,by omega,by go_num,rs.set (rs.length - 1) (v,c+1),b1,_,c1,b2,_,c2,by rw [← hrl],by rw [← hrl],⟨?_,?_,?_,fun _=>⟨hb1,hb2,hbb⟩,Kp.nw HNN.out k1 hb2 hb2⟩,HNX2⟩
       ·have h:=HW1.out.kp k1 hbb hbb;rw [← hrl];rw [set_fst HGL.out];exact h
       ·have h:=HW2.out.set_ (rs.length - 1) (.int .i64 ((c:Int)+1));rw [← hrl,List.map_set];unfold cN;rw [List.map_set];exact h
       ·intro h;exact absurd ((List.set_eq_nil_iff _ _).1 h) HNE.out
      case measure=>simp [intOf];omega
     ·have hcd:decide ((c:Int) < 128)=false:=by simp;omega
      have HNX2:=hid (show rs++[(v,1)]=runs (l.take (k+1)) from by rw [HNX.out,bump_no (by intro v' c' e h;rw [HGL.out] at e;injection e with e;injection e with e1 e2;omega)]);go_wp2_with fail;refine wp_region_quiet_lit (by kernel_rfl) (by kernel_rfl) ?_
      repeat (with_reducible refine wpQuiet_step ?_;intro K hK;go_simp;refine hK _ ?_;clear hK K)
      with_reducible refine wpQuiet_nil ?_
      rintro _ ⟨nq,rfl⟩;have hNd:=Nw.drewN wr nq;have HW1:=hid (HO1.out.nw hNd);have HW2:=hid (HO2.out.nw hNd);have HNN:=hid (hN.trans hNd);have hc':=HR1.out _ hNd;have hsw:=hNd.size;have hsn:=HNN.out.size;clear hc hc1 hc2 hN;generalize World.drewN wr nq=wq at *;clear hNd;go_wp2_with (first
       | (at_builtin;refine wpList_app1 E_u64 rfl (.tmp 43) (.tmp 48) rfl rfl HW1.out rfl rfl (by omega) (by omega) ?_;intro b3 A3 c3 w3 h1 h2 h3 h4;have HW3:=hid (HW2.out.kp h3 (Ne.symm hbb) (Ne.symm hbb)))
       | (at_builtin;refine wpList_app1 E_int rfl (.tmp 50) (.tmp 51) rfl rfl HW3.out rfl rfl (by omega) (by omega) ?_;intro b4 A4 c4 w4 h5 h6 h7 h8))
      go_roundw
      case rel =>
       have hl3:b3 < w3.heap.size:=h1.lt (by omega);have hs3:=h3.size;refine ⟨k+1,by omega,by go_num,rs++[(v,1)],b3,A3,c3,b4,A4,c4,by rw [List.length_append];rfl,by rw [List.length_append];rfl,⟨?_,?_,by simp,fun _=>⟨by omega,by omega,by omega⟩,Kp.nw (Kp.nw HNN.out h3 hb1 hb1) h7 hb2 hb2⟩,HNX2⟩
       ·have h:=h1.kp h7 (by omega) (by omega);rw [List.length_append,List.map_append];simpa using h
       ·rw [List.length_append,List.map_append];simpa using h5
      case measure=>simp [intOf];omega
    ·have hvv:((v:Int) == (x:Int))=false:=by rw [beq_eq_false_iff_ne];omega
     have HNX2:=hid (show rs++[(x,1)]=runs (l.take (k+1)) from by rw [HNX.out,bump_no (by intro v' c' e h;rw [HGL.out] at e;injection e with e;injection e with e1 e2;omega)]);go_wp2_with fail;refine wp_region_quiet_lit (by kernel_rfl) (by kernel_rfl) ?_
     repeat (with_reducible refine wpQuiet_step ?_;intro K hK;go_simp;refine hK _ ?_;clear hK K)
     with_reducible refine wpQuiet_nil ?_
     rintro _ ⟨nq,rfl⟩;have hNd:=Nw.drewN wr nq;have HW1:=hid (HO1.out.nw hNd);have HW2:=hid (HO2.out.nw hNd);have HNN:=hid (hN.trans hNd);have hc':=HR1.out _ hNd;have hsw:=hNd.size;have hsn:=HNN.out.size;clear hc hc1 hc2 hN;generalize World.drewN wr nq=wq at *;clear hNd;go_wp2_with (first
      | (at_builtin;refine wpList_app1 E_u64 rfl (.tmp 43) (.tmp 48) rfl rfl HW1.out rfl rfl (by omega) (by omega) ?_;intro b3 A3 c3 w3 h1 h2 h3 h4;have HW3:=hid (HW2.out.kp h3 (Ne.symm hbb) (Ne.symm hbb)))
      | (at_builtin;refine wpList_app1 E_int rfl (.tmp 50) (.tmp 51) rfl rfl HW3.out rfl rfl (by omega) (by omega) ?_;intro b4 A4 c4 w4 h5 h6 h7 h8))
     go_roundw
     case rel =>
      have hl3:b3 < w3.heap.size:=h1.lt (by omega);have hs3:=h3.size;refine ⟨k+1,by omega,by go_num,rs++[(x,1)],b3,A3,c3,b4,A4,c4,by rw [List.length_append];rfl,by rw [List.length_append];rfl,⟨?_,?_,by simp,fun _=>⟨by omega,by omega,by omega⟩,Kp.nw (Kp.nw HNN.out h3 hb1 hb1) h7 hb2 hb2⟩,HNX2⟩
      ·have h:=h1.kp h7 (by omega) (by omega);rw [List.length_append,List.map_append];simpa using h
      ·rw [List.length_append,List.map_append];simpa using h5
     case measure=>simp [intOf];omega
  ·obtain rfl:k=l.length:=by omega
   go_wp2;go_ret2;obtain rfl:rs=runs l:=by rw [hrs.out,List.take_length]
   exact ⟨b1,A1,c1,b2,A2,c2,rfl,hS⟩
theorem rbits_take {rs:List (Nat × Nat)} {k:Nat} {r:Nat × Nat} (h:rs[k]? = some r):(rs.take (k+1)).flatMap rbits=(rs.take k).flatMap rbits++(bitsOf r.1 64++bitsOf (r.2 - 1) 7):=by
 obtain ⟨hlt,rfl⟩:=List.getElem?_eq_some_iff.1 h;rw [List.take_succ_eq_append_getElem hlt,List.flatMap_append];simp [rbits]
set_option maxRecDepth 100000 in
set_option maxHeartbeats 1600000 in
theorem RRPut_any (w:World) (b bl:Nat) (A Al:Option Addr) (m c n cl:Nat) (bs:List Bool) (l:List Nat) (hO:Ow w b 4 1 A m c (cB bs)) (hn:n=l.length) (hm:n≤10000) (hb:m≤1000000000) (hbw:b < w.heap.size)
  (hr:Rd w bl Al (cN .u64 l)) (hx:∀ x∈l,x < 18446744073709551616) :
  Calls Tryz.prog 131 #[.slice A m c,.slice Al n cl] w (AppR w b A m bs (rput l)):=by
 have HO:=hid hO;have HSp:=hid (RSplit_any w bl Al n cl l hn hm hr hx);have hlen:=runs_len l;have HC:=hid fun (k:Nat) (r:Nat × Nat) (h:(runs l)[k]? = some r)=>runs_count l r (List.mem_of_getElem? h)
 have HV:=hid fun (k:Nat) (r:Nat × Nat) (h:(runs l)[k]? = some r)=>hx r.1 (runs_val l r (List.mem_of_getElem? h))
 have HRP:=hid (show rput l=(runs l).flatMap rbits from rfl);generalize rput l=R at *;generalize runs l=rs at *;subst hn;have hlen2:rs.length≤10000:=by omega
 clear hO hr hx hlen;go_enter Tryz.func131,Tryz.ntmps131
 go_wp2_with (go_at_call 176;refine HSp.out.mono ?_;rintro e w1 ⟨b1,A1,c1,b2,A2,c2,rfl,hSp⟩)
 have HS:=hid hSp;have HSt:=hid ((Bst.start HO.out).nw hSp.2.2.2.2);clear hSp;go_loopw [0,7] (fun s i wr=>∃ k:Nat,k≤rs.length∧i=.int .i64 k∧∃ (M bk:Nat) (Ak:Option Addr) (ck:Nat),s=.slice Ak M ck∧Hid (Bst w1 b A m bs wr bk Ak M ck ((rs.take k).flatMap rbits))) (fun _ i _=>rs.length - (intOf i).toNat)
 case atStart=>exact ⟨0,by omega,rfl,m,b,A,c,rfl,hid (Bst.start (HO.out.nw HS.out.2.2.2.2))⟩
 case round =>
  obtain ⟨k,hk,rfl,M,bk,Ak,ck,rfl,HT⟩:=hrel;have hfl:((rs.take k).flatMap rbits).length≤71*10000:=by
   have:∀ q:List (Nat × Nat),(q.flatMap rbits).length=71*q.length:=by
    intro q;induction q with
    | nil=>rfl
    | cons a q ih=>rw [List.flatMap_cons,List.length_append,ih];simp [rbits,bitsOf_length];omega
   rw [this,List.length_take];omega
  have hMb:M≤m+710000:=by have:=HT.out.len;omega
  clear hfl;have hs1:=HS.out.2.2.2.2.size;have hsk:=HT.out.kp.size;by_cases hlt:k < rs.length
  ·have hne:rs≠[]:=by rintro rfl;simp at hlt
   obtain ⟨hb1,hb2,hbb⟩:=HS.out.2.2.2.1 hne;have hl1:=HS.out.1.lt (by omega);have hl2:=HS.out.2.1.lt (by omega);have hk1:=HT.out.kp;have HG:=hid (List.getElem?_eq_getElem hlt);obtain ⟨o1,rfl,_,hc1⟩:=(HS.out.1.rd.kp hk1 (by omega) (by omega)).get (k:=k) (by simpa using hlt);obtain ⟨o2,e2,_,hc2⟩:=HS.out.2.1.rd.get (k:=k) (by simpa using hlt);subst e2;simp only [List.getElem_map] at hc1 hc2;generalize hr:rs[k]=r at *;obtain ⟨v,q⟩:=r;simp only [] at hc1 hc2;have hq:=HC.out k _ HG.out;have hv:v < 18446744073709551616:=HV.out k _ HG.out;simp only [] at hq;have HF:=hid (rbits_take HG.out);have e1:IntKind.u64.wrap ((q:Int) - 1)=((q - 1:Nat):Int):=by rw [IntWalk.u64_in _ (by omega)];omega
   have HC2:=hid fun (wz:World) (h:Kp b b w1 wz)=>(World.cell?_of_block (a:=⟨b2,o2+k,none⟩) (h.block b2 hl2 (by omega) (by omega))).trans hc2
   clear hc2 hk1;clear hr hne;go_wp2_with (first
    | (go_at_call 133;refine (HT3.out.write _ _ (q - 1) 7 rfl rfl (by omega) (by omega) (by omega)).mono ?_;rintro e w4 ⟨b4,A4,c4,rfl,h4⟩;have HT4:=hid h4;clear h4)
    | (go_at_call 133;refine (HT.out.write _ _ v 64 rfl rfl (by omega) hv (by omega)).mono ?_;rintro e w3 ⟨b3,A3,c3,rfl,h4⟩;have HT3:=hid h4;have hc2:=HC2.out _ h4.kp;clear h4))
   go_roundw
   case rel=>exact ⟨k+1,Nat.succ_le_of_lt hlt,by go_num,_,b4,A4,c4,rfl,by rw [HF.out,← List.append_assoc];exact HT4⟩
   case measure=>simp [intOf];omega
  ·obtain rfl:k=rs.length:=by omega
   go_wp2;go_ret;have h:=HT.out;rw [List.take_length,← HRP.out] at h;obtain ⟨b',A',c',h1,h2,h3,h4,h5⟩:=h.done;exact ⟨b',A',c',h1,h2,by omega,(HS.out.2.2.2.2.kp b b).trans h4 (.inl rfl) (.inl rfl),fun e=>⟨HS.out.2.2.2.2.trans (h5 e).1,by rcases (h5 e).2 with h | h;exact .inl (by omega);exact .inr h⟩⟩
end
end Go.Proofs.YtobfpajapgakdaaGreatDoor
