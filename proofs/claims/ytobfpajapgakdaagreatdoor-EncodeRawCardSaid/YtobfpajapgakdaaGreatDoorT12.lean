/- Laws that the last text builds on. -/
import Derived.Test.YtobfpajapgakdaaGreatDoorT11
namespace Go.Proofs.YtobfpajapgakdaaGreatDoor
open Go.Lib(hid)
section
open Go Go.RowKit Go.Lib Go.Sort Go.Shelf
attribute [local go_sem] Oper.semAt_some
theorem E_recR:ElemT Tryz.prog 41 73 (.agg #[.slice none 0 0,.slice none 0 0]) 2 48:=ElemT.mk' Tryz.underlying41 (by kernel_rfl) rfl (by omega)
theorem results_c1 {P:Program} {fn:Func} {p:Tmp} {t1:TypeId} {u:Value} (h:fn.results=#[.cell p t1]) (tmps:Array Value) (w:World) (a:Addr) (hp:tmps.getD p undef=.pointer (some a))
  (h1:(loadVar t1 a).run P w=.ok u w):(results fn tmps).run P w=.ok u w:=by
 simp only [Array.getD_eq_getD_getElem?] at hp;simp only [results,h];simp [asAddr,hp,h1]
theorem run_load4R {W:World} {g:Nat} {a b c d:Value} {t:TypeId} (h:W.heap[g]? = some (.cells #[a,b,c,d] t (0,0))):(loadVar 33 ⟨g,0,none⟩).run Tryz.prog W=.ok (.agg #[a,b,c,d]) W:=by
 have c0:W.cell? ⟨g,0,none⟩=some a:=cell_at (k:=0) h;have c1:W.cell? ⟨g,1,none⟩=some b:=cell_at (k:=1) h;have c2:W.cell? ⟨g,2,none⟩=some c:=cell_at (k:=2) h;have c3:W.cell? ⟨g,3,none⟩=some d:=cell_at (k:=3) h;simp [loadVar,loadCells,loadCellsFrom,go_sem,c0,c1,c2,c3]
def DatR (w W:World) (S:Nat) (dat:List Nat):Prop :=
 ∃ (bd:Nat) (Ad:Option Addr) (cd:Nat),W.heap[S]? = some (.cells #[nilS,nilS,.slice Ad dat.length cd,nilS] 33 (0,0))∧Ow W bd 5 1 Ad dat.length cd (cN .u8 dat)∧(Ad=none∨w.heap.size≤bd)
theorem KtyL.kp {T:List TypeId} {a b c:World} {g:Nat} (h:KtyL T a b) (hk:Kp g g b c) (hg:a.heap.size≤g):KtyL T a c :=
 ⟨fun k o ho hne=>(hk.block k (Nat.lt_of_lt_of_le (lt_of_block ho) h.2) (by have:=lt_of_block ho;omega) (by have:=lt_of_block ho;omega)).trans (h.1 k o ho hne),Nat.le_trans h.2 hk.size⟩
theorem Ow.ktl {T:List TypeId} {A C:World} {b n c:Nat} {e:TypeId} {size:Nat} {P:Option Addr} {xs:List Value} (h:Ow A b e size P n c xs) (hk:KtyL T A C) (he:e ∉ T):Ow C b e size P n c xs :=
 h.keepT (fun _ _ _ hh _=>hk.get hh he) hk.2
theorem DatR.ktl {T:List TypeId} {w W W':World} {S:Nat} {dat:List Nat} (h:DatR w W S dat) (hk:KtyL T W W') (h1:33 ∉ T) (h2:5 ∉ T):DatR w W' S dat:=by
 obtain ⟨bd,Ad,cd,q1,q2,q3⟩:=h;exact ⟨bd,Ad,cd,hk.get q1 h1,q2.ktl hk h2,q3⟩
structure RecsR (w W:World) (l:List Ser) (i bl:Nat) (Al:Option Addr) (cl:Nat) (rows:List RecS):Prop where
 ow:Ow W bl 73 2 Al i cl (cRec rows)
 len:rows.length=i
 val:rows.map valR=((l.map valB).take i).map recV
 lab:∀ r∈rows,Rd w r.bl r.al (cL r.labs)
 chk:∀ r∈rows,Ow W r.bc 3 1 r.ac r.chks.length r.cc (cN .i64 r.chks)
 new:Al=none∨w.heap.size≤bl
theorem RecsR.ktl {T:List TypeId} {w W W':World} {l:List Ser} {i bl cl:Nat} {Al:Option Addr} {rows:List RecS} (h:RecsR w W l i bl Al cl rows) (hk:KtyL T W W') (h1:73 ∉ T) (h2:3 ∉ T):RecsR w W' l i bl Al cl rows :=
 ⟨h.ow.ktl hk h1,h.len,h.val,h.lab,fun r hr=>(h.chk r hr).ktl hk h2,h.new⟩
theorem cS_drop:∀ (zs:List Smpl) (k:Nat),cS (zs.drop k)=(cS zs).drop (k*2)
 | zs,0=>by simp
 | [],k+1=>by simp [cS,c2]
 | z::zs,k+1=>by
  rw [List.drop_succ_cons,cS_drop zs k,show (k+1)*2=k*2+1+1 by omega];rfl
theorem cS_take:∀ (zs:List Smpl) (k:Nat),cS (zs.take k)=(cS zs).take (k*2)
 | zs,0=>by simp [cS,c2]
 | [],k+1=>by simp [cS,c2]
 | z::zs,k+1=>by
  rw [List.take_succ_cons,show (k+1)*2=k*2+1+1 by omega];show _::_::cS (zs.take k)=_
  rw [cS_take zs k];rfl
theorem flat_len (l:List (List Nat)) (h:∀ x∈l,x.length≤10000):l.flatten.length≤10000*l.length:=by
 induction l with
 | nil=>simp
 | cons x l ih =>
  have h1:=h x List.mem_cons_self;have h2:=ih (fun y hy=>h y (List.mem_cons_of_mem _ hy));rw [List.flatten_cons,List.length_append,List.length_cons];omega
theorem datS_len {b:List BVal} (hb:BlkV b) (hf:FewV b) (k:Nat) (hk:k≤b.length):(datS (b.take k)).length≤30000000:=by
 rw [← datK_keys b k hk];have h1:=datK_len (l:=chKeys (b.take k)) (fun p hp=>by
  obtain ⟨h,hz⟩:=chKeys_of hp;rw [List.length_take] at h;have hz':p.2∈partsL (b[p.1]'(by omega)).2:=by simpa using hz
  have:=partsL_mem hz';exact (chunkB_len this.1 this.2.1 ((hb.ok _ (List.getElem_mem _)).part hz')).2)
 have h2:=chKeys_pre (b:=b) k;have h3:=chKeys_le b;have h4:=hf.smp;have h5:10000*(chKeys (b.take k)).length≤10000*3000:=Nat.mul_le_mul_left _ (by omega);omega
structure InX (w wo W:World) (Z:Nat) (vl:Value) (ls dat:List Nat):Prop where
 kt:KtyL [5,33] wo W
 nw:Nw w W
 zw:wo.heap.size≤Z
 wz:w.heap.size≤wo.heap.size
 x:∃ (bc:Nat) (Ac:Option Addr) (cc:Nat),W.heap[Z]? = some (.cells #[vl,.slice Ac ls.length cc] 73 (0,0))∧Ow W bc 3 1 Ac ls.length cc (cN .i64 ls)∧(Ac=none∨Z≤bc)
 d:DatR w W (w.heap.size+1) dat
 r:W.heap[w.heap.size]? = some (.cells #[nilS,nilS,nilS,nilS] 33 (0,0))
theorem InX.keep {w wo W W':World} {Z:Nat} {vl:Value} {ls dat:List Nat} (h:InX w wo W Z vl ls dat) (hN:Nw W W'):InX w wo W' Z vl ls dat:=by
 obtain ⟨bc,Ac,cc,h1,h2,h3⟩:=h.x;exact ⟨h.kt.trans (KtyL.nw hN),h.nw.trans hN,h.zw,h.wz,⟨bc,Ac,cc,(hN.block _ (lt_of_block h1)).trans h1,h2.nw hN,h3⟩,h.d.ktl (T:=[]) (KtyL.nw hN) (by simp) (by simp),(hN.block _ (lt_of_block h.r)).trans h.r⟩
theorem InX.chk {w wo W W' W9:World} {Z L bc cc b5 c5:Nat} {Ac A5:Option Addr} {vl:Value} {ls dat:List Nat} (h:InX w wo W Z vl ls dat) (hx:W.heap[Z]? = some (.cells #[vl,.slice Ac ls.length cc] 73 (0,0))) (hO:Ow W bc 3 1 Ac ls.length cc (cN .i64 ls)) (hb:Ac=none∨Z≤bc) (hN:Nw W W')
  (r1:Ow W9 b5 3 1 A5 (ls.length+1) c5 (cN .i64 ls++[.int .i64 (L:Int)])) (r2:b5=bc∨W'.heap.size≤b5) (r3:Kp bc bc W' W9) (r4:Ac=none→Nw W' W9∧(W'.heap.size≤b5∨A5=none)) :
  W9.frozen? ⟨Z,1,none⟩=false∧W9.cell? ⟨Z,1,none⟩=some (.slice Ac ls.length cc)∧Hid (InX w wo (W9.setCell ⟨Z,1,none⟩ (.slice A5 (ls.length+1) c5)) Z vl (ls++[L]) dat)∧KtyL [3,73] W' (W9.setCell ⟨Z,1,none⟩ (.slice A5 (ls.length+1) c5)):=by
 have hzw:=h.zw;have hwz:=h.wz;have hZl:=lt_of_block hx;have hNs:=hN.size;have h':=h.keep hN;have hkt:=app_kty (hO.nw hN) r3 (fun e=>(r4 e).1);have hx9:=hkt.get ((hN.block _ hZl).trans hx) (by decide);have hkl:KtyL [5,33] wo W9:=by
  by_cases hA:Ac=none
  ·exact h'.kt.trans (KtyL.nw (r4 hA).1)
  ·have:=hb.resolve_left hA;exact h'.kt.kp r3 (by omega)
 have hn9:Nw w W9:=by
  by_cases hA:Ac=none
  ·exact h'.nw.trans (r4 hA).1
  ·have:=hb.resolve_left hA;exact Kp.nw h'.nw r3 (by omega) (by omega)
 have hks:Kp Z Z W9 (W9.setCell ⟨Z,1,none⟩ (.slice A5 (ls.length+1) c5)):=(Kp.refl Z Z W9).setCell' (p:=⟨Z,1,none⟩) (.inl rfl) _;have hks2:=hks.kty hx9;have e1:ls.length+1=(ls++[L]).length:=by simp
 have hcN:cN .i64 ls++[.int .i64 (L:Int)]=cN .i64 (ls++[L]):=by unfold cN;simp
 have hall:KtyL [3,73] W' (W9.setCell ⟨Z,1,none⟩ (.slice A5 (ls.length+1) c5)):=(hkt.toL r3.size (by decide)).trans (hks2.toL hks.size (by decide));refine ⟨at_free hx9,cell_at (k:=1) hx9,hid ⟨hkl.kp hks hzw,hn9.setCell' (show w.heap.size≤Z by omega) _,hzw,hwz,⟨b5,A5,c5,?_,?_,?_⟩,h'.d.ktl hall (by decide) (by decide),hall.get h'.r (by decide)⟩,hall⟩
 ·rw [← e1];have:=set_at (k:=1) (.slice A5 (ls.length+1) c5) hx9;simpa using this
 ·rw [← e1,← hcN];exact r1.kty hks2 (by decide) hks.size
 ·by_cases hA:Ac=none
  ·rcases (r4 hA).2 with q | q
   ·right;omega
   ·exact .inl q
  ·have:=hb.resolve_left hA;rcases r2 with rfl | q
   ·exact .inr this
   ·right;omega
theorem InX.data {w wo W W9:World} {Z m bd cd b5 c5:Nat} {Ad A5:Option Addr} {vl:Value} {ls dat ch:List Nat} (hm:ch.length=m) (h:InX w wo W Z vl ls dat) (hx:W.heap[w.heap.size+1]? = some (.cells #[nilS,nilS,.slice Ad dat.length cd,nilS] 33 (0,0))) (hO:Ow W bd 5 1 Ad dat.length cd (cN .u8 dat)) (hb:Ad=none∨w.heap.size≤bd)
  (r1:Ow W9 b5 5 1 A5 (dat.length+m) c5 (cN .u8 dat++cN .u8 ch)) (r2:b5=bd∨W.heap.size≤b5) (r3:Kp bd bd W W9) (r4:Ad=none→Nw W W9∧(W.heap.size≤b5∨A5=none)) :
  W9.frozen? ⟨w.heap.size+1,2,none⟩=false∧W9.cell? ⟨w.heap.size+1,2,none⟩=some (.slice Ad dat.length cd)∧Hid (InX w wo (W9.setCell ⟨w.heap.size+1,2,none⟩ (.slice A5 (dat.length+m) c5)) Z vl ls (dat++ch)):=by
 subst hm;have hws:=h.nw.size;have hkt:=app_kty hO r3 (fun e=>(r4 e).1);have hx9:=hkt.get hx (by decide);have hn9:Nw w W9:=by
  by_cases hA:Ad=none
  ·exact h.nw.trans (r4 hA).1
  ·have:=hb.resolve_left hA;exact Kp.nw h.nw r3 this this
 have hks:Kp (w.heap.size+1) (w.heap.size+1) W9 (W9.setCell ⟨w.heap.size+1,2,none⟩ (.slice A5 (dat.length+ch.length) c5)):=(Kp.refl _ _ W9).setCell' (p:=⟨w.heap.size+1,2,none⟩) (.inl rfl) _;have hks2:=hks.kty hx9;have e1:dat.length+ch.length=(dat++ch).length:=by simp
 have hcN:cN .u8 dat++cN .u8 ch=cN .u8 (dat++ch):=by unfold cN;simp
 have hall:KtyL [5,33] W (W9.setCell ⟨w.heap.size+1,2,none⟩ (.slice A5 (dat.length+ch.length) c5)):=(hkt.toL r3.size (by decide)).trans (hks2.toL hks.size (by decide));obtain ⟨bc,Ac,cc,q1,q2,q3⟩:=h.x;have hr9:=hkt.get h.r (by decide);refine ⟨at_free hx9,cell_at (k:=2) hx9,hid ⟨h.kt.trans hall,hn9.setCell' (show w.heap.size≤w.heap.size+1 by omega) _,h.zw,h.wz,⟨bc,Ac,cc,hall.get q1 (by decide),q2.ktl hall (by decide),q3⟩,⟨b5,A5,c5,?_,?_,?_⟩,?_⟩⟩
 ·rw [← e1];have:=set_at (k:=2) (.slice A5 (dat.length+ch.length) c5) hx9;simpa using this
 ·rw [← e1,← hcN];exact r1.kty hks2 (by decide) hks.size
 ·by_cases hA:Ad=none
  ·rcases (r4 hA).2 with q | q
   ·right;omega
   ·exact .inl q
  ·have:=hb.resolve_left hA;rcases r2 with rfl | q
   ·exact .inr this
   ·right;omega
 ·exact (hks.block _ (lt_of_block hr9) (by omega) (by omega)).trans hr9
theorem RecsR.nw9 {w W W' W9:World} {l:List Ser} {i bl b6 cl:Nat} {Al A6:Option Addr} {rows:List RecS} (h:RecsR w W l i bl Al cl rows) (hw:Nw w W) (hN:Nw W W') (r3:Kp bl bl W' W9) (r4:Al=none→Nw W' W9∧(W'.heap.size≤b6∨A6=none)):Nw w W9:=by
 by_cases hA:Al=none
 ·exact (hw.trans hN).trans (r4 hA).1
 ·have:=h.new.resolve_left hA;exact Kp.nw (hw.trans hN) r3 this this
theorem RecsR.add {w W W' W9:World} {l:List Ser} {i bl cl b6 c6:Nat} {Al A6:Option Addr} {rows:List RecS} {x:BVal} (h:RecsR w W l i bl Al cl rows) (hw:Nw w W) (hN:Nw W W') (hi:i < (l.map valB).length) (hx:(l.map valB)[i]=x) (r:RecS) (hr:valR r=recV x) (hlab:Rd w r.bl r.al (cL r.labs)) (hchk:Ow W r.bc 3 1 r.ac r.chks.length r.cc (cN .i64 r.chks))
  (r1:Ow W9 b6 73 2 A6 (i+1) c6 (cRec rows++[.slice r.al r.labs.length r.cl,.slice r.ac r.chks.length r.cc])) (r2:b6=bl∨W'.heap.size≤b6) (r3:Kp bl bl W' W9) (r4:Al=none→Nw W' W9∧(W'.heap.size≤b6∨A6=none)) :
  RecsR w W9 l (i+1) b6 A6 c6 (rows++[r]):=by
 have hk:=app_kty (h.ow.nw hN) r3 (fun e=>(r4 e).1);have hs:=r3.size;refine ⟨?_,by rw [List.length_append,h.len];rfl,?_,fun q hq=>?_,fun q hq=>?_,?_⟩
 ·have e:cRec (rows++[r])=cRec rows++[.slice r.al r.labs.length r.cl,.slice r.ac r.chks.length r.cc]:=by unfold cRec;rw [c2_append];rfl
  rw [e];exact r1
 ·rw [List.map_append,h.val,List.take_succ_eq_append_getElem hi,List.map_append,hx];simp [hr]
 ·rcases List.mem_append.1 hq with hq | hq
  ·exact h.lab q hq
  ·obtain rfl:=List.mem_singleton.1 hq;exact hlab
 ·rcases List.mem_append.1 hq with hq | hq
  ·exact ((h.chk q hq).nw hN).kty hk (by decide) hs
  ·obtain rfl:=List.mem_singleton.1 hq;exact (hchk.nw hN).kty hk (by decide) hs
 ·by_cases hA:Al=none
  ·rcases (r4 hA).2 with q | q
   ·right;have:=hw.size;have:=hN.size;omega
   ·exact .inl q
  ·have:=h.new.resolve_left hA;rcases r2 with rfl | q
   ·exact .inr this
   ·right;have:=hw.size;have:=hN.size;omega
structure St1 (w W:World) (v0 v1 v2 v3:Value):Prop where
 nw:Nw w W
 s:W.heap[w.heap.size+1]? = some (.cells #[v0,v1,v2,v3] 33 (0,0))
 r:W.heap[w.heap.size]? = some (.cells #[nilS,nilS,nilS,nilS] 33 (0,0))
section
variable {w W W':World} {v0 v1 v2 v3:Value}
theorem St1.call (h:St1 w W v0 v1 v2 v3) (hN:Nw W W'):St1 w W' v0 v1 v2 v3 :=
 ⟨h.nw.trans hN,(hN.block _ (lt_of_block h.s)).trans h.s,(hN.block _ (lt_of_block h.r)).trans h.r⟩
theorem St1.put (h:St1 w W v0 v1 v2 v3) (k:Nat) (x:Value) {a0 a1 a2 a3:Value} (hv:(#[v0,v1,v2,v3]:Array Value).setIfInBounds k x=#[a0,a1,a2,a3]):St1 w (W.setCell ⟨w.heap.size+1,k,none⟩ x) a0 a1 a2 a3∧KtyL [33] W (W.setCell ⟨w.heap.size+1,k,none⟩ x):=by
 have hk:Kp (w.heap.size+1) (w.heap.size+1) W (W.setCell ⟨w.heap.size+1,k,none⟩ x):=(Kp.refl _ _ W).setCell' (p:=⟨w.heap.size+1,k,none⟩) (.inl rfl) _;have:=set_at (k:=k) x h.s;rw [hv] at this;exact ⟨⟨h.nw.setCell' (show w.heap.size≤w.heap.size+1 by omega) _,this,(hk.block _ (lt_of_block h.r) (by omega) (by omega)).trans h.r⟩,(hk.kty h.s).toL hk.size (by decide)⟩
theorem St1.cs (h:St1 w W v0 v1 v2 v3):(W.cell? ⟨w.heap.size+1,0,none⟩=some v0∧W.cell? ⟨w.heap.size+1,1,none⟩=some v1∧W.cell? ⟨w.heap.size+1,2,none⟩=some v2∧W.cell? ⟨w.heap.size+1,3,none⟩=some v3)∧∀ k,W.frozen? ⟨w.heap.size+1,k,none⟩=false :=
 ⟨⟨cell_at (k:=0) h.s,cell_at (k:=1) h.s,cell_at (k:=2) h.s,cell_at (k:=3) h.s⟩,fun _=>at_free h.s⟩
end
set_option maxRecDepth 100000 in
set_option maxHeartbeats 800000 in
theorem RSets_any (w:World) (b:Nat) (A:Option Addr) (n c:Nat) (l:List Ser) (hI:InSer w b A n c l) (hm:n≤1000) :
  Calls Tryz.prog 44 #[.slice A n c] w fun e w'=>∃ b' A' c',e=.returned (.slice A' n c')∧Rd w' b' A' (cSet (l.map setOf))∧Nw w w':=by
 have hln:=hI.len;subst hln;have HR:=hid hI.rd;clear hI;go_enter Tryz.func44,Tryz.ntmps44
 go_wp2;go_loopw [3,4] (fun v i wr=>∃ (k:Nat) (bk:Nat) (Ak:Option Addr) (ck:Nat),k≤l.length∧i=.int .i64 (k:Int)∧v=.slice Ak k ck∧Hid (Ow wr bk 48 1 Ak k ck (cSet ((l.take k).map setOf)))∧Hid (w.heap.size≤bk)∧Hid (Nw w wr)) (fun _ i _=>l.length - (intOf i).toNat)
 case atStart=>exact ⟨0,w.heap.size,none,0,by omega,rfl,rfl,hid (Ow.nil _ _ _ _),hid (Nat.le_refl _),hid (Nw.refl _)⟩
 case round =>
  obtain ⟨k,bk,Ak,ck,hk,rfl,rfl,HO,HB,HN⟩:=hrel;by_cases hlt:k < l.length
  ·have hltI:(k:Int) < (l.length:Int):=by omega
   obtain ⟨o,rfl,hbw,hc0,hc1⟩:=two_at (HR.out.nw HN.out) hlt;have HT:Hid (cSet ((l.take (k+1)).map setOf)=cSet ((l.take k).map setOf)++[.slice l[k].al l[k].labs.length l[k].cl]):=hid (by
    unfold cSet;rw [List.take_succ_eq_append_getElem hlt,List.map_append,List.map_append];rfl)
   generalize l[k]=x at *;obtain ⟨labs,smps,xbl,al,xcl,bs,as_,xcs⟩:=x;dsimp only at hc0 hc1 HT;go_wp2_with (first
    | (at_builtin;refine wpList_app1 E_set rfl (.tmp 11) (.tmp 17) rfl rfl HO.out rfl rfl (by omega) (by omega) ?_;intro b3 A3 c3 w3 q1 q2 q3 q4;have Q1:=hid q1;have Q2:=hid q2;have Q3:=hid (Kp.nw HN.out q3 HB.out HB.out);clear q1 q2 q3 q4)
    | fail)
   go_roundw
   case rel=>exact ⟨k+1,b3,A3,c3,by omega,by go_num,rfl,by rw [HT.out];exact Q1,hid (by rcases Q2.out with h | h;rw [h];exact HB.out;have:=HN.out.size;omega),Q3⟩
   case measure=>simp [intOf];omega
  ·obtain rfl:k=l.length:=by omega
   have hO:=HO.out;rw [List.take_length] at hO;have HO2:=hid hO;clear hO HO;go_wp2;go_ret;exact ⟨bk,Ak,ck,rfl,HO2.out.rd,HN.out⟩
set_option maxRecDepth 100000 in
set_option maxHeartbeats 800000 in
theorem RSections_ok (w:World) (b:Nat) (A:Option Addr) (n c:Nat) (l:List Ser) (hI:InSer w b A n c l) (hf:Fits l) (h0:blkE l=0) :
  Calls Tryz.prog 17 #[.slice A n c] w fun e w'=>∃ v,e=.returned v∧SecV w' (l.map valB) v∧Nw w w':=by
 have hfl:=hf.1;have hfs:=hf.2.1;have hln:=hI.len;subst hln;have hL:=hf.2.2.1;have HI:=hid hI;have HB:Hid (BlkV (l.map valB)):=hid (blkE_v h0 (fun s hs=>(hI.ok s hs).2.wf));have HFV:=hid (fits_few hf);have HTB:Hid (TblOk (symT (labsOf l))):=hid (by rw [← labsV_val];exact HB.out.tbl HFV.out);have HS0:Hid (sec0 (l.map valB)=symEnc (symT (labsOf l))):=hid (by unfold sec0;rw [labsV_val]);have HS1:Hid (sec1 (l.map valB)=recEnc (symT (labsOf l)) ((l.map valB).map recV)):=hid (by unfold sec1;rw [labsV_val]);have HS3:Hid (sec3 (l.map valB)=posEnc (symT (labsOf l)) (posV (l.map valB))):=hid (by unfold sec3;rw [labsV_val]);have HRO:Hid (∀ v∈(l.map valB).map recV,RecOk (symT (labsOf l)) v):=hid fun v hv=>by
  obtain ⟨s,hs,rfl⟩:=List.mem_map.1 hv;rw [← labsV_val];exact HB.out.rc HFV.out hs
 have HEO:Hid (∀ p∈posV (l.map valB),EntOk (symT (labsOf l)) p):=hid (by rw [← labsV_val];exact HB.out.ent HFV.out);have HY:Hid (∀ W',Nw w W'→Calls Tryz.prog 21 #[.slice A l.length c] W' fun e w'=>∃ g A' c',e=.returned (.slice A' (symT (labsOf l)).length c')∧Ow w' g 9 1 A' (symT (labsOf l)).length c' (cT (symT (labsOf l)))∧Nw W' w'):=hid fun W' hN=>by
  have:=RSymbols_any W' b A l.length c l (hI.nw hN) (by omega) (by omega);rw [symT_cells,symT_len] at this;exact this
 generalize hT:symT (labsOf l)=T at *;have HTE:=hid hT;have hn1:Nw w ((w.alloc (.cells #[nilS,nilS,nilS,nilS] 33)).alloc (.cells #[nilS,nilS,nilS,nilS] 33)):=((Nw.refl w).alloc' _).alloc' _;have hb1:=heap_alloc_new (w.alloc (.cells #[nilS,nilS,nilS,nilS] 33)) (.cells #[nilS,nilS,nilS,nilS] 33);have hb0:((w.alloc (.cells #[nilS,nilS,nilS,nilS] 33)).alloc (.cells #[nilS,nilS,nilS,nilS] 33)).heap[w.heap.size]? = some (.cells #[nilS,nilS,nilS,nilS] 33 (0,0)):=(heap_alloc_old _ _ (by simp)).trans (heap_alloc_new w _);rw [World.size_alloc] at hb1;have HN1:=hid hn1;have HB0:=hid hb0;have HB1:=hid hb1;clear hI h0 hT hn1 hb0 hb1;go_enter Tryz.func17,Tryz.ntmps17
 go_wp2_with fail;generalize (w.alloc (.cells #[nilS,nilS,nilS,nilS] 33)).alloc (.cells #[nilS,nilS,nilS,nilS] 33)=w1 at *;refine (HY.out w1 HN1.out).mono ?_;rintro e w2 ⟨g,At,ct,rfl,hOt,hN2⟩;have HOt:=hid hOt;have HR2:=hid ((hN2.block _ (lt_of_block HB0.out)).trans HB0.out);have HS2:=hid ((hN2.block _ (lt_of_block HB1.out)).trans HB1.out);have HN2:=hid (HN1.out.trans hN2);clear hOt hN2 HY HN1 HB0 HB1;go_wp2_with fail;go_loopw [5,6] (fun v i wr=>∃ (k:Nat) (bl:Nat) (Al:Option Addr) (cl:Nat) (rows:List RecS),k≤l.length∧i=.int .i64 (k:Int)∧v=.slice Al k cl∧Hid (RecsR w wr l k bl Al cl rows)∧Hid (DatR w wr (w.heap.size+1) (datS ((l.map valB).take k)))∧Hid (Nw w wr)∧Hid (Ow wr g 9 1 At T.length ct (cT T))∧Hid (wr.heap[w.heap.size]? = some (.cells #[nilS,nilS,nilS,nilS] 33 (0,0)))) (fun _ i _=>l.length - (intOf i).toNat)
 case atStart=>exact ⟨0,0,none,0,[],by omega,rfl,rfl,hid ⟨Ow.nil _ _ _ _,rfl,rfl,by simp,by simp,.inl rfl⟩,hid ⟨0,none,0,HS2.out,Ow.nil _ _ _ _,.inl rfl⟩,HN2,HOt,HR2⟩
 case round =>
  clear HN2 HOt HR2 HS2;obtain ⟨k,bl,Al,cl,rows,hk,rfl,rfl,HRc,HDt,HN,HOt,HR⟩:=hrel;by_cases hlt:k < l.length
  ·have hltI:(k:Int) < (l.length:Int):=by omega
   obtain ⟨o,rfl,hbw,hc0,hc1⟩:=two_at (HI.out.rd) hlt;have HC:Hid (∀ W,Nw w W→W.cell? ⟨b,o+k*2,none⟩=some (.slice l[k].al l[k].labs.length l[k].cl)∧W.cell? ⟨b,o+k*2+1,none⟩=some (.slice l[k].as_ l[k].smps.length l[k].cs)):=hid fun W h=>⟨cell_old (a:=⟨b,o+k*2,none⟩) h hbw hc0,cell_old (a:=⟨b,o+k*2+1,none⟩) h hbw hc1⟩
   obtain ⟨hc0,hc1⟩:=HC.out wr HN.out;have HSr:=hid (HI.out.ok l[k] (List.getElem_mem hlt));have hsm:=le_sum (List.getElem_mem hlt);have hkb:k < (l.map valB).length:=by rw [List.length_map];exact hlt
   have HV:Hid ((l.map valB)[k]=(l[k].labs,l[k].smps)):=hid (by rw [List.getElem_map];rfl);have HVn:Hid (l[k].smps≠[]):=hid (HB.out.ne _ (List.mem_map.2 ⟨l[k],List.getElem_mem hlt,rfl⟩));generalize l[k]=x at *;obtain ⟨labs,smps,xbl,al,xcl,bs,as_,xcs⟩:=x;dsimp only at hc0 hc1 HC hsm HV HVn HSr;have hb7:=heap_alloc_new wr (.cells #[.slice al labs.length xcl,.slice none 0 0] 73);have hn7:Nw wr (wr.alloc (.cells #[.slice al labs.length xcl,.slice none 0 0] 73)):=(Nw.refl wr).alloc' _;have HB7:=hid hb7;have HK7:Hid (KtyL [5,33] wr (wr.alloc (.cells #[.slice al labs.length xcl,.slice none 0 0] 73))):=hid (KtyL.nw hn7);have HN7:=hid (HN.out.trans hn7);have HD7:=hid (HDt.out.ktl (T:=[]) (KtyL.nw hn7) (by simp) (by simp));have HR7:=hid ((hn7.block _ (lt_of_block HR.out)).trans HR.out);obtain ⟨P,hP⟩:∃ P,(partsL smps).length=P:=⟨_,rfl⟩;have hPl:=partsL_len smps;rw [hP] at hPl;have HP:=hid hP;have hzw:w.heap.size < wr.heap.size:=lt_of_block HR.out;obtain ⟨Z,hZ⟩:∃ Z,wr.heap.size=Z:=⟨_,rfl⟩;rw [hZ] at HB7 hzw;clear hb7 hn7 hP HDt HN HR;go_wp2_with fail;clear hc0 hc1;generalize wr.alloc (.cells #[.slice al labs.length xcl,.slice none 0 0] 73)=w7 at *;have HZ:Hid (wr.heap.size=Z):=hid hZ;clear hZ;generalize wr=wo at *;have HX7:Hid (InX w wo w7 Z (.slice al labs.length xcl) [] (datS ((l.map valB).take k))):=hid ⟨HK7.out,HN7.out,Nat.le_of_eq HZ.out,by have:=HZ.out;omega,⟨0,none,0,HB7.out,Ow.nil _ _ _ _,.inl rfl⟩,HD7.out,HR7.out⟩;go_loopw [8] (fun v wr=>∃ (j F:Nat),j≤P∧v=.int .i64 (F:Int)∧Hid (F=120*j)∧Hid (InX w wo wr Z (.slice al labs.length xcl) ((lensL smps).take j) (datS ((l.map valB).take k)++((chunksL smps).take j).flatten))) (fun v _=>120*P - (intOf v).toNat)
   case atStart=>exact ⟨0,0,by omega,rfl,hid rfl,by simpa using HX7⟩
   case round =>
    clear HK7 HN7 HB7 HD7 HR7 HX7;obtain ⟨j,F,hj,rfl,HF,HX⟩:=hrel;have HN:=hid HX.out.nw;obtain ⟨hc0,hc1⟩:=HC.out wr HN.out;by_cases hjt:j < P
    ·have hF:F < smps.length:=by have:=HF.out;omega
     have hFI:(F:Int) < (smps.length:Int):=by omega
     have hsl:smps.length≤3000:=by omega
     obtain ⟨m,hm⟩:∃ m,min 120 (smps.length - F)=m:=⟨_,rfl⟩;have hm1:1≤m:=by omega
     have hm2:m≤120:=by omega
     have hm3:F+m≤smps.length:=by omega
     have hmin:min ((F:Int)+120) (smps.length:Int)=(F:Int)+(m:Int):=by omega
     have hcs:smps.length≤xcs:=HSr.out.2.cap;have hcsI:(smps.length:Int)≤(xcs:Int):=by omega
     have hFx:¬ xcs=F:=by omega
     have hF0:(0:Int)≤(F:Int):=by omega
     have hF00:(0:Int)≤(F:Int)+(m:Int):=by omega
     have hFm:(F:Int)≤(F:Int)+(m:Int):=by omega
     have hFmc:(F:Int)+(m:Int)≤(xcs:Int):=by omega
     have hsub:((F:Int)+(m:Int)).toNat - F=m:=by omega
     have hjp:j < (partsL smps).length:=by rw [HP.out];exact hjt
     have hz:=partsL_mem (List.getElem_mem hjp);have HPz:Hid ((partsL smps)[j]=(smps.drop F).take m):=hid (by rw [partsL_get,← HF.out,hm]);have hzl:(partsL smps)[j].length=m:=by rw [HPz.out,List.length_take,List.length_drop];omega
     have HNX1:Hid ((lensL smps).take (j+1)=(lensL smps).take j++[(chunkB (partsL smps)[j]).length]):=hid (by
      have hl:j < (lensL smps).length:=by unfold lensL;rw [List.length_map,chunksL_len];exact hjp
      rw [List.take_succ_eq_append_getElem hl];simp [lensL,chunksL])
     have HNX2:Hid (((chunksL smps).take (j+1)).flatten=((chunksL smps).take j).flatten++chunkB (partsL smps)[j]):=hid (by
      have hl:j < (chunksL smps).length:=by rw [chunksL_len];exact hjp
      rw [List.take_succ_eq_append_getElem hl,List.flatten_append];simp [chunksL])
     have hchl:=chunkB_len hz.1 hz.2.1 (InS.part HSr.out.2.wf (List.getElem_mem hjp));have HEn:Hid (∀ W,(W.cell? ⟨b,o+k*2+1,none⟩=some (.slice as_ smps.length xcs)∧Nw wr W)→Calls Tryz.prog 39 #[.slice (as_.map fun x=>x.add (F*2)) m (xcs - F)] W fun e w'=>∃ b' A' c',e=.returned (.tuple #[.slice A' (chunkB (partsL smps)[j]).length c',.int .i64 0]) ∧
       Ow w' b' 5 1 A' (chunkB (partsL smps)[j]).length c' (cN .u8 (chunkB (partsL smps)[j]))∧(w'.cell? ⟨b,o+k*2+1,none⟩=some (.slice as_ smps.length xcs)∧Nw wr w')):=hid fun W hW=>by
      have hW:=hW.2;have h1:=((HSr.out.2.rd.nw HN.out).nw hW).cut (k:=F) (cap:=xcs) (size:=2) (by rw [cS_length];dsimp only;omega);rw [if_neg hFx,← cS_drop] at h1;have h2:=h1.take (m*2);rw [← cS_take,← HPz.out] at h2;refine (REncode_ok W bs _ m (xcs - F) (partsL smps)[j] hzl.symm hm1 hm2 h2 (InS.part HSr.out.2.wf (List.getElem_mem hjp))).mono ?_;rintro e w' ⟨b',A',c',he,hO,_,hN'⟩;exact ⟨b',A',c',he,hO,(HC.out w' (HN.out.trans (hW.trans hN'))).2,hW.trans hN'⟩
     generalize (partsL smps)[j]=z at *;obtain ⟨L,hL⟩:∃ L,(chunkB z).length=L:=⟨_,rfl⟩;rw [hL] at hchl HNX1;simp only [hL] at HEn;have HL:=hid hL;have hwr:IntKind.i64.wrap ((F:Int)+120)=(F:Int)+120:=IntWalk.i64_in _ (by omega);have HS1:Hid (wr.drew.cell? ⟨b,o+k*2+1,none⟩=some (.slice as_ smps.length xcs)∧Nw wr wr.drew):=hid ⟨hc1,Nw.drew1 _⟩;clear hz hzl hL hm hjp;go_wp2_with fail;go_region_held3 (fun w'=>w'.cell? ⟨b,o+k*2+1,none⟩=some (.slice as_ smps.length xcs)∧Nw wr w')
      (first | exact HS1.out | exact hS)
      ((go_at_call 39;refine (HEn.out _ (by assumption)).mono ?_;rintro e w8 ⟨b8,A8,c8,rfl,hO8,hS⟩;have HO8:=hid hO8;clear hO8))
     all_goals
      have hX8:=HX.out.keep hS.2;clear hc0 hc1 hF hFI hmin hcs hcsI hFx hF0 hF00 hFm hFmc hsub HEn HS1 hS HPz hm3;obtain ⟨dat,hdat⟩:∃ d,datS ((l.map valB).take k)++((chunksL smps).take j).flatten=d:=⟨_,rfl⟩;obtain ⟨ls,hls⟩:∃ d,(lensL smps).take j=d:=⟨_,rfl⟩;have hlsl:ls.length≤1000:=by rw [← hls,List.length_take];omega
      have hdl:dat.length≤31000000:=by
       rw [← hdat,List.length_append];have h1:=datS_len HB.out HFV.out k (by omega);have h2:=flat_len ((chunksL smps).take j) (fun x hx=>by
        obtain ⟨y,hy,rfl⟩:=List.mem_map.1 (List.mem_of_mem_take hx);have:=partsL_mem hy;exact (chunkB_len this.1 this.2.1 (InS.part HSr.out.2.wf hy)).2)
       rw [List.length_take] at h2;have:min j (chunksL smps).length≤100:=by omega
       have:10000*min j (chunksL smps).length≤1000000:=by omega
       omega
      rw [hdat,hls] at hX8;rw [hls] at HNX1;have HNX3:Hid (datS ((l.map valB).take k)++((chunksL smps).take (j+1)).flatten=dat++chunkB z):=hid (by rw [HNX2.out,← hdat,List.append_assoc]);have HX8:=hid hX8;obtain ⟨bc,Ac,cc,x1,x2,x3⟩:=hX8.x;have X1:=hid x1;have X2:=hid x2;have k0:w8.cell? ⟨Z,1,none⟩=some (.slice Ac ls.length cc):=cell_at (k:=1) x1;have HN8:Hid (Nw w8 (w8.alloc (.cells #[.int .i64 (L:Int)] 3))):=hid ((Nw.refl _).alloc' _);have HLit:Hid (Rd (w8.alloc (.cells #[.int .i64 (L:Int)] 3)) w8.heap.size (some ⟨w8.heap.size,0,none⟩) [.int .i64 (L:Int)]):=hid (Ow.lit w8 3 1 1 #[.int .i64 (L:Int)] rfl (by omega)).rd;clear hX8 x1 x2 hdat hls HX HN HNX2
      go_upto_region 13 with (first
       | (at_builtin;refine wpList_app E_int rfl (.tmp 56) (.tmp 59) rfl rfl (X2.out.nw HN8.out) rfl HLit.out rfl (by intro h;cases h) (by intro v hv;simp at hv;subst hv;rfl) (by simp only [maxLen];omega) (by omega) ?_;intro b5 A5 c5 w9 r1 r2 r3 r4;obtain ⟨f1,c1',H9,k9⟩:=InX.chk HX8.out X1.out X2.out x3 HN8.out r1 r2 r3 r4;have K9:=hid k9;clear r1 r2 r3 r4 k9)
       | fail)
      have HO9:=hid ((HO8.out.nw HN8.out).ktl K9.out (by decide));obtain ⟨bd,Ad,cd,d1,d2,d3⟩:=H9.out.d;generalize w9.setCell ⟨Z,1,none⟩ (.slice A5 (ls.length+1) c5)=W10 at *;have D1:=hid d1;have D2:=hid d2;have k2:W10.cell? ⟨w.heap.size+1,2,none⟩=some (.slice Ad dat.length cd):=cell_at (k:=2) d1;have HXL:Hid ((cN .u8 (chunkB z)).length=L*1):=hid (by rw [List.length_map,Nat.mul_one];exact HL.out);have hA8:=HO9.out.nilc;clear d1 d2 f1 c1' k0 K9 HN8 HLit X1 X2 x3 HX8 HO8;go_wp2_with (first
       | (at_builtin;refine wpList_app E_u8 rfl (.tmp 63) (.tmp 64) rfl rfl D2.out rfl HO9.out.rd HXL.out hA8 (u8_lit _) (by simp only [maxLen];omega) (by omega) ?_;intro b6 A6 c6 w11 r1 r2 r3 r4;obtain ⟨f2,c2',H11⟩:=InX.data HL.out H9.out D1.out D2.out d3 r1 r2 r3 r4;clear r1 r2 r3 r4)
       | fail)
      go_roundw
      case rel=>exact ⟨j+1,F+120,by omega,by go_num,hid (by rw [HF.out];omega),by rw [HNX1.out,HNX3.out];exact H11⟩
      case measure=>have:=HF.out;simp [intOf];omega
    ·obtain rfl:j=P:=by omega
     have hFn:¬ F < smps.length:=by have:=HF.out;omega
     have hFI:¬ (F:Int) < (smps.length:Int):=by omega
     have hE1:(lensL smps).take j=lensL smps:=List.take_of_length_le (by unfold lensL;rw [List.length_map,chunksL_len,HP.out];exact Nat.le_refl _);have hE2:(chunksL smps).take j=chunksL smps:=List.take_of_length_le (by rw [chunksL_len,HP.out];exact Nat.le_refl _);have hE3:datS ((l.map valB).take (k+1))=datS ((l.map valB).take k)++(chunksL smps).flatten:=by
      unfold datS;rw [List.take_succ_eq_append_getElem hkb,List.flatMap_append,HV.out];simp
     have hX:=HX.out;rw [hE1,hE2,← hE3] at hX;have HX2:=hid hX;have HRc2:=hid (HRc.out.ktl hX.kt (by decide) (by decide));have HOt2:=hid (HOt.out.ktl hX.kt (by decide));obtain ⟨bc,Ac,cc,x1,x2,x3⟩:=hX.x;have X2:=hid x2;have k0:wr.cell? ⟨Z,0,none⟩=some (.slice al labs.length xcl):=cell_at (k:=0) x1;have k1:wr.cell? ⟨Z,1,none⟩=some (.slice Ac (lensL smps).length cc):=cell_at (k:=1) x1;have hn8:Nw wr (wr.alloc (.cells #[.slice al labs.length xcl,.slice Ac (lensL smps).length cc] 73)):=(Nw.refl _).alloc' _;have HN8:=hid hn8;have HLit:Hid (Rd (wr.alloc (.cells #[.slice al labs.length xcl,.slice Ac (lensL smps).length cc] 73)) wr.heap.size (some ⟨wr.heap.size,0,none⟩) [.slice al labs.length xcl,.slice Ac (lensL smps).length cc]):=hid (Ow.lit wr 73 2 1 #[.slice al labs.length xcl,.slice Ac (lensL smps).length cc] rfl (by omega)).rd;clear hX hE1 hE2 hE3 x1 x2 hn8 HX HRc HOt;go_wp2_with (first
      | (at_builtin;refine wpList_app E_recR rfl (.tmp 67) (.tmp 69) rfl rfl (HRc2.out.ow.nw HN8.out) rfl HLit.out rfl (by intro h;cases h) (by intro v hv;simp at hv;rcases hv with rfl | rfl<;>rfl) (by simp only [maxLen];omega) (by omega) ?_;intro b6 A6 c6 w9 r1 r2 r3 r4;have HRN:=hid (RecsR.add HRc2.out HX2.out.nw HN8.out hkb HV.out ⟨labs,lensL smps,xbl,al,xcl,bc,Ac,cc⟩ rfl HSr.out.1.rd X2.out r1 r2 r3 r4);have HKN:=hid ((app_kty (HRc2.out.ow.nw HN8.out) r3 (fun e=>(r4 e).1)).toL (T:=[73]) r3.size (by decide));have HNN:=hid (RecsR.nw9 HRc2.out HX2.out.nw HN8.out r3 r4);clear r1 r2 r3 r4)
      | fail)
     go_roundw
     case rel=>exact ⟨k+1,b6,A6,c6,_,by omega,by go_num,rfl,HRN,hid (((HX2.out.d.ktl (T:=[]) (KtyL.nw HN8.out) (by simp) (by simp))).ktl HKN.out (by decide) (by decide)),HNN,hid ((HOt2.out.nw HN8.out).ktl HKN.out (by decide)),hid (HKN.out.get ((HN8.out.block _ (lt_of_block HX2.out.r)).trans HX2.out.r) (by decide))⟩
     case measure=>simp [intOf];omega
  ·obtain rfl:k=l.length:=by omega
   have e1:(l.map valB).take l.length=l.map valB:=List.take_of_length_le (by simp);have hv:=HRc.out.val;have hD:=HDt.out;rw [e1] at hv hD;have HRv:=hid hv;have HRl:=hid HRc.out.len;obtain ⟨bd,Ad,cd,d1,d2,d3⟩:=hD;obtain ⟨L2,hL2⟩:∃ L,(datS (l.map valB)).length=L:=⟨_,rfl⟩;rw [hL2] at d1 d2;have HL2:=hid hL2;have HD2:=hid d2;have HSt:=hid (⟨HN.out,d1,HR.out⟩:St1 w wr nilS nilS (.slice Ad L2 cd) nilS);have hws:w.heap.size < wr.heap.size:=lt_of_block HR.out;clear e1 hv d1 d2 d3 hL2 HDt HR;go_wp2_with fail;refine (RSymEncode_any wr g At T.length ct T rfl HOt.out.rd HTB.out).mono ?_;rintro e w3 ⟨b0,A0,c0,rfl,hO0,_,hN3⟩;have HSt3:=hid (HSt.out.call hN3);obtain ⟨⟨s0,s1,s2,s3⟩,sf⟩:=HSt3.out.cs;have sf0:=sf 0;obtain ⟨L0,hL0⟩:∃ L,(symEnc T).length=L:=⟨_,rfl⟩;rw [hL0] at hO0 ⊢;have HL0:=hid hL0;obtain ⟨q1,q2⟩:=HSt3.out.put 0 (.slice A0 L0 c0) (a0:=.slice A0 L0 c0) (a1:=nilS) (a2:=.slice Ad L2 cd) (a3:=nilS) rfl;have HSt4:=hid q1;have HO04:=hid (hO0.ktl q2 (by decide));have HD4:=hid ((HD2.out.nw hN3).ktl q2 (by decide));have HOt4:=hid ((HOt.out.nw hN3).ktl q2 (by decide));have HRc4:=hid ((HRc.out.ktl (T:=[]) (KtyL.nw hN3) (by simp) (by simp)).ktl q2 (by decide) (by decide));clear q1 q2 hO0 hN3 hL0 sf HSt HD2 HOt HRc HN;go_wp2_with fail;clear s0 s1 s2 s3 sf0;generalize w3.setCell ⟨w.heap.size+1,0,none⟩ (.slice A0 L0 c0)=w4 at *;refine (RRecEncode_any w4 bl g Al At l.length cl T.length ct T rows HRl.out.symm (by omega) HRc4.out.ow.rd rfl HOt4.out.rd HTB.out (fun s hs=>⟨(HRc4.out.lab s hs).nw HSt4.out.nw,(HRc4.out.chk s hs).rd⟩) (fun s hs=>HRO.out _ (by rw [← HRv.out];exact List.mem_map.2 ⟨s,hs,rfl⟩))).mono ?_;rintro e w5 ⟨b1,A1,c1,rfl,hO1,_,hN5⟩;rw [HRv.out,← HS1.out] at hO1 ⊢;have HSt5:=hid (HSt4.out.call hN5);obtain ⟨⟨s0,s1,s2,s3⟩,sf⟩:=HSt5.out.cs;have sf1:=sf 1;obtain ⟨L1,hL1⟩:∃ L,(sec1 (l.map valB)).length=L:=⟨_,rfl⟩;rw [hL1] at hO1 ⊢;have HL1:=hid hL1;obtain ⟨q1,q2⟩:=HSt5.out.put 1 (.slice A1 L1 c1) (a0:=.slice A0 L0 c0) (a1:=.slice A1 L1 c1) (a2:=.slice Ad L2 cd) (a3:=nilS) rfl;have HSt6:=hid q1;have HO06:=hid ((HO04.out.nw hN5).ktl q2 (by decide));have HO16:=hid (hO1.ktl q2 (by decide));have HD6:=hid ((HD4.out.nw hN5).ktl q2 (by decide));have HOt6:=hid ((HOt4.out.nw hN5).ktl q2 (by decide));clear q1 q2 hO1 hN5 hL1 sf HSt4 HO04 HD4 HOt4 HRc4 HSt5 HRl HRv;go_wp2_with fail;clear s0 s1 s2 s3 sf1;generalize w5.setCell ⟨w.heap.size+1,1,none⟩ (.slice A1 L1 c1)=w6 at *;refine (RSets_any w6 b A l.length c l (HI.out.nw HSt6.out.nw) (by omega)).mono ?_;rintro e w7 ⟨b7,A7,c7,rfl,hR7,hN7⟩;have hlm:(l.map setOf).map (·.labs)=setsV (l.map valB):=by unfold setsV;rw [List.map_map,List.map_map];rfl
   have hdl:(doneOf (setsV (l.map valB))).length≤200:=by
    rw [doneOf_len];have h1:=HFV.out.lab;rw [labsV_len] at h1;unfold setsV;rw [List.map_map];exact h1
   have HBu:=hid (RBuild_any w7 b7 A7 l.length c7 (l.map setOf) (by rw [List.length_map]) (by omega) hR7 (fun x hx=>by
     obtain ⟨y,hy,rfl⟩:=List.mem_map.1 hx;have h1:=(HI.out.ok y hy).1;have h2:=labs_le hy;exact ⟨(h1.rd.nw HSt6.out.nw).nw hN7,by show y.labs.length≤1000;omega,fun z hz=>by have:=h1.small z hz;exact ⟨by simp only [maxLen];omega,by simp only [maxLen];omega⟩⟩) (by rw [hlm];omega) (fun x hx=>by
     obtain ⟨y,hy,rfl⟩:=List.mem_map.1 hx;exact HB.out.nodup _ (List.mem_map.2 ⟨valB y,List.mem_map.2 ⟨y,hy,rfl⟩,rfl⟩)))
   rw [hlm] at HBu;have HIL:=hid (idxOf_isIdx (doneOf (setsV (l.map valB)))).len;have HSt7:=hid (HSt6.out.call hN7);have HO07:=hid (HO06.out.nw hN7);have HO17:=hid (HO16.out.nw hN7);have HD7:=hid (HD6.out.nw hN7);have HOt7:=hid (HOt6.out.nw hN7);clear hlm hR7 hN7 HSt6 HO06 HO16 HD6 HOt6;go_wp2_with fail;refine HBu.out.mono ?_;rintro e w8 ⟨bE,AE,cE,E,rfl,hEk,hRE,hRx,hN8⟩;have hEl:E.length≤1000:=by
    have h1:=congrArg List.length hEk;rw [List.length_map] at h1;have:=HIL.out;omega
   have HEK:Hid (E.map keyG=posV (l.map valB)):=hid hEk;have HSt8:=hid (HSt7.out.call hN8);have HO08:=hid (HO07.out.nw hN8);have HO18:=hid (HO17.out.nw hN8);have HD8:=hid (HD7.out.nw hN8);have HPE:=hid (RPosEncode_any w8 bE g AE At E.length cE T.length ct T E rfl hEl hRE rfl (HOt7.out.nw hN8).rd HTB.out hRx (fun x hx=>HEO.out _ (by rw [← HEK.out];exact List.mem_map.2 ⟨x,hx,rfl⟩)));clear hEk hRE hRx hN8 HSt7 HO07 HO17 HD7 HOt7 HBu HIL hdl;go_wp2_with fail;refine HPE.out.mono ?_;rintro e w9 ⟨b3,A3,c3,rfl,hO3,_,hN9⟩;rw [HEK.out,← HS3.out] at hO3 ⊢;have HSt9:=hid (HSt8.out.call hN9);obtain ⟨⟨s0,s1,s2,s3⟩,sf⟩:=HSt9.out.cs;have sf3:=sf 3;obtain ⟨L3,hL3⟩:∃ L,(sec3 (l.map valB)).length=L:=⟨_,rfl⟩;rw [hL3] at hO3 ⊢;have HL3:=hid hL3;obtain ⟨q1,q2⟩:=HSt9.out.put 3 (.slice A3 L3 c3) (a0:=.slice A0 L0 c0) (a1:=.slice A1 L1 c1) (a2:=.slice Ad L2 cd) (a3:=.slice A3 L3 c3) rfl;have HStA:=hid q1;have HO0A:=hid ((HO08.out.nw hN9).ktl q2 (by decide));have HO1A:=hid ((HO18.out.nw hN9).ktl q2 (by decide));have HDA:=hid ((HD8.out.nw hN9).ktl q2 (by decide));have HO3A:=hid (hO3.ktl q2 (by decide));have r9:=HSt9.out.r;have t0:w9.cell? ⟨w.heap.size,0,none⟩=some nilS:=cell_at (k:=0) r9;have t1:w9.cell? ⟨w.heap.size,1,none⟩=some nilS:=cell_at (k:=1) r9;have t2:w9.cell? ⟨w.heap.size,2,none⟩=some nilS:=cell_at (k:=2) r9;have t3:w9.cell? ⟨w.heap.size,3,none⟩=some nilS:=cell_at (k:=3) r9;have f0:w9.frozen? ⟨w.heap.size,0,none⟩=false:=at_free r9;have f1:w9.frozen? ⟨w.heap.size,1,none⟩=false:=at_free r9;have f2:w9.frozen? ⟨w.heap.size,2,none⟩=false:=at_free r9;have f3:w9.frozen? ⟨w.heap.size,3,none⟩=false:=at_free r9;have hl9:w.heap.size+1 < w9.heap.size:=lt_of_block HSt9.out.s;clear q1 q2 hO3 hN9 hL3 sf HSt8 HO08 HO18 HD8 r9 HPE;go_wp2_with fail;generalize w9.setCell ⟨w.heap.size+1,3,none⟩ (.slice A3 L3 c3)=wA at *;have kq:=set4_kp wA w.heap.size (.slice A0 L0 c0) (.slice A1 L1 c1) (.slice Ad L2 cd) (.slice A3 L3 c3);have ow:∀ {bb nn cc:Nat} {AA:Option Addr} {xx:List Value},Ow wA bb 5 1 AA nn cc xx→Rd _ bb AA xx:=fun h=>(h.kty (kq.kty HStA.out.r) (by decide) kq.size).rd
   refine bodyPost_ret (results_c1 rfl _ _ ⟨w.heap.size,0,none⟩ rfl (run_load4R (set4_at HStA.out.r _ _ _ _))) rfl ⟨_,rfl,⟨b0,A0,c0,b1,A1,c1,bd,Ad,cd,b3,A3,c3,?_,?_,?_,ow HDA.out,ow HO3A.out⟩,Kp.nw HStA.out.nw kq (Nat.le_refl _) (Nat.le_refl _)⟩
   ·rw [HS0.out,HL0.out,HL1.out,HL2.out,HL3.out]
   ·rw [HS0.out];exact ow HO0A.out
   ·exact ow HO1A.out
end
section
open Go Go.RowKit Go.Lib Go.Sort Go.Shelf
def fileB (b:List BVal):List Nat:=fileOf (sec0 b) (sec1 b) (datS b) (sec3 b)
theorem fm_len {α:Type} (f:α→List Nat) (c:Nat) (l:List α) (h:∀ x∈l,(f x).length≤c):(l.flatMap f).length≤c*l.length:=by
 induction l with
 | nil=>simp
 | cons x l ih =>
  have h1:=h x List.mem_cons_self;have h2:=ih (fun y hy=>h y (List.mem_cons_of_mem _ hy));rw [List.flatMap_cons,List.length_append,List.length_cons,Nat.mul_succ];omega
theorem fm_lt {α:Type} {f:α→List Nat} {l:List α} (h:∀ x∈l,∀ y∈f x,y < 256):∀ y∈l.flatMap f,y < 256:=by
 intro y hy;obtain ⟨x,hx,hy⟩:=List.mem_flatMap.1 hy;exact h x hx y hy
theorem app_lt {a b:List Nat} (h1:∀ y∈a,y < 256) (h2:∀ y∈b,y < 256):∀ y∈a++b,y < 256:=by
 intro y hy;rcases List.mem_append.1 hy with h | h
 ·exact h1 y h
 ·exact h2 y h
theorem symEnc_byte (t:List ByteArray):∀ y∈symEnc t,y < 256:=app_lt (vint_lt _) (fm_lt fun s _=>lenB_lt (sB_lt s))
theorem symEnc_len {t:List ByteArray} (h:TblOk t):(symEnc t).length≤10+65545*t.length:=by
 unfold symEnc;rw [List.length_append];have h1:=vint_len t.length (by have:=h.1;omega);have h2:=lens_le t h.2.1;omega
theorem recEnc1_byte (t:List ByteArray) (x:RecV):∀ y∈recEnc1 t x,y < 256:=app_lt (app_lt (app_lt (vint_lt _) (fm_lt fun _ _=>vint_lt _)) (vint_lt _)) (fm_lt fun _ _=>vint_lt _)
theorem recEnc1_len {t:List ByteArray} (h:TblOk t) {x:RecV} (hx:RecOk t x):(recEnc1 t x).length≤30020:=by
 unfold recEnc1;obtain ⟨h1,h2,_,h4,h5⟩:=hx;have a1:=vint_len x.1.length (by omega);have a2:=vint_len x.2.length (by omega);have a3:=fm_len (fun s=>vint (idxS t s)) 10 (strsOf x.1) (fun s hs=>vint_len _ (by have:=idxS_lt (h1 s hs);have:=h.1;omega));have a4:=fm_len vint 10 x.2 (fun n hn=>vint_len _ (by have:=h5 n hn;omega));rw [strsOf_length] at a3;simp only [List.length_append];omega
theorem entEnc_byte (t:List ByteArray) (x:EntV):∀ y∈entEnc t x,y < 256:=app_lt (app_lt (fm_lt fun _ _=>vint_lt _) (vint_lt _)) (fm_lt fun _ _=>vint_lt _)
theorem difs_le {l:List Nat} {c:Nat} (h:∀ n∈l,n≤c):∀ n∈difs l,n≤c:=by
 intro n hn;obtain ⟨j,hj,rfl⟩:=List.getElem_of_mem hn;have hj':j < l.length:=by rw [difs_len] at hj;exact hj
 rw [difs_get l j hj'];have:=h l[j] (List.getElem_mem hj');omega
theorem entEnc_len {t:List ByteArray} (h:TblOk t) {x:EntV} (hx:EntOk t x):(entEnc t x).length≤10030:=by
 unfold entEnc;obtain ⟨h1,h2,h3,_,h5⟩:=hx;have a1:=vint_len x.2.length (by omega);have a2:=fm_len (fun s=>vint (idxS t s)) 10 [x.1.1,x.1.2] (fun s hs=>vint_len _ (by
  have:s∈t:=by
   simp at hs;rcases hs with rfl | rfl
   ·exact h1
   ·exact h2
  have:=idxS_lt this;have:=h.1;omega))
 have a3:=fm_len vint 10 (difs x.2) (fun n hn=>vint_len _ (by have:=difs_le h5 n hn;omega));rw [difs_len] at a3;simp only [List.length_append];simp only [List.length_cons,List.length_nil] at a2;omega
theorem secs_ok {b:List BVal} (hb:BlkV b) (hf:FewV b):(∀ y∈sec0 b,y < 256)∧(∀ y∈sec1 b,y < 256)∧(∀ y∈datS b,y < 256)∧(∀ y∈sec3 b,y < 256) ∧
  (sec0 b).length≤100000000∧(sec1 b).length≤100000000∧(datS b).length≤100000000∧(sec3 b).length≤100000000:=by
 have hT:=hb.tbl hf;have hn:=hf.n;have hl:=hf.lab;refine ⟨symEnc_byte _,app_lt (vint_lt _) (fm_lt fun x _=>recEnc1_byte _ x),fm_lt fun s _ y hy=>?_,app_lt (vint_lt _) (fm_lt fun x _=>entEnc_byte _ x),?_,?_,?_,?_⟩
 ·obtain ⟨z,hz,hy⟩:=List.mem_flatten.1 hy;obtain ⟨q,_,rfl⟩:=List.mem_map.1 hz;exact chunkB_lt q y hy
 ·have h1:=symEnc_len hT;have h2:=symT_le (labsV b);unfold sec0;omega
 ·unfold sec1 recEnc;rw [List.length_append];have h1:=vint_len (b.map recV).length (by rw [List.length_map];omega);have h2:=fm_len (recEnc1 (symT (labsV b))) 30020 (b.map recV) (fun x hx=>by
   obtain ⟨s,hs,rfl⟩:=List.mem_map.1 hx;exact recEnc1_len hT (hb.rc hf hs))
  rw [List.length_map] at h2;omega
 ·have:=datS_len hb hf b.length (Nat.le_refl _);rw [List.take_length] at this;omega
 ·unfold sec3 posEnc;rw [List.length_append];have h0:=(idxOf_isIdx (doneOf (setsV b))).len;rw [doneOf_len] at h0;have h00:((setsV b).map List.length).sum=(labsV b).length:=by rw [labsV_len];unfold setsV;rw [List.map_map];rfl
  have hE:(posV b).length≤200:=by
   show (idxOf (doneOf (setsV b))).length≤200
   omega
  have h1:=vint_len (posV b).length (by omega);have h2:=fm_len (entEnc (symT (labsV b))) 10030 (posV b) (fun x hx=>entEnc_len hT (hb.ent hf x hx));omega
theorem fileB_lt {b:List BVal} (hb:BlkV b) (hf:FewV b):∀ y∈fileB b,y < 256:=by
 obtain ⟨s0,s1,s2,s3,_⟩:=secs_ok hb hf;unfold fileB;rw [fileOf_eq];refine app_lt (addCrc_lt _ ?_) (by decide);exact app_lt (app_lt (app_lt (app_lt (app_lt hd0_lt (frame_lt (by omega) s0)) (frame_lt (by omega) s1)) (frame_lt (by omega) s2)) (frame_lt (by omega) s3)) (frame_lt (by omega) (toc_lt _ _ _ _))
end
section
open Go Go.RowKit Go.Lib Go.Sort Go.Shelf
attribute [local go_sem] Oper.semAt_some
theorem SecV.inB {W:World} {b:List BVal} {v:Value} (h:SecV W b v) (hb:BlkV b) (hf:FewV b):∃ b0 b1 b2 b3 A0 A1 A2 A3 n0 n1 n2 n3 c0 c1 c2 c3,v=.agg #[.slice A0 n0 c0,.slice A1 n1 c1,.slice A2 n2 c2,.slice A3 n3 c3] ∧
  InB W b0 A0 n0 c0 (sec0 b)∧InB W b1 A1 n1 c1 (sec1 b)∧InB W b2 A2 n2 c2 (datS b)∧InB W b3 A3 n3 c3 (sec3 b):=by
 obtain ⟨b0,A0,c0,b1,A1,c1,b2,A2,c2,b3,A3,c3,rfl,h0,h1,h2,h3⟩:=h;obtain ⟨s0,s1,s2,s3,l0,l1,l2,l3⟩:=secs_ok hb hf;exact ⟨b0,b1,b2,b3,A0,A1,A2,A3,_,_,_,_,c0,c1,c2,c3,rfl,⟨h0,rfl,l0,s0⟩,⟨h1,rfl,l1,s1⟩,⟨h2,rfl,l2,s2⟩,⟨h3,rfl,l3,s3⟩⟩
set_option maxRecDepth 100000 in
set_option maxHeartbeats 800000 in
theorem EncodeE_err (w:World) (b:Nat) (A:Option Addr) (n c:Nat) (l:List Ser) (hI:InSer w b A n c l) (hf:Fits l) (h0:blkE l≠0) :
  Calls Tryz.prog 11 #[.slice A n c] w fun e w'=>e=.returned (.tuple #[.slice none 0 0,.int .i64 (blkE l:Nat)])∧Nw w w':=by
 have HS:=hid (SectionsE_err w b A n c l hI hf h0);obtain ⟨E,hE⟩:∃ E,blkE l=E:=⟨_,rfl⟩;rw [hE] at h0 HS ⊢;have hE1:((E:Int) != 0)=true:=by rw [bne_iff_ne];omega
 clear hI hf hE;go_enter Tryz.func11,Tryz.ntmps11
 go_wp2_with fail;refine HS.out.mono ?_;rintro e w2 ⟨rfl,hN2⟩;go_wp2;go_ret2;exact ⟨rfl,hN2.alloc' _⟩
set_option maxRecDepth 100000 in
set_option maxHeartbeats 800000 in
theorem EncodeE_ok (w:World) (b:Nat) (A:Option Addr) (n c:Nat) (l:List Ser) (hI:InSer w b A n c l) (hf:Fits l) (h0:blkE l=0) (hG:Gl w) :
  Calls Tryz.prog 11 #[.slice A n c] w (NewBE w (fileB (l.map valB))):=by
 have HS:=hid (SectionsE_ok w b A n c l hI hf h0 hG);have HB:Hid (BlkV (l.map valB)):=hid (blkE_v h0 (fun s hs=>(hI.ok s hs).2.wf));have HF:=hid (fits_few hf);have HG:=hid hG;clear hI hf hG h0;go_enter Tryz.func11,Tryz.ntmps11
 go_wp2_with fail;refine HS.out.mono ?_;rintro e w2 ⟨v,rfl,hv,hN2⟩;obtain ⟨b0,b1,b2,b3,A0,A1,A2,A3,n0,n1,n2,n3,c0,c1,c2,c3,rfl,h0,h1,h2,h3⟩:=hv.inB HB.out HF.out;have hN3:Nw w2 (w2.alloc (.cells #[.slice A0 n0 c0,.slice A1 n1 c1,.slice A2 n2 c2,.slice A3 n3 c3] 34)):=(Nw.refl w2).alloc' _;have HA:=hid (Assemble_any _ b0 b1 b2 b3 A0 A1 A2 A3 n0 n1 n2 n3 c0 c1 c2 c3 _ _ _ _ (h0.nw hN3) (h1.nw hN3) (h2.nw hN3) (h3.nw hN3) (HG.out.nw (hN2.trans hN3)));have HN:=hid (hN2.trans hN3);clear h0 h1 h2 h3 hv hN2 hN3;go_wp2_with fail;refine HA.out.mono ?_;rintro e w4 ⟨b4,A4,c4,rfl,hO4,hb4,hN4⟩;go_wp2;go_ret2;exact ⟨b4,A4,c4,rfl,hO4,Nat.le_trans HN.out.size hb4,HN.out.trans hN4⟩
set_option maxRecDepth 100000 in
set_option maxHeartbeats 800000 in
theorem REncodeE_err (w:World) (b:Nat) (A:Option Addr) (n c:Nat) (l:List Ser) (hI:InSer w b A n c l) (hf:Fits l) (h0:blkE l≠0) :
  Calls Tryz.prog 12 #[.slice A n c] w fun e w'=>e=.returned (.tuple #[.slice none 0 0,.int .i64 (blkE l:Nat)])∧Nw w w':=by
 have hfl:=hf.1;have hfs:=hf.2.1;have hln:=hI.len;subst hln;have hL:=hf.2.2.1;have HS:=hid (RCheck_any w b A l.length c l hI (by omega) (by omega) (fun s hs=>by have:=labs_le hs;omega));obtain ⟨E,hE⟩:∃ E,blkE l=E:=⟨_,rfl⟩;rw [hE] at h0 HS ⊢;have hE1:((E:Int) != 0)=true:=by rw [bne_iff_ne];omega
 clear hI hf hE;go_enter Tryz.func12,Tryz.ntmps12
 go_wp2_with fail;refine HS.out.mono ?_;rintro e w2 ⟨rfl,hN2⟩;go_wp2;go_ret2;exact ⟨rfl,hN2⟩
set_option maxRecDepth 100000 in
set_option maxHeartbeats 800000 in
theorem REncodeE_ok (w:World) (b:Nat) (A:Option Addr) (n c:Nat) (l:List Ser) (hI:InSer w b A n c l) (hf:Fits l) (h0:blkE l=0) :
  Calls Tryz.prog 12 #[.slice A n c] w (NewBE w (fileB (l.map valB))):=by
 have hfl:=hf.1;have hfs:=hf.2.1;have hln:=hI.len;subst hln;have hL:=hf.2.2.1;have HC:Hid (Calls Tryz.prog 15 #[.slice A l.length c] w fun e w'=>e=.returned (.int .i64 0)∧Nw w w'):=hid (by
  have:=RCheck_any w b A l.length c l hI (by omega) (by omega) (fun s hs=>by have:=labs_le hs;omega);rw [h0] at this;exact this)
 have HS:Hid (∀ W,Nw w W→Calls Tryz.prog 17 #[.slice A l.length c] W fun e w'=>∃ v,e=.returned v∧SecV w' (l.map valB) v∧Nw W w'):=hid fun W hN=>RSections_ok W b A l.length c l (hI.nw hN) hf h0
 have HB:Hid (BlkV (l.map valB)):=hid (blkE_v h0 (fun s hs=>(hI.ok s hs).2.wf));have HF:=hid (fits_few hf);clear hI hf h0;go_enter Tryz.func12,Tryz.ntmps12
 go_wp2_with fail;refine HC.out.mono ?_;rintro e w1 ⟨rfl,hN1⟩;have HN1:=hid hN1;clear hN1;go_wp2_with fail;refine (HS.out _ HN1.out).mono ?_;rintro e w2 ⟨v,rfl,hv,hN2⟩;obtain ⟨b0,b1,b2,b3,A0,A1,A2,A3,n0,n1,n2,n3,c0,c1,c2,c3,rfl,h0,h1,h2,h3⟩:=hv.inB HB.out HF.out;have HA:=hid (RAssemble_any w2 b0 b1 b2 b3 A0 A1 A2 A3 n0 n1 n2 n3 c0 c1 c2 c3 _ _ _ _ h0 h1 h2 h3);have HN:=hid (HN1.out.trans hN2);clear h0 h1 h2 h3 hv hN2;go_wp2_with fail;refine HA.out.mono ?_;rintro e w4 ⟨b4,A4,c4,rfl,hO4,hb4,hN4⟩;go_wp2;go_ret2;exact ⟨b4,A4,c4,rfl,hO4,Nat.le_trans HN.out.size hb4,HN.out.trans hN4⟩
end
section
open Go Go.RowKit Go.Sort Go.Shelf
def oneAll:List Lab→Nat
 | []=>0
 | x::l=>if oneE x≠0 then oneE x else oneAll l
theorem CloneL_any (w:World) (b:Nat) (A:Option Addr) (n c:Nat) (l:List Lab) (hI:InLab w b A n c l) (hn:n≤1000000) :
  Calls Tryz.prog 138 #[.slice A n c] w fun e w'=>∃ g A' c',e=.returned (.slice A' n c')∧Ow w' g 124 2 A' n c' (cL l)∧Nw w w'∧((A'=none∧l=[])∨(A'=some ⟨g,0,none⟩∧w.heap.size≤g)):=by
 have hl:=hI.len;subst hl;have HI:=hid hI;have q32:∀ (w:World) (a:Option Addr) (n c n' c':Nat),(binOp .eql 48 (.slice a n c) (.slice none n' c')).run Tryz.prog w=.ok (.bool a.isNone) w:=fun w a n c n' c'=>Lib.run_eql_slice_nil w _ _ a n c n' c' Tryz.underlying48
 clear hI;cases A with
 | none =>
  have h0:l=[]:=by
   have:=HI.out.rd;rcases this with h | ⟨o,h,_⟩
   ·cases l with
    | nil=>rfl
    | cons x l=>simp [cL,c2] at h
   ·cases h
  subst h0;have hc:=HI.out.nil rfl;subst hc;go_enter Tryz.func138,Tryz.ntmps138
  go_wp2;go_ret;exact ⟨0,none,0,rfl,Ow.nil _ _ _ _,Nw.refl _,by simp⟩
 | some a =>
  have hOw:=Ow.empty w 124 2;have HOw:=hid hOw;clear hOw;go_enter Tryz.func138,Tryz.ntmps138
  go_wp2_with (at_builtin;refine wpList_app E_lab rfl (.tmp 5) (.tmp 6) rfl rfl HOw.out rfl (HI.out.rd.nw ((Nw.refl w).alloc' _)) (by rw [show (cL l).length=2*l.length from c2_length _];omega) (fun e=>by cases e) (oc_L _) (by simp only [maxLen];omega) (by omega) ?_;intro b3 A3 c3 w3 q1 q2 q3 q4;have Q1:=hid q1;have Q2:=hid q2;have Q3:=hid q3;clear q1 q2 q3 q4)
  go_ret;have h1:=Q1.out;rw [Nat.zero_add,List.nil_append] at h1;refine ⟨b3,A3,c3,rfl,h1,Kp.nw ((Nw.refl w).alloc' _) Q3.out (Nat.le_refl _) (Nat.le_refl _),?_⟩;rcases h1 with ⟨h2,_,_,h3⟩ | ⟨h2,_⟩
  ·refine .inl ⟨h2,?_⟩;cases l with
   | nil=>rfl
   | cons x l=>simp [cL,c2] at h3
  ·refine .inr ⟨h2,?_⟩;rcases Q2.out with h | h
   ·omega
   ·simp at h;omega
theorem ltOf_name (x y:Lab):ltOf (fun x y:Lab=>cmpS x.1 y.1) x y=decide (cmpS x.1 y.1 < 0):=rfl
theorem lt_name {x y:Lab}:ltOf (fun x y:Lab=>cmpS x.1 y.1) x y=true↔Op.bytesLess x.1.toList y.1.toList=true:=by
 rw [ltOf_name,decide_eq_true_iff,← cmpS_neg];rcases cmpS_in x.1 y.1 with h | h | h<;>rw [h]<;>decide
theorem swo_name:SWO (ltOf fun x y:Lab=>cmpS x.1 y.1) where
 irrefl x:=by
  rw [Bool.eq_false_iff];intro h;rw [lt_name,bl_irrefl] at h;cases h
 trans x y z h1 h2:=by
  rw [lt_name] at *;exact bl_trans _ _ _ h1 h2
 ntrans x y z h1 h2:=by
  rw [Bool.eq_false_iff] at *;intro h;rw [ne_eq,lt_name] at *;rcases bl_total x.1.toList y.1.toList with a | a | a
  ·exact h1 a
  ·rw [a] at h;exact h2 h
  ·exact h2 (bl_trans _ _ _ a h)
theorem SortL_any (w:World) (g g0 n c:Nat) (a:Addr) (l:List Lab) (hn:n=l.length) (hm:n≤1000000) (hO:Ow w g 124 2 (some a) n c (cL l)) (hc:w.cell? ⟨g0,0,none⟩=some (.func (.func 162) #[] #[])) (hne:g0≠g) :
  Calls Tryz.prog 125 #[.slice (some a) n c,.func (.func 181) #[] #[.pointer (some ⟨g0,0,none⟩)]] w fun e w'=>e=.returned (.tuple #[])∧∃ l',l'.Perm l∧l'.Pairwise (fun x y=>¬ Op.bytesLess y.1.toList x.1.toList=true)∧Ow w' g 124 2 (some a) n c (cL l')∧Kp g g w w':=by
 subst hn;obtain ⟨cs,hh,_,_,rfl⟩:=hO.heap;have hg0:=lt_of_cell hc;have eg:∀ args w,(callFunc 181 args).run Tryz.prog w=.ok (.enter 181 args) w:=enters_of Tryz.func181 (by kernel_rfl) rfl;have hO':Ow w g 124 2 (some ⟨g,0,none⟩) l.toArray.size c (c2 (fun x:Lab=>.string x.1) (fun x=>.string x.2) l.toArray.toList):=by simpa [cL] using hO
 have hcmp:CmpLays Tryz.prog 181 #[.pointer (some ⟨g0,0,none⟩)] (fun x:Lab=>[.string x.1,.string x.2]) 2 (fun x y=>cmpS x.1 y.1) g 0 l.toArray.size w:=by
  intro m os dk hd x y;have hk:=(sort_ow (α:=Lab) (f:=fun x=>.string x.1) (h:=fun x=>.string x.2) (m:=m) hO' hd os).2;have hcc:=(World.cell?_of_block (hk.block g0 hg0 hne hne) (a:=⟨g0,0,none⟩)).trans hc;refine (byC1_any _ g0 x.1 x.2 y.1 y.2 hcc).mono ?_;rintro e w' ⟨he,p,hp⟩;exact ⟨he,p.n,p.os,hp⟩
 have hcon:=AnyQ.slices_SortFunc Tryz.sortLab 2 (fun w=>by kernel_rfl) (fun w=>by kernel_rfl) (fun x:Lab=>[.string x.1,.string x.2]) (fun _=>rfl) (fun x v hv=>by simp at hv;rcases hv with rfl | rfl<;>rfl) (fun x y=>cmpS x.1 y.1) swo_name 181 #[.pointer (some ⟨g0,0,none⟩)] g 0 c l.toArray w eg hcmp (holds_ow hO') (lt_of_block hh) (by simp;omega);change Calls Tryz.prog 125 _ _ _ at hcon
 rw [List.size_toArray] at hcon;refine hcon.mono ?_;rintro e w' ⟨rfl,d',m,os,hp,hs,rfl⟩;have hd:d'.size=l.length:=by have:=hp.1;simpa using this
 have hw:=sort_ow (α:=Lab) (f:=fun x=>.string x.1) (h:=fun x=>.string x.2) (m:=m) hO hd os;refine ⟨rfl,d'.toList,?_,?_,hw.1,hw.2⟩
 ·have:=perm_of (d:=l.toArray) (d':=d') (by simpa using hp);simpa using this
 ·refine (sorted_of hs hd.symm).imp ?_;intro x y h h2;rw [lt_name.2 h2] at h;cases h
end
section
open Go Go.RowKit Go.Sort Go.Shelf
def InOrder (l' l:List Lab):Prop:=l'.Perm l∧l'.Pairwise fun x y=>¬ Op.bytesLess y.1.toList x.1.toList=true
theorem SortL0_any (w:World) (A:Option Addr) (c:Nat) (fv:Value):Calls Tryz.prog 125 #[.slice A 0 c,fv] w fun e w'=>e=.returned (.tuple #[])∧w'=w:=AnyF.slices_SortFunc_none Tryz.sortLab A c fv w
theorem SortLA_any (w:World) (g g0 n c:Nat) (A:Option Addr) (l:List Lab) (hn:n=l.length) (hm:n≤1000000) (hO:Ow w g 124 2 A n c (cL l)) (hc:w.cell? ⟨g0,0,none⟩=some (.func (.func 162) #[] #[])) (hne:A=none∨g0≠g) :
  Calls Tryz.prog 125 #[.slice A n c,.func (.func 181) #[] #[.pointer (some ⟨g0,0,none⟩)]] w fun e w'=>e=.returned (.tuple #[])∧∃ l',InOrder l' l∧Ow w' g 124 2 A n c (cL l')∧Kp g g w w'∧(A=none→Nw w w'):=by
 cases A with
 | none =>
  have hl0:l=[]:=by
   rcases hO with ⟨_,h,_⟩ | ⟨h,_⟩
   ·subst h;exact List.eq_nil_of_length_eq_zero hn.symm
   ·cases h
  subst hl0;subst hn;refine (SortL0_any w none c _).mono ?_;rintro e w' ⟨rfl,rfl⟩;exact ⟨rfl,[],⟨List.Perm.nil,List.Pairwise.nil⟩,hO,Kp.refl _ _ _,fun _=>Nw.refl _⟩
 | some a =>
  refine (SortL_any w g g0 n c a l hn hm hO hc (by rcases hne with h | h;cases h;exact h)).mono ?_;rintro e w' ⟨rfl,l',h1,h2,h3,h4⟩;exact ⟨rfl,l',⟨h1,h2⟩,h3,h4,fun h=>by cases h⟩
def NormGot (w:World) (l:List Lab) (e:Ending) (w':World):Prop :=
 Nw w w'∧((oneAll l≠0∧e=.returned (.tuple #[.slice none 0 0,.int .i64 (oneAll l:Nat)])) ∨
  (oneAll l=0∧∃ l',InOrder l' l ∧
   ((chkL l'≠0∧e=.returned (.tuple #[.slice none 0 0,.int .i64 (chkL l':Nat)])) ∨
    (chkL l'=0∧∃ g A c,e=.returned (.tuple #[.slice A l.length c,.int .i64 0])∧Ow w' g 124 2 A l.length c (cL l')∧((A=none∧l=[])∨(A=some ⟨g,0,none⟩∧w.heap.size≤g))))))
set_option maxRecDepth 100000 in
set_option maxHeartbeats 1600000 in
theorem NormL_any (w:World) (b:Nat) (A:Option Addr) (n c:Nat) (l:List Lab) (hI:InLab w b A n c l) (hn:n≤1000000) :
  Calls Tryz.prog 95 #[.slice A n c] w (NormGot w l):=by
 have hl:=hI.len;subst hl;have HR:=hid hI.rd;have HCl:=hid fun W (hN:Nw w W)=>CloneL_any W b A l.length c l (hI.nw hN) hn
 have i0:∀ W,(Instr.index 185 (.agg partFs) (.int .i64 0)).run Tryz.prog W=.ok (.agg #[.func (.func 162) #[] #[]]) W:=fun _=>by kernel_rfl
 have fl0:∀ W,(Instr.field 184 (.agg #[.func (.func 162) #[] #[]]) 0).run Tryz.prog W=.ok (.func (.func 162) #[] #[]) W:=fun _=>by kernel_rfl
 clear hI;go_enter Tryz.func95,Tryz.ntmps95
 go_wp2;go_loopw [11] (fun i wr=>∃ k:Nat,k≤l.length∧i=.int .i64 k∧Hid (oneAll l=oneAll (l.drop k))∧Hid (Nw w wr)) (fun i _=>l.length - (intOf i).toNat)
 case atStart=>exact ⟨0,by omega,rfl,hid rfl,hid (Nw.refl _)⟩
 case round =>
  obtain ⟨k,hk,rfl,HX,HN⟩:=hrel;by_cases hlt:k < l.length
  ·have hltI:(k:Int) < (l.length:Int):=by omega
   obtain ⟨o,rfl,hbw,hc0,hc1⟩:=two_at (HR.out.nw HN.out) hlt;have hX:=HX.out;rw [drop_cons hlt,show ∀ x m,oneAll (x::m)=if oneE x≠0 then oneE x else oneAll m from fun _ _=>rfl] at hX;generalize l[k]=x at *;obtain ⟨a,d⟩:=x;dsimp only at hc0 hc1;have HS:=hid fun W=>single_any W a d
   obtain ⟨E,hE⟩:∃ E,oneE (a,d)=E:=⟨_,rfl⟩;rw [hE] at HS hX;have HNA:=hid (HN.out.alloc' (.cells #[.string a,.string d] 124));clear hE;by_cases hE0:E=0
   ·have hE1:((E:Int) != 0)=false:=by rw [bne_eq_false_iff_eq];omega
    rw [if_neg (by simp [hE0])] at hX;have HX2:=hid hX;clear hX HX;go_wp2_with (go_at_call 137;refine (HS.out _).mono ?_;rintro e w3 ⟨rfl,hN3⟩)
    go_roundw
    case rel=>exact ⟨k+1,by omega,by go_num,HX2,hid (HNA.out.trans hN3)⟩
    case measure=>simp [intOf];omega
   ·have hE1:((E:Int) != 0)=true:=by rw [bne_iff_ne];omega
    rw [if_pos hE0] at hX;have HX2:=hid hX;have HE0:=hid hE0;clear hX HX hE0;go_wp2_with (go_at_call 137;refine (HS.out _).mono ?_;rintro e w3 ⟨rfl,hN3⟩)
    go_ret2;exact ⟨HNA.out.trans hN3,.inl ⟨by rw [HX2.out];exact HE0.out,by rw [HX2.out];rfl⟩⟩
  ·obtain rfl:k=l.length:=by omega
   have hX:=HX.out;rw [List.drop_length] at hX;have HX2:=hid (show oneAll l=0 from hX);clear hX HX;go_wp2_with (first
    | (go_at_call 138;refine (HCl.out _ HN.out).mono ?_;rintro e w1 ⟨g,A',c',rfl,hO1,hN1,hA1⟩)
    | (go_at_call 125;refine (SortLA_any _ g w2.heap.size _ _ A' l rfl hn (hO1.nw (hgr.nw.alloc' _)) (by rw [cell_at (heap_alloc_new w2 _)];rfl) (by rcases hA1 with h | h;exact .inl h.1;right;have h5:=hO1;rw [h.1] at h5;obtain ⟨_,h6,_⟩:=h5.heap;have h7:=lt_of_block h6;have h8:=hgr.nw.size;omega)).mono ?_;rintro e w4 ⟨rfl,l',hio,hO4,hK4,hZ4⟩)
    | (go_at_call 139;refine (by_any _ _).mono ?_;rintro e w3 ⟨rfl,rfl⟩)
    | (go_at_call 116;refine (lparts_any _).mono ?_;rintro e w2 ⟨rfl,hgr⟩))
   have hlen:l'.length=l.length:=hio.1.length_eq;have HCK:=hid (CheckL_any w4 g A' l.length c' l' hlen.symm (by omega) hO4.rd);have HIO:=hid hio;have HO4:=hid hO4;have HA1:=hid hA1;have hN4:Nw wr w4:=by
    have hN3:Nw wr (w2.alloc (.cells #[.func (.func 162) #[] #[]] 182)):=(hN1.trans hgr.nw).alloc' _;rcases hA1 with ⟨h1,_⟩ | ⟨_,h⟩
    ·exact hN3.trans (hZ4 h1)
    ·exact Kp.nw hN3 hK4 h h
   have HN4:=hid (HN.out.trans hN4);clear hio hO4 hA1 hN4 hK4 hO1 hN1 hgr hZ4;obtain ⟨C,hC⟩:∃ C,chkL l'=C:=⟨_,rfl⟩;rw [hC] at HCK;have HC:=hid hC;clear hC;refine HCK.out.mono ?_;rintro e w5 ⟨rfl,hN5⟩;by_cases h0:C=0
   ·have h0b:((C:Int) != 0)=false:=by rw [bne_eq_false_iff_eq];omega
    have HC0:=hid (HC.out.trans h0);clear h0;go_wp2;go_ret2;refine ⟨HN4.out.trans hN5,.inr ⟨HX2.out,l',HIO.out,.inr ⟨HC0.out,g,A',c',rfl,HO4.out.nw hN5,?_⟩⟩⟩;rcases HA1.out with h | ⟨h,h2⟩
    ·exact .inl h
    ·exact .inr ⟨h,Nat.le_trans HN.out.size h2⟩
   ·have h0b:((C:Int) != 0)=true:=by rw [bne_iff_ne];omega
    have HC0:=hid h0;clear h0;go_wp2;go_ret2;exact ⟨HN4.out.trans hN5,.inr ⟨HX2.out,l',HIO.out,.inl ⟨by rw [HC.out];exact HC0.out,by rw [HC.out];rfl⟩⟩⟩
end
section
open Go Go.RowKit Go.Sort Go.Shelf
theorem lt_time {x y:Smpl}:ltOf (fun x y:Smpl=>cmpI x.1 y.1) x y=true↔x.1 < y.1:=by
 unfold ltOf cmpI;rw [decide_eq_true_iff];show (if x.1 < y.1 then (-1:Int) else if y.1 < x.1 then 1 else 0) < 0↔_
 split
 ·simp;omega
 ·split
  ·simp;omega
  ·simp;omega
theorem swo_time:SWO (ltOf fun x y:Smpl=>cmpI x.1 y.1) where
 irrefl x:=by rw [Bool.eq_false_iff];intro h;rw [lt_time] at h;omega
 trans x y z h1 h2:=by rw [lt_time] at *;omega
 ntrans x y z h1 h2:=by
  rw [Bool.eq_false_iff] at *;intro h;rw [ne_eq,lt_time] at *;omega
theorem tyS (w:World):(isAgg 135).run Tryz.prog w=.ok true w:=by kernel_rfl
theorem szS (w:World):(Go.sizeOf 135).run Tryz.prog w=.ok 2 w:=by kernel_rfl
theorem tyR (w:World):(isAgg 51).run Tryz.prog w=.ok true w:=by kernel_rfl
theorem szR (w:World):(Go.sizeOf 51).run Tryz.prog w=.ok 2 w:=by kernel_rfl
abbrev encS:Smpl→List Value:=fun z=>[.int .i64 z.1,.int .u64 (z.2:Int)]
theorem egS (args:Array Value) (w:World):(callFunc 97 args).run Tryz.prog w=.ok (.enter 97 args) w:=enters_of Tryz.func97 (by kernel_rfl) rfl args w
theorem egR (args:Array Value) (w:World):(callFunc 66 args).run Tryz.prog w=.ok (.enter 66 args) w:=enters_of Tryz.func66 (by kernel_rfl) rfl args w
theorem cmpLaysS (blk size:Nat) (w:World):CmpLays Tryz.prog 97 #[] encS 2 (fun x y=>cmpI x.1 y.1) blk 0 size w:=by
 intro m os dk hd x y;refine (byTime_any _ x.1 y.1 x.2 y.2).mono ?_;rintro e w' ⟨he,p,hp⟩;exact ⟨he,p.n,p.os,hp⟩
end
section
open Go Go.RowKit Go.Sort Go.Shelf
section
variable {w w':World} {b n c g g':Nat} {A:Option Addr}
theorem InLab.kp {l:List Lab} (h:InLab w b A n c l) (hk:Kp g g' w w') (h1:b≠g) (h2:b≠g'):InLab w' b A n c l:=⟨h.rd.kp hk h1 h2,h.len,h.nil,h.cap,h.max,h.small⟩
theorem InSmp.kp {l:List Smpl} (h:InSmp w b A n c l) (hk:Kp g g' w w') (h1:b≠g) (h2:b≠g'):InSmp w' b A n c l:=⟨h.rd.kp hk h1 h2,h.len,h.wf,h.nil,h.cap,h.max⟩
theorem SerOk.kp {s:Ser} (h:SerOk w s) (hk:Kp g g w w') (h1:s.bl≠g) (h2:s.bs≠g):SerOk w' s:=⟨h.1.kp hk h1 h1,h.2.kp hk h2 h2⟩
end
def PS (w:World) (g:Nat) (s:Ser):Prop:=SerOk w s∧s.bl≠g∧s.bs≠g∧s.labs.length≤1000000
abbrev fR:Ser→Value:=fun s=>.slice s.al s.labs.length s.cl
abbrev hR:Ser→Value:=fun s=>.slice s.as_ s.smps.length s.cs
theorem c2_val {α β:Type} {f h:β→Value} (κ:α→β) (l:List α):c2 (fun x=>f (κ x)) (fun x=>h (κ x)) l=c2 f h (l.map κ):=by
 unfold c2;rw [List.flatMap_map]
theorem pmap_val {α:Type} {p:α→Prop} (l:List α) (h:∀ a∈l,p a):(l.pmap Subtype.mk h).map (·.1)=l:=by
 rw [List.map_pmap];simp
theorem cmpLaysR (w:World) (g size n c:Nat) (xs:List Value) [Inhabited {s:Ser // PS w g s}] (hO:Ow w g 51 2 (some ⟨g,0,none⟩) n c xs) (hn:size=n) :
  CmpLays Tryz.prog 66 #[] (fun x:{s:Ser // PS w g s}=>[fR x.1,hR x.1]) 2 (fun x y=>cmpLs x.1.labs y.1.labs) g 0 size w:=by
 intro m os dk hd x y;have hk:=(sort_ow (α:={s:Ser // PS w g s}) (f:=fun x=>fR x.1) (h:=fun x=>hR x.1) (m:=m) hO (hd.trans hn) os).2;refine (bySet_any _ x.1 y.1 (x.2.1.kp hk x.2.2.1 x.2.2.2.1) (y.2.1.kp hk y.2.2.1 y.2.2.2.1) x.2.2.2.2 y.2.2.2.2).mono ?_;rintro e w' ⟨he,p,hp⟩;exact ⟨he,p.n,p.os,hp⟩
theorem InsR_any (w:World) (g n c:Nat) (l:List Ser) (hn:n=l.length) (hm:n≤1000000) (hO:Ow w g 51 2 (some ⟨g,0,none⟩) n c (cR l)) (hP:∀ s∈l,PS w g s) :
  Calls Tryz.prog 185 #[.slice (some ⟨g,0,none⟩) n c,.int .i64 0,.int .i64 (n:Int),.func (.func 66) #[] #[]] w fun e w'=>e=.returned (.tuple #[])∧∃ l',l'.Perm l∧l'.Pairwise (fun x y=>¬ cmpLs y.labs x.labs = -1)∧Ow w' g 51 2 (some ⟨g,0,none⟩) n c (cR l')∧Kp g g w w':=by
 subst hn;by_cases h0:l=[]
 ·subst h0;have h:=AnyF.insertionSortCmpFunc_none Tryz.insSer (some ⟨g,0,none⟩) c (.func (.func 66) #[] #[]) w;refine (show Calls Tryz.prog 185 _ _ _ from h).mono ?_;rintro e w' ⟨rfl,rfl⟩;exact ⟨rfl,[],List.Perm.nil,List.Pairwise.nil,hO,Kp.refl _ _ _⟩
 ·obtain ⟨s0,hs0⟩:∃ s,s∈l:=by
   cases l with
   | nil=>exact (h0 rfl).elim
   | cons x l=>exact ⟨x,List.mem_cons_self⟩
  haveI:Inhabited {s:Ser // PS w g s}:=⟨⟨s0,hP s0 hs0⟩⟩
  obtain ⟨L,hL⟩:∃ L:List {s:Ser // PS w g s},L.map (·.1)=l:=⟨_,pmap_val l hP⟩;have hlen:L.length=l.length:=by rw [← hL,List.length_map]
  have hO':Ow w g 51 2 (some ⟨g,0,none⟩) L.toArray.size c (c2 (fun x:{s:Ser // PS w g s}=>fR x.1) (fun x=>hR x.1) L.toArray.toList):=by
   rw [List.size_toArray,List.toList_toArray,c2_val (f:=fR) (h:=hR) (fun x:{s:Ser // PS w g s}=>x.1) L,hL,hlen];exact hO
  obtain ⟨cs,hh,_⟩:=hO.heap;have hcon:=AnyQ.insertionSortCmpFunc Tryz.insSer 2 tyR szR (fun x:{s:Ser // PS w g s}=>[fR x.1,hR x.1]) (fun _=>rfl) (fun x v hv=>by simp at hv;rcases hv with rfl | rfl<;>rfl) (fun x y=>cmpLs x.1.labs y.1.labs) 66 #[] g 0 c 0 L.toArray.size L.toArray w egR (cmpLaysR w g _ _ c _ hO (by simpa using hlen)) (holds_ow hO') (lt_of_block hh) (Nat.zero_le _) (Nat.le_refl _) (by simp;omega);change Calls Tryz.prog 185 _ _ _ at hcon
  rw [List.size_toArray,hlen] at hcon;refine hcon.mono ?_;rintro e w' ⟨rfl,m,os,rfl⟩;obtain ⟨hp,hs⟩:=insertionSort_holds (lt:=ltOf fun x y:{s:Ser // PS w g s}=>cmpLs x.1.labs y.1.labs) (cmp3_Ls.swo fun x:{s:Ser // PS w g s}=>x.1.labs) L.toArray 0 l.length (Nat.zero_le _) (by simp [hlen]);generalize Sort.insertionSort (ltOf fun x y:{s:Ser // PS w g s}=>cmpLs x.1.labs y.1.labs) L.toArray 0 l.length=d' at *;have hd:d'.size=l.length:=by have:=hp.1;simpa [hlen] using this
  have hw:=sort_ow (α:={s:Ser // PS w g s}) (f:=fun x=>fR x.1) (h:=fun x=>hR x.1) (m:=m) hO hd os;refine ⟨rfl,d'.toList.map (·.1),?_,?_,?_,hw.2⟩
  ·have:=perm_of (d:=L.toArray) (d':=d') (by simpa [hlen] using hp);rw [List.toList_toArray] at this;rw [← hL];exact this.map _
  ·rw [List.pairwise_map];refine (sorted_of hs hd.symm).imp ?_;intro x y h h2;rw [(cmp3_Ls.lt (κ:=fun x:{s:Ser // PS w g s}=>x.1.labs)).2 h2] at h;cases h
  ·have:=hw.1;rw [c2_val (f:=fR) (h:=hR) (fun x:{s:Ser // PS w g s}=>x.1)] at this;exact this
set_option maxRecDepth 100000 in
theorem stableR_any (w:World) (g n c:Nat) (l:List Ser) (hn:n=l.length) (hm:n < 20) (hO:Ow w g 51 2 (some ⟨g,0,none⟩) n c (cR l)) (hP:∀ s∈l,PS w g s) :
  Calls Tryz.prog 142 #[.slice (some ⟨g,0,none⟩) n c,.int .i64 (n:Int),.func (.func 66) #[] #[]] w fun e w'=>e=.returned (.tuple #[])∧∃ l',l'.Perm l∧l'.Pairwise (fun x y=>¬ cmpLs y.labs x.labs = -1)∧Ow w' g 51 2 (some ⟨g,0,none⟩) n c (cR l')∧Kp g g w w':=by
 have HI:=hid (InsR_any w g n c l hn (by omega) hO hP);have h1:¬ (20:Int)≤(n:Int):=by omega
 have h2:¬ (20:Int) < (n:Int):=by omega
 clear hO hn hP;go_enter Tryz.func142,Tryz.ntmps142
 go_wp2;refine wp_loop_rounds 1 ?_;rw [rounds_succ];go_wp2_with (go_at_call 185;refine HI.out.mono ?_;rintro e w1 ⟨rfl,hR⟩)
 have HR:=hid hR;clear hR;refine wp_loop_rounds 1 ?_;rw [rounds_succ];go_wp2;go_end0
 exact ⟨rfl,HR.out⟩
end
section
open Go Go.Sort
section
variable {α:Type} [Inhabited α] {lt:α→α→Bool}
theorem eqAt {d:Array α} {x y:Nat} (h:x=y):d[x]! = d[y]!:=by rw [h]
def rot (d:Array α) (a m b p:Nat):α:=if a≤p∧p < a+(b - m) then d[p+(m - a)]! else if a+(b - m)≤p∧p < b then d[p - (b - m)]! else d[p]!
def exch (d:Array α) (a b n p:Nat):α:=if a≤p∧p < a+n then d[p+(b - a)]! else if b≤p∧p < b+n then d[p - (b - a)]! else d[p]!
structure Rot (d:Array α) (a m b:Nat) (d':Array α):Prop where
 perm:PermIn a b d d'
 at_:∀ p,d'[p]! = rot d a m b p
structure Exch (d:Array α) (a b n:Nat) (d':Array α):Prop where
 perm:∀ lo hi,lo≤a→b+n≤hi→hi≤d.size→PermIn lo hi d d'
 at_:∀ p,d'[p]! = exch d a b n p
theorem Exch.zero (d:Array α) (a b:Nat):Exch d a b 0 d:=by
 refine ⟨fun lo hi _ _ _=>permIn_refl _ _ _,fun p=>?_⟩;unfold exch;rw [if_neg (by omega),if_neg (by omega)]
theorem Exch.step {d d':Array α} {a b i n:Nat} (h:Exch d a b i d') (hab:a+n≤b) (hi:i < n) (hb:b+n≤d.size):Exch d a b (i+1) (swp d' (a+i) (b+i)):=by
 have hs:d'.size=d.size:=(h.perm 0 d.size (by omega) (by omega) (Nat.le_refl _)).1;refine ⟨fun lo hi' h1 h2 h3=>permIn_trans _ _ _ _ _ (h.perm lo hi' h1 (by omega) h3) (swp_permIn _ _ _ _ _ (by omega) (by omega) (by omega) (by omega) (by omega)),fun p=>?_⟩;rw [swp_get _ (by omega) (by omega),h.at_,h.at_,h.at_];unfold exch;by_cases h1:p=b+i
 ·subst h1;rw [if_pos rfl,if_neg (by omega),if_neg (by omega),if_neg (by omega),if_pos (by omega)];exact eqAt (by omega)
 ·rw [if_neg h1];by_cases h2:p=a+i
  ·subst h2;rw [if_pos rfl,if_neg (by omega),if_neg (by omega),if_pos (by omega)];exact eqAt (by omega)
  ·rw [if_neg h2];by_cases h3:a≤p∧p < a+i
   ·rw [if_pos h3,if_pos (by omega)]
   ·rw [if_neg h3,if_neg (c:=a≤p∧p < a+(i+1)) (by omega)];by_cases h4:b≤p∧p < b+i
    ·rw [if_pos h4,if_pos (by omega)]
    ·rw [if_neg h4,if_neg (by omega)]
theorem Rot.none {d:Array α} {a m b:Nat} (h:a=m∨b=m) (h1:a≤m) (h2:m≤b):Rot d a m b d:=by
 refine ⟨permIn_refl _ _ _,fun p=>?_⟩;unfold rot;rcases h with rfl | rfl
 ·rw [show a - a=0 by omega];by_cases h3:a≤p∧p < a+(b - a)
  ·rw [if_pos h3];rfl
  ·rw [if_neg h3,if_neg (by omega)]
 ·rw [if_neg (by omega),show b - b=0 by omega];by_cases h3:a+0≤p∧p < b
  ·rw [if_pos h3];rfl
  ·rw [if_neg h3]
theorem Rot.last {d d':Array α} {m i:Nat} (h:Exch d (m - i) m i d') (hi:i≤m) (hm:m+i≤d.size):Rot d (m - i) m (m+i) d':=by
 refine ⟨h.perm _ _ (Nat.le_refl _) (Nat.le_refl _) hm,fun p=>?_⟩;rw [h.at_];unfold rot exch;by_cases h1:m - i≤p∧p < m - i+i
 ·rw [if_pos h1,if_pos (by omega)]
 ·rw [if_neg h1,if_neg (c:=m - i≤p∧p < m - i+(m+i - m)) (by omega)];by_cases h2:m≤p∧p < m+i
  ·rw [if_pos h2,if_pos (by omega)];exact eqAt (by omega)
  ·rw [if_neg h2,if_neg (by omega)]
theorem rot_gt {d d':Array α} {m i j:Nat} (h:Exch d (m - i) m j d') (hj:j < i) (hi:i≤m) (p:Nat):rot d' (m - (i - j)) m (m+j) p=rot d (m - i) m (m+j) p:=by
 unfold rot;rw [h.at_,h.at_,h.at_];unfold exch;by_cases h1:m - i≤p∧p < m - i+j
 ·rw [if_neg (by omega),if_neg (by omega),if_pos h1,if_pos (by omega)]
 ·rw [if_neg (c:=m - i≤p∧p < m - i+(m+j - m)) (by omega)];by_cases h2:m - i+j≤p∧p < m - i+j+j
  ·rw [if_pos (by omega)];by_cases h3:p+(m - (m - (i - j))) < m
   ·exfalso;omega
   ·rw [if_neg (by omega),if_pos (by omega),if_pos (by omega)];exact eqAt (by omega)
  ·rw [if_neg (by omega)];by_cases h3:p < m+j
   ·by_cases h4:m - i≤p
    ·rw [if_pos (by omega),if_neg (by omega),if_neg (by omega),if_pos (by omega)]
    ·rw [if_neg (by omega),if_neg (by omega),if_neg (by omega),if_neg (by omega)]
   ·rw [if_neg (by omega),if_neg (by omega),if_neg (by omega),if_neg (by omega)]
theorem rot_lt {d d':Array α} {m i j:Nat} (h:Exch d (m - i) (m+j - i) i d') (hj:i < j) (hi:i≤m) (p:Nat):rot d' (m - i) m (m+(j - i)) p=rot d (m - i) m (m+j) p:=by
 unfold rot;rw [h.at_,h.at_,h.at_];unfold exch;by_cases h1:m - i≤p∧p < m - i+(j - i)
 ·rw [if_pos (by omega),if_pos (c:=m - i≤p∧p < m - i+(m+j - m)) (by omega)];by_cases h2:p+(m - (m - i)) < m
  ·exfalso;omega
  ·rw [if_neg (by omega),if_neg (by omega)]
 ·rw [if_neg (by omega)];by_cases h2:m - i+(j - i)≤p∧p < m+j - i
  ·rw [if_pos (by omega)];by_cases h3:p < m - i+j
   ·rw [if_pos (c:=m - i≤p∧p < m - i+(m+j - m)) (by omega),if_pos (by omega)];exact eqAt (by omega)
   ·exfalso;omega
  ·rw [if_neg (by omega)];by_cases h3:m+j - i≤p∧p < m+j
   ·rw [if_neg (by omega),if_pos (by omega),if_neg (by omega),if_pos (by omega)];exact eqAt (by omega)
   ·rw [if_neg (by omega),if_neg (by omega),if_neg (by omega),if_neg (by omega)]
theorem Rot.up {d d':Array α} {a k:Nat} (h:Rot d a (a+1) (k+1) d') (hk:a≤k) (hs:k+1 < d.size):Rot d a (a+1) (k+1+1) (swp d' k (k+1)):=by
 have hz:=h.perm.1;refine ⟨permIn_trans _ _ _ _ _ (permIn_mono _ _ _ _ _ _ (Nat.le_refl _) (by omega) (by omega) h.perm) (swp_permIn _ _ _ _ _ (by omega) (by omega) (by omega) (by omega) (by omega)),fun p=>?_⟩;rw [swp_get _ (by omega) (by omega),h.at_,h.at_,h.at_];unfold rot;by_cases h1:p=k+1
 ·subst h1;rw [if_pos rfl,if_neg (by omega),if_pos (by omega),if_neg (by omega),if_pos (by omega)];exact eqAt (by omega)
 ·rw [if_neg h1];by_cases h2:p=k
  ·subst h2;rw [if_pos rfl,if_neg (by omega),if_neg (by omega),if_pos (by omega)];exact eqAt (by omega)
  ·rw [if_neg h2];by_cases h3:a≤p∧p < k
   ·rw [if_pos (by omega),if_pos (by omega)]
   ·rw [if_neg (by omega),if_neg (by omega),if_neg (by omega),if_neg (by omega)]
theorem Rot.down {d d':Array α} {m k:Nat} (h:Rot d (k+1) m (m+1) d') (hk:k < m) (hs:m < d.size):Rot d k m (m+1) (swp d' (k+1) k):=by
 have hz:=h.perm.1;refine ⟨permIn_trans _ _ _ _ _ (permIn_mono _ _ _ _ _ _ (by omega) (Nat.le_refl _) (by omega) h.perm) (swp_permIn _ _ _ _ _ (by omega) (by omega) (by omega) (by omega) (by omega)),fun p=>?_⟩;rw [swp_get _ (by omega) (by omega),h.at_,h.at_,h.at_];unfold rot;by_cases h1:p=k
 ·subst h1;rw [if_pos rfl,if_pos (by omega),if_pos (by omega)];exact eqAt (by omega)
 ·rw [if_neg h1];by_cases h2:p=k+1
  ·subst h2;rw [if_pos rfl,if_neg (by omega),if_neg (by omega),if_neg (by omega),if_pos (by omega)];exact eqAt (by omega)
  ·rw [if_neg h2,if_neg (by omega),if_neg (c:=k≤p∧p < k+(m+1 - m)) (by omega)];by_cases h3:k+2≤p∧p < m+1
   ·rw [if_pos (by omega),if_pos (by omega)]
   ·rw [if_neg (by omega),if_neg (by omega)]
theorem srt_le (hS:SWO lt) {d:Array α} {a b i j:Nat} (h:SortedIn lt a b d) (h1:a≤i) (h2:i≤j) (h3:j < b):lt d[j]! d[i]! = false:=by
 rcases Nat.lt_or_eq_of_le h2 with h2 | rfl
 ·exact h i j h1 h2 h3
 ·exact hS.irrefl _
theorem SortedIn.sub {d:Array α} {a b a' b':Nat} (h:SortedIn lt a b d) (h1:a≤a') (h2:b'≤b):SortedIn lt a' b' d:=fun i j hi hij hj=>h i j (by omega) hij (by omega)
theorem SortedIn.same {d d':Array α} {a b lo hi:Nat} (h:SortedIn lt a b d) (hp:PermIn lo hi d d') (h1:b≤lo∨hi≤a):SortedIn lt a b d':=fun i j hi hij hj=>by
 rw [hp.2.1 i (by omega),hp.2.1 j (by omega)];exact h i j hi hij hj
section
variable {d d1:Array α} {a m b s e:Nat}
theorem rot_low (hR:Rot d s m e d1) {p:Nat} (hp:p < s):d1[p]! = d[p]!:=by rw [hR.at_];unfold rot;rw [if_neg (by omega),if_neg (by omega)]
theorem rot_left (hR:Rot d s m e d1) {p:Nat} (hp:s≤p) (hq:p < s+(e - m)):d1[p]! = d[p+(m - s)]!:=by rw [hR.at_];unfold rot;rw [if_pos (by omega)]
theorem rot_right (hR:Rot d s m e d1) {p:Nat} (hp:s+(e - m)≤p) (hq:p < e):d1[p]! = d[p - (e - m)]!:=by rw [hR.at_];unfold rot;rw [if_neg (by omega),if_pos (by omega)]
theorem rot_high (hR:Rot d s m e d1) {p:Nat} (hp:e≤p) (h2:s≤m) (h3:m≤e):d1[p]! = d[p]!:=by rw [hR.at_];unfold rot;rw [if_neg (by omega),if_neg (by omega)]
theorem rot_parts (hU:SortedIn lt a m d) (hV:SortedIn lt m b d) (h1:a≤s) (h2:s≤m) (h3:m≤e) (h4:e≤b) (hR:Rot d s m e d1):SortedIn lt a s d1∧SortedIn lt s (s+(e - m)) d1∧SortedIn lt (s+(e - m)) e d1∧SortedIn lt e b d1:=by
 refine ⟨fun i j hi hij hj=>?_,fun i j hi hij hj=>?_,fun i j hi hij hj=>?_,fun i j hi hij hj=>?_⟩
 ·rw [rot_low hR (p:=j) hj,rot_low hR (p:=i) (by omega)];exact hU i j (by omega) hij (by omega)
 ·rw [rot_left hR (p:=i) (by omega) (by omega),rot_left hR (p:=j) (by omega) hj];exact hV _ _ (by omega) (by omega) (by omega)
 ·rw [rot_right hR (p:=i) (by omega) (by omega),rot_right hR (p:=j) (by omega) hj];exact hU _ _ (by omega) (by omega) (by omega)
 ·rw [rot_high hR (p:=i) (by omega) (by omega) (by omega),rot_high hR (p:=j) (by omega) (by omega) (by omega)];exact hV _ _ (by omega) (by omega) (by omega)
theorem rot_cross (hU:SortedIn lt a m d) (hV:SortedIn lt m b d) (h1:a≤s) (h2:s≤m) (h3:m≤e) (h4:e≤b) (hR:Rot d s m e d1) (hS:SWO lt) (hA:s=a∨e=b∨lt d[e]! d[s - 1]! = false) (hB:s=m∨e=m∨lt d[s]! d[e - 1]! = false) (p q:Nat) (hp:a≤p) (hp2:p < s+(e - m)) (hq:s+(e - m)≤q) (hq2:q < b):lt d1[q]! d1[p]! = false:=by
 by_cases c1:p < s
 ·rw [rot_low hR c1];by_cases c2:q < e
  ·rw [rot_right hR hq c2];exact hU _ _ (by omega) (by omega) (by omega)
  ·rw [rot_high hR (by omega) (by omega) (by omega)];rcases hA with h | h | h
   ·exfalso;omega
   ·exfalso;omega
   ·exact hS.ntrans _ _ _ (hS.ntrans _ _ _ (srt_le hS hV (by omega) (show e≤q by omega) hq2) h) (srt_le hS hU hp (by omega) (by omega))
 ·rw [rot_left hR (by omega) hp2];by_cases c2:q < e
  ·rw [rot_right hR hq c2];rcases hB with h | h | h
   ·exfalso;omega
   ·exfalso;omega
   ·exact hS.ntrans _ _ _ (hS.ntrans _ _ _ (srt_le hS hU h1 (by omega) (by omega)) h) (srt_le hS hV (by omega) (by omega) (by omega))
  ·rw [rot_high hR (by omega) (by omega) (by omega)];exact hV _ _ (by omega) (by omega) (by omega)
theorem mer_of (hU:SortedIn lt a m d) (hV:SortedIn lt m b d) (h1:a≤s) (h2:s≤m) (h3:m≤e) (h4:e≤b) (hR:Rot d s m e d1) (hS:SWO lt) (hb:b≤d.size) (hA:s=a∨e=b∨lt d[e]! d[s - 1]! = false) (hB:s=m∨e=m∨lt d[s]! d[e - 1]! = false) {d2 d3:Array α} {mid:Nat} (hm:mid=s+(e - m))
  (p2:PermIn a mid d1 d2) (s2:SortedIn lt a mid d2) (p3:PermIn mid b d2 d3) (s3:SortedIn lt mid b d3):PermIn a b d d3∧SortedIn lt a b d3:=by
 have z1:=hR.perm.1;have z2:=p2.1;have hc:=rot_cross hU hV h1 h2 h3 h4 hR hS hA hB;subst hm;refine ⟨permIn_trans _ _ _ _ _ (permIn_mono _ _ _ _ _ _ h1 h4 hb hR.perm) (permIn_trans _ _ _ _ _ (permIn_mono _ _ _ _ _ _ (Nat.le_refl _) (by omega) (by omega) p2) (permIn_mono _ _ _ _ _ _ (by omega) (Nat.le_refl _) (by omega) p3)),fun i j hi hij hj=>?_⟩;by_cases c1:j < s+(e - m)
 ·rw [p3.2.1 i (by omega),p3.2.1 j (by omega)];exact s2 i j hi hij c1
 ·by_cases c2:s+(e - m)≤i
  ·exact s3 i j c2 hij hj
  ·rw [p3.2.1 i (by omega)];refine permIn_all d2 d3 _ b (fun x=>lt x d2[i]! = false) (by omega) p3 (fun q hq hq2=>?_) j (by omega) hj;rw [p2.2.1 q (by omega)];exact permIn_all d1 d2 a _ (fun x=>lt d1[q]! x=false) (by omega) p2 (fun p hp hp2=>hc p q hp hp2 hq hq2) i hi (by omega)
end
theorem mer_up (hS:SWO lt) {d d1:Array α} {a b i:Nat} (hV:SortedIn lt (a+1) b d) (hi:a+1≤i) (hib:i≤b) (hb:b≤d.size) (hA:i=a+1∨lt d[i - 1]! d[a]! = true) (hB:i=b∨lt d[i]! d[a]! = false) (hR:Rot d a (a+1) i d1):PermIn a b d d1∧SortedIn lt a b d1:=by
 have hU:SortedIn lt a (a+1) d:=fun x y h1 h2 h3=>by omega
 have hP:=rot_parts hU hV (Nat.le_refl a) (by omega) hi hib hR;refine mer_of hU hV (Nat.le_refl a) (by omega) hi hib hR hS hb (.inl rfl) ?_ (mid:=a+(i - (a+1))) rfl (permIn_refl _ _ _) hP.2.1 (permIn_refl _ _ _) (fun x y h1 h2 h3=>?_)
 ·rcases hA with h | h
  ·exact .inr (.inl h)
  ·exact .inr (.inr (hS.asymmA h))
 ·by_cases c:i≤x
  ·exact hP.2.2.2 x y c h2 h3
  ·rw [rot_right hR h1 (by omega),rot_high hR (by omega) (by omega) (by omega)];rcases hB with h | h
   ·exfalso;omega
   ·rw [show x - (i - (a+1))=a by omega];exact hS.ntrans _ _ _ (srt_le hS hV hi (by omega) h3) h
theorem mer_down (hS:SWO lt) {d d1:Array α} {a m i:Nat} (hU:SortedIn lt a m d) (hi:a≤i) (him:i≤m) (hb:m+1≤d.size) (hA:i=a∨lt d[m]! d[i - 1]! = false) (hB:i=m∨lt d[m]! d[i]! = true) (hR:Rot d i m (m+1) d1):PermIn a (m+1) d d1∧SortedIn lt a (m+1) d1:=by
 have hV:SortedIn lt m (m+1) d:=fun x y h1 h2 h3=>by omega
 have hP:=rot_parts hU hV hi him (by omega) (Nat.le_refl (m+1)) hR;refine mer_of hU hV hi him (by omega) (Nat.le_refl (m+1)) hR hS hb (.inr (.inl rfl)) ?_ (mid:=i+(m+1 - m)) rfl (permIn_refl _ _ _) (fun x y h1 h2 h3=>?_) (permIn_refl _ _ _) hP.2.2.1
 ·rcases hB with h | h
  ·exact .inl h
  ·refine .inr (.inr ?_);exact hS.asymmA h
 ·by_cases c:y < i
  ·exact hP.1 x y h1 h2 c
  ·rw [rot_low hR (p:=x) (by omega),rot_left hR (p:=y) (by omega) h3];rcases hA with h | h
   ·exfalso;omega
   ·rw [show y+(m - i)=m by omega];exact hS.ntrans _ _ _ h (srt_le hS hU h1 (by omega) (by omega))
def Blk (lt:α→α→Bool) (bs T n:Nat) (d:Array α):Prop:=∀ t,T≤t→SortedIn lt (t*bs) (min ((t+1)*bs) n) d
def Upto (lt:α→α→Bool) (bs T:Nat) (d:Array α):Prop:=∀ t,t < T→SortedIn lt (t*bs) ((t+1)*bs) d
theorem Upto.zero (bs:Nat) (d:Array α):Upto lt bs 0 d:=fun t h=>by omega
theorem mul_lt_of {t T bs:Nat} (h:t < T):(t+1)*bs≤T*bs:=Nat.mul_le_mul_right bs h
theorem Upto.step {bs T a b:Nat} {d d':Array α} (h:Upto lt bs T d) (ha:a=T*bs) (hb:b=a+bs) (hp:PermIn a b d d') (hs:SortedIn lt a b d'):Upto lt bs (T+1) d':=by
 subst ha hb;intro t ht;by_cases h1:t < T
 ·exact SortedIn.same (h t h1) hp (.inl (mul_lt_of h1))
 ·obtain rfl:t=T:=by omega
  rw [Nat.add_mul,Nat.one_mul];exact hs
theorem Upto.blk {bs T a n:Nat} {d d':Array α} (h:Upto lt bs T d) (ha:a=T*bs) (hn:n < a+bs) (hp:PermIn a n d d') (hs:SortedIn lt a n d'):Blk lt bs 0 n d':=by
 subst ha;intro t _;by_cases h1:t < T
 ·refine SortedIn.sub (SortedIn.same (h t h1) hp (.inl (mul_lt_of h1))) (Nat.le_refl _) (Nat.min_le_left _ _)
 ·by_cases h2:t=T
  ·subst h2;exact SortedIn.sub hs (Nat.le_refl _) (Nat.min_le_right _ _)
  ·intro i j hi hij hj;have:=mul_lt_of (bs:=bs) (show T < t by omega);rw [Nat.add_mul,Nat.one_mul] at this;have:=Nat.min_le_right ((t+1)*bs) n;omega
theorem Blk.all {bs n:Nat} {d:Array α} (h:Blk lt bs 0 n d) (hb:n≤bs):SortedIn lt 0 n d:=by
 have:=h 0 (Nat.le_refl _);rw [Nat.zero_mul,Nat.zero_add,Nat.one_mul,Nat.min_eq_right hb] at this;exact this
theorem Blk.one {bs T n a:Nat} {d:Array α} (h:Blk lt bs (2*T) n d) (ha:a=T*(2*bs)):SortedIn lt a (min (a+bs) n) d:=by
 have:=h (2*T) (Nat.le_refl _);have e:2*T*bs=T*(2*bs):=by rw [Nat.mul_comm 2 T,Nat.mul_assoc]
 rw [Nat.add_mul,Nat.one_mul,e,← ha] at this;exact this
theorem Blk.two {bs T n a:Nat} {d:Array α} (h:Blk lt bs (2*T) n d) (ha:a=T*(2*bs)):SortedIn lt (a+bs) (min (a+2*bs) n) d:=by
 have:=h (2*T+1) (by omega);have e:2*T*bs=T*(2*bs):=by rw [Nat.mul_comm 2 T,Nat.mul_assoc]
 rw [show 2*T+1+1=2*T+2 by omega,Nat.add_mul,Nat.add_mul,Nat.one_mul,e,← ha] at this;exact this
theorem Blk.step {bs T n a:Nat} {d d':Array α} (h:Blk lt bs (2*T) n d) (ha:a=T*(2*bs)) (hp:PermIn a (a+2*bs) d d'):Blk lt bs (2*(T+1)) n d':=by
 intro t ht;refine SortedIn.same (h t (by omega)) hp (.inr ?_);have e:2*T*bs=T*(2*bs):=by rw [Nat.mul_comm 2 T,Nat.mul_assoc]
 have:=Nat.mul_le_mul_right bs (show 2*T+2≤t by omega);rw [Nat.add_mul,e,← ha] at this;exact this
end
end
section
open Go Go.RowKit Go.Sort Go.Shelf
section
variable {α:Type} [Inhabited α] {f h:α→Value} {w0:World} {blk:Nat} {d0:Array α}
def enc2 {α:Type} (f h:α→Value):α→List Value:=fun x=>[f x,h x]
theorem at2 {dk:Array α} {W:World} (S:SWK (enc2 f h) 2 w0 blk 0 dk W) (R:RowK (enc2 f h) 2 w0 blk 0 d0) (hs:dk.size=d0.size) (i:Nat) (hi:i < dk.size) :
  W.cell? ⟨blk,i*2,none⟩=some (f dk[i]!)∧W.cell? ⟨blk,i*2+1,none⟩=some (h dk[i]!)∧W.frozen? ⟨blk,i*2,none⟩=false∧W.frozen? ⟨blk,i*2+1,none⟩=false:=by
 have hH:=S.holds R.hblk R.hH hs;have h1:=hH (i*2) (by rw [size_flatK];omega);have h2:=hH (i*2+1) (by rw [size_flatK];omega);rw [get_flatK _ _ _ _ (by omega),Nat.zero_add] at h1 h2;rw [show i*2 / 2=i by omega,show i*2 % 2=0 by omega] at h1;rw [show (i*2+1) / 2=i by omega,show (i*2+1) % 2=1 by omega] at h2;exact ⟨h1.1,h2.1,h1.2,h2.2⟩
theorem one2a (R:RowK (enc2 f h) 2 w0 blk 0 d0) (x:α):(f x).oneCell'=true:=R.h1 x _ (by unfold enc2;simp)
theorem one2b (R:RowK (enc2 f h) 2 w0 blk 0 d0) (x:α):(h x).oneCell'=true:=R.h1 x _ (by unfold enc2;simp)
omit [Inhabited α] in
theorem set2 (w:World) (p:Nat) (x:α):w.setCells blk p (enc2 f h x)=(w.setCell ⟨blk,p,none⟩ (f x)).setCell ⟨blk,p+1,none⟩ (h x):=rfl
end
end
section
open Go Go.RowKit Go.Sort Go.Shelf
section
variable {α:Type} [Inhabited α] {f h:α→Value} {w0:World} {blk:Nat} {d0:Array α}
set_option maxHeartbeats 4000000 in
set_option maxRecDepth 1000000 in
theorem swapRangeS_any (R:RowK (enc2 f h) 2 w0 blk 0 d0) (N:Nat) (hN:d0.size=N) (hM:N≤1000000000000) (g:Nat) (a b n cap:Nat) (d:Array α) (w:World) (hs:d.size=N) (S:SWK (enc2 f h) 2 w0 blk 0 d w) (hab:a+n≤b) (hb:b+n≤N) :
  Calls Tryz.prog 242 #[.slice (some ⟨blk,0,none⟩) N cap,.int .i64 (a:Int),.int .i64 (b:Int),.int .i64 (n:Int),.func (.func g) #[] #[]] w fun e w'=>e=.returned (.tuple #[])∧∃ d',Exch d a b n d'∧SWK (enc2 f h) 2 w0 blk 0 d' w':=by
 have S0:Aside (SWK (enc2 f h) 2 w0 blk 0 d w):=S;have HN:=hid hN;have mixed:Tryz.prog.follows .mixedOrders=true:=by kernel_rfl
 clear S hN;go_enter Tryz.func242,Tryz.ntmps242
 go_wp2;go_loopw [10] (fun s10 wr=>∃ (i:Nat) (dk:Array α),s10=.int .i64 i∧i≤n∧dk.size=N∧Aside (SWK (enc2 f h) 2 w0 blk 0 dk wr)∧Hid (Exch d a b i dk)) (fun s10 _=>n - (intOf s10).toNat)
 case atStart=>exact ⟨0,d,by go_num,by omega,hs,S0,hid (Exch.zero d a b)⟩
 case round =>
  clear S0;obtain ⟨i,dk,rfl,hi,hds,S1,HE⟩:=hrel;by_cases hlt:i < n
  ·have hltz:(i:Int) < (n:Int):=by omega
   have hN0:dk.size=d0.size:=by rw [HN.out,hds]
   go_wp2_with fail;have ea:((a:Int)+(i:Int):Int).toNat=a+i:=by omega
   have pa:(0:Int)≤(a:Int)+(i:Int):=by omega
   have ba:(a:Int)+(i:Int) < (N:Int):=by omega
   have ra:IntKind.i64.wrap ((a:Int)+(i:Int))=(a:Int)+(i:Int):=by rw [IntKind.wrap_i64];omega
   have ec:((b:Int)+(i:Int):Int).toNat=b+i:=by omega
   have pc:(0:Int)≤(b:Int)+(i:Int):=by omega
   have bc:(b:Int)+(i:Int) < (N:Int):=by omega
   have rc:IntKind.i64.wrap ((b:Int)+(i:Int))=(b:Int)+(i:Int):=by rw [IntKind.wrap_i64];omega
   have S2:Aside (SWK (enc2 f h) 2 w0 blk 0 (swp dk (a+i) (b+i)) ((wr.setCells blk (0+(a+i)*2) (enc2 f h dk[b+i]!)).setCells blk (0+(b+i)*2) (enc2 f h dk[a+i]!)).drew):=(S1.out.swap R.hk R.hblk (a+i) (b+i) (by omega) (by omega)).drew;rw [Nat.zero_add,Nat.zero_add,set2,set2] at S2;obtain ⟨xa,xb,xc,xd⟩:=at2 S1.out R (by omega) (a+i) (by omega);obtain ⟨ya,yb,yc,yd⟩:=at2 S1.out R (by omega) (b+i) (by omega);have oa:=one2a R dk[a+i]!;have ob:=one2b R dk[a+i]!;have oc:=one2a R dk[b+i]!;have od:=one2b R dk[b+i]!;generalize f dk[a+i]! = va at S2 xa oa;generalize h dk[a+i]! = vb at S2 xb ob;generalize f dk[b+i]! = vc at S2 ya oc;generalize h dk[b+i]! = vd at S2 yb od;have n1:¬ (a+i)*2=(b+i)*2:=by omega
   have n2:¬ (a+i)*2=(b+i)*2+1:=by omega
   have n3:¬ (a+i)*2+1=(b+i)*2:=by omega
   have n4:¬ (a+i)*2+1=(b+i)*2+1:=by omega
   have n5:¬ (b+i)*2=(a+i)*2:=by omega
   have n6:¬ (b+i)*2=(a+i)*2+1:=by omega
   have n7:¬ (b+i)*2+1=(a+i)*2:=by omega
   have n8:¬ (b+i)*2+1=(a+i)*2+1:=by omega
   have wc:∀ a m w,(store a vc m).run Tryz.prog w=stored Tryz.prog w a vc m:=fun a m w=>run_store _ w a _ m oc
   have wd:∀ a m w,(store a vd m).run Tryz.prog w=stored Tryz.prog w a vd m:=fun a m w=>run_store _ w a _ m od
   have wa:∀ a m w,(store a va m).run Tryz.prog w=stored Tryz.prog w a va m:=fun a m w=>run_store _ w a _ m oa
   have wb:∀ a m w,(store a vb m).run Tryz.prog w=stored Tryz.prog w a vb m:=fun a m w=>run_store _ w a _ m ob
   clear S1;go_wp2_with fail
   go_big_region_o
   clear wa wb wc wd xa xb xc xd ya yb yc yd oa ob oc od n1 n2 n3 n4 n5 n6 n7 n8 ea pa ba ra ec pc bc rc;generalize ((((wr.setCell ⟨blk,(a+i)*2,none⟩ vc).setCell ⟨blk,(a+i)*2+1,none⟩ vd).setCell ⟨blk,(b+i)*2,none⟩ va).setCell ⟨blk,(b+i)*2+1,none⟩ vb).drew=w2 at S2 ⊢;go_wp2;go_roundw
   case measure=>simp [intOf];omega
   case rel=>exact ⟨i+1,swp dk (a+i) (b+i),by go_num,by omega,by rw [size_swp];exact hds,S2,hid (HE.out.step hab hlt (by omega))⟩
  ·have hltz:¬ (i:Int) < (n:Int):=by omega
   obtain rfl:i=n:=by omega
   go_wp2;go_end0
   exact ⟨rfl,dk,HE.out,S1.out⟩
set_option maxHeartbeats 4000000 in
set_option maxRecDepth 1000000 in
theorem rotateS_any (R:RowK (enc2 f h) 2 w0 blk 0 d0) (N:Nat) (hN:d0.size=N) (hM:N≤1000000000000) (g:Nat) (a m b cap:Nat) (d:Array α) (w:World) (hs:d.size=N) (S:SWK (enc2 f h) 2 w0 blk 0 d w) (ham:a < m) (hmb:m < b) (hb:b≤N) :
  Calls Tryz.prog 215 #[.slice (some ⟨blk,0,none⟩) N cap,.int .i64 (a:Int),.int .i64 (m:Int),.int .i64 (b:Int),.func (.func g) #[] #[]] w fun e w'=>e=.returned (.tuple #[])∧∃ d',Rot d a m b d'∧SWK (enc2 f h) 2 w0 blk 0 d' w':=by
 have S0:Aside (SWK (enc2 f h) 2 w0 blk 0 d w):=S;have HN:=hid hN;have HS:=hid hs;clear S hN hs;have k1:IntKind.i64.wrap ((m:Int) - (a:Int))=(m:Int) - (a:Int):=by rw [IntKind.wrap_i64];omega
 have k2:IntKind.i64.wrap ((b:Int) - (m:Int))=(b:Int) - (m:Int):=by rw [IntKind.wrap_i64];omega
 go_enter Tryz.func215,Tryz.ntmps215
 go_wp2;go_loopw [10,11] (fun s10 s11 wr=>∃ (i j:Nat) (dk:Array α),s10=.int .i64 i∧s11=.int .i64 j∧1≤i∧i≤m - a∧1≤j∧j≤b - m∧Aside (SWK (enc2 f h) 2 w0 blk 0 dk wr)∧Hid (PermIn a b d dk)∧Hid (∀ p,rot dk (m - i) m (m+j) p=rot d a m b p)) (fun s10 s11 _=>(intOf s10).toNat+(intOf s11).toNat)
 case atStart =>
  refine ⟨m - a,b - m,d,by congr 1;omega,by congr 1;omega,by omega,by omega,by omega,by omega,S0,hid (permIn_refl _ _ _),hid fun p=>?_⟩;rw [show m - (m - a)=a by omega,show m+(b - m)=b by omega]
 case round =>
  clear S0 k1 k2;obtain ⟨i,j,dk,rfl,rfl,hi1,hi2,hj1,hj2,S1,HP,HR⟩:=hrel;have hds:dk.size=N:=HP.out.1.trans HS.out;have k1:IntKind.i64.wrap ((m:Int) - (i:Int))=(m:Int) - (i:Int):=by rw [IntKind.wrap_i64];omega
  have c1:((m - i:Nat):Int)=(m:Int) - (i:Int):=by omega
  rcases Nat.lt_trichotomy i j with hij | hij | hij
  ·have g1:((i:Int) != (j:Int))=true:=by rw [bne_iff_ne];omega
   have g2:¬ (j:Int) < (i:Int):=by omega
   have k2:IntKind.i64.wrap ((m:Int)+(j:Int))=(m:Int)+(j:Int):=by rw [IntKind.wrap_i64];omega
   have k3:IntKind.i64.wrap ((m:Int)+(j:Int) - (i:Int))=(m:Int)+(j:Int) - (i:Int):=by rw [IntKind.wrap_i64];omega
   have k4:IntKind.i64.wrap ((j:Int) - (i:Int))=(j:Int) - (i:Int):=by rw [IntKind.wrap_i64];omega
   have hc:=swapRangeS_any R N HN.out hM g (m - i) (m+j - i) i cap dk wr hds S1.out (by omega) (by omega);rw [c1,show ((m+j - i:Nat):Int)=(m:Int)+(j:Int) - (i:Int) by omega] at hc;clear c1;go_wp2_with (go_at_call 242;refine hc.mono ?_;rintro e w1 ⟨rfl,d',hE,S2⟩)
   go_roundw
   case rel=>exact ⟨i,j - i,d',rfl,by congr 1;omega,hi1,hi2,by omega,by omega,S2,hid (permIn_trans _ _ _ _ _ HP.out (hE.perm a b (by omega) (by omega) (by omega))),hid fun p=>(rot_lt hE hij (by omega) p).trans (HR.out p)⟩
   case measure=>simp [intOf];omega
  ·subst hij;have g1:((i:Int) != (i:Int))=false:=by rw [bne_eq_false_iff_eq]
   have hc:=swapRangeS_any R N HN.out hM g (m - i) m i cap dk wr hds S1.out (by omega) (by omega);rw [c1] at hc;clear c1;go_wp2_with (go_at_call 242;refine hc.mono ?_;rintro e w1 ⟨rfl,d',hE,S2⟩)
   go_end0
   exact ⟨rfl,d',⟨permIn_trans _ _ _ _ _ HP.out (hE.perm a b (by omega) (by omega) (by omega)),fun p=>((Rot.last hE (by omega) (by omega)).at_ p).trans (HR.out p)⟩,S2⟩
  ·have g1:((i:Int) != (j:Int))=true:=by rw [bne_iff_ne];omega
   have g2:(j:Int) < (i:Int):=by omega
   have k4:IntKind.i64.wrap ((i:Int) - (j:Int))=(i:Int) - (j:Int):=by rw [IntKind.wrap_i64];omega
   have hc:=swapRangeS_any R N HN.out hM g (m - i) m j cap dk wr hds S1.out (by omega) (by omega);rw [c1] at hc;clear c1;go_wp2_with (go_at_call 242;refine hc.mono ?_;rintro e w1 ⟨rfl,d',hE,S2⟩)
   go_roundw
   case rel=>exact ⟨i - j,j,d',by congr 1;omega,rfl,by omega,by omega,hj1,hj2,S2,hid (permIn_trans _ _ _ _ _ HP.out (hE.perm a b (by omega) (by omega) (by omega))),hid fun p=>(rot_gt hE hij (by omega) p).trans (HR.out p)⟩
   case measure=>simp [intOf];omega
end
end
section
open Go Go.RowKit Go.Sort Go.Shelf
section
variable {α:Type} [Inhabited α] {f h:α→Value} {w0:World} {blk:Nat} {d0:Array α}
set_option maxHeartbeats 8000000 in
set_option maxRecDepth 1000000 in
theorem symMergeAS_any (cf:α→α→Int) (hO:SWO (ltOf cf)) (hcmp:CmpLays Tryz.prog 97 #[] (enc2 f h) 2 cf blk 0 d0.size w0) (eg:∀ args w,(callFunc 97 args).run Tryz.prog w=.ok (.enter 97 args) w) (R:RowK (enc2 f h) 2 w0 blk 0 d0) (N:Nat) (hN:d0.size=N) (hM:N≤1000000000000) (cap:Nat) (a m b:Nat) (d:Array α) (w:World) (hs:d.size=N) (S:SWK (enc2 f h) 2 w0 blk 0 d w) (ham:a < m) (hmb:m < b) (hb:b≤N) (hU:SortedIn (ltOf cf) a m d) (hV:SortedIn (ltOf cf) m b d) (hA1:m≤a+1) :
  Calls Tryz.prog 183 #[.slice (some ⟨blk,0,none⟩) N cap,.int .i64 (a:Int),.int .i64 (m:Int),.int .i64 (b:Int),.func (.func 97) #[] #[]] w fun e w'=>e=.returned (.tuple #[])∧∃ d',(PermIn a b d d'∧SortedIn (ltOf cf) a b d')∧SWK (enc2 f h) 2 w0 blk 0 d' w':=by
 have S0:Aside (SWK (enc2 f h) 2 w0 blk 0 d w):=S;have HN:=hid hN;have HC:Aside _:=hcmp;have HOr:=hid hO;have HU:=hid hU;have HV:=hid hV;clear S hN hcmp hO hU hV;have mixed:Tryz.prog.follows .mixedOrders=true:=by kernel_rfl
 have hN0:d.size=d0.size:=by rw [HN.out,hs]
 have k1:IntKind.i64.wrap ((m:Int) - (a:Int))=(m:Int) - (a:Int):=by rw [IntKind.wrap_i64];omega
 have k2:IntKind.i64.wrap ((b:Int) - (m:Int))=(b:Int) - (m:Int):=by rw [IntKind.wrap_i64];omega
 have g1:(((m:Int) - (a:Int)) == 1)=true:=by rw [beq_iff_eq];omega
 go_enter Tryz.func183,Tryz.ntmps183
 go_wp2;go_loopw [10,11] (fun s10 s11 wr=>∃ (i j:Nat),s10=.int .i64 i∧s11=.int .i64 j∧m≤i∧i≤j∧j≤b∧Aside (SWK (enc2 f h) 2 w0 blk 0 d wr)∧Hid (i=m∨ltOf cf d[i - 1]! d[a]! = true)∧Hid (j=b∨ltOf cf d[j]! d[a]! = false)) (fun s10 s11 _=>(intOf s11).toNat - (intOf s10).toNat)
 case atStart=>exact ⟨m,b,rfl,rfl,Nat.le_refl _,by omega,Nat.le_refl _,S0,hid (.inl rfl),hid (.inl rfl)⟩
 case round =>
  clear S0 k1 k2 g1;obtain ⟨i,j,rfl,rfl,hi,hij,hj,S1,HI,HJ⟩:=hrel;by_cases hlt:i < j
  ·have hltz:(i:Int) < (j:Int):=by omega
   obtain ⟨q,hq⟩:∃ q,(i+j) / 2=q:=⟨_,rfl⟩;have q1:2*q≤i+j:=by omega
   have q2:i+j < 2*q+2:=by omega
   have k3:IntKind.i64.wrap ((i:Int)+(j:Int))=(i:Int)+(j:Int):=by rw [IntKind.wrap_i64];omega
   have k4:IntKind.u64.wrap ((i:Int)+(j:Int))=(i:Int)+(j:Int):=by rw [IntKind.wrap_u64];omega
   have k5:((i:Int)+(j:Int)) / 2=(q:Int):=by omega
   clear hq;cases hlv:ltOf cf d[q]! d[a]! with
   | true =>
    have HL:=hid hlv;have ea:((q:Int):Int).toNat=q:=by omega
    have pa:(0:Int)≤(q:Int):=by omega
    have ba:(q:Int) < (N:Int):=by omega
    have ra:IntKind.i64.wrap ((q:Int))=(q:Int):=by rw [IntKind.wrap_i64];omega
    have ec:((a:Int):Int).toNat=a:=by omega
    have pc:(0:Int)≤(a:Int):=by omega
    have bc:(a:Int) < (N:Int):=by omega
    have rc:IntKind.i64.wrap ((a:Int))=(a:Int):=by rw [IntKind.wrap_i64];omega
    obtain ⟨X,hX⟩:∃ x,x=d[q]!:=⟨_,rfl⟩;obtain ⟨Y,hY⟩:∃ x,x=d[a]!:=⟨_,rfl⟩;have xa:=fun n os=>(at2 (S1.out.grown n os) R (by omega) (q) (by omega)).1
    have xb:=fun n os=>(at2 (S1.out.grown n os) R (by omega) (q) (by omega)).2.1
    have ya:=fun n os=>(at2 (S1.out.grown n os) R (by omega) (a) (by omega)).1
    have yb:=fun n os=>(at2 (S1.out.grown n os) R (by omega) (a) (by omega)).2.1
    rw [← hX] at xa xb;rw [← hY] at ya yb;have hc:=S1.out.cmp HC.out (by omega) X Y;simp only [enc2,Array.append_empty] at hc;have hv:cf X Y < 0:=by rw [hX,hY];exact of_decide_eq_true hlv
    have hd:decide (cf X Y < 0)=true:=decide_eq_true hv;clear hX hY hlv;generalize f X=va at xa hc;generalize h X=vb at xb hc;generalize f Y=vc at ya hc;generalize h Y=vd at yb hc;generalize cf X Y=cv at hc hv hd;go_wp2_with fail
    go_quiet_grown (first | (go_at_fn 97;refine Calls.grown_of (hc _ _)))
    have S2:Aside (SWK (enc2 f h) 2 w0 blk 0 d (grow (wr.drewN nq) osq)):=S1.out.grown nq osq;clear xa xb ya yb hc S1;generalize grow (wr.drewN nq) osq=w2 at S2 ⊢;clear nq osq hv hd ea pa ba ra ec pc bc rc;go_wp2;go_roundw
    case rel=>exact ⟨q+1,j,by go_num,rfl,by omega,by omega,hj,S2,hid (.inr (by rw [Nat.add_sub_cancel];exact HL.out)),HJ⟩
    case measure=>simp [intOf];omega
   | false =>
    have HL:=hid hlv;have ea:((q:Int):Int).toNat=q:=by omega
    have pa:(0:Int)≤(q:Int):=by omega
    have ba:(q:Int) < (N:Int):=by omega
    have ra:IntKind.i64.wrap ((q:Int))=(q:Int):=by rw [IntKind.wrap_i64];omega
    have ec:((a:Int):Int).toNat=a:=by omega
    have pc:(0:Int)≤(a:Int):=by omega
    have bc:(a:Int) < (N:Int):=by omega
    have rc:IntKind.i64.wrap ((a:Int))=(a:Int):=by rw [IntKind.wrap_i64];omega
    obtain ⟨X,hX⟩:∃ x,x=d[q]!:=⟨_,rfl⟩;obtain ⟨Y,hY⟩:∃ x,x=d[a]!:=⟨_,rfl⟩;have xa:=fun n os=>(at2 (S1.out.grown n os) R (by omega) (q) (by omega)).1
    have xb:=fun n os=>(at2 (S1.out.grown n os) R (by omega) (q) (by omega)).2.1
    have ya:=fun n os=>(at2 (S1.out.grown n os) R (by omega) (a) (by omega)).1
    have yb:=fun n os=>(at2 (S1.out.grown n os) R (by omega) (a) (by omega)).2.1
    rw [← hX] at xa xb;rw [← hY] at ya yb;have hc:=S1.out.cmp HC.out (by omega) X Y;simp only [enc2,Array.append_empty] at hc;have hv:¬ cf X Y < 0:=by rw [hX,hY];exact of_decide_eq_false hlv
    have hd:decide (cf X Y < 0)=false:=decide_eq_false hv;clear hX hY hlv;generalize f X=va at xa hc;generalize h X=vb at xb hc;generalize f Y=vc at ya hc;generalize h Y=vd at yb hc;generalize cf X Y=cv at hc hv hd;go_wp2_with fail
    go_quiet_grown (first | (go_at_fn 97;refine Calls.grown_of (hc _ _)))
    have S2:Aside (SWK (enc2 f h) 2 w0 blk 0 d (grow (wr.drewN nq) osq)):=S1.out.grown nq osq;clear xa xb ya yb hc S1;generalize grow (wr.drewN nq) osq=w2 at S2 ⊢;clear nq osq hv hd ea pa ba ra ec pc bc rc;go_wp2;go_roundw
    case rel=>exact ⟨i,q,rfl,rfl,hi,by omega,by omega,S2,HI,hid (.inr HL.out)⟩
    case measure=>simp [intOf];omega
  ·have hltz:¬ (i:Int) < (j:Int):=by omega
   obtain rfl:i=j:=by omega
   go_wp2
   rename World=>wo
   go_loopw [13] (fun s13 wr=>∃ (k:Nat) (dk:Array α),s13=.int .i64 k∧a≤k∧k+1≤i∧dk.size=N∧Aside (SWK (enc2 f h) 2 w0 blk 0 dk wr)∧Hid (Rot d a (a+1) (k+1) dk)) (fun s13 _=>i - (intOf s13).toNat)
   case atStart=>exact ⟨a,d,rfl,Nat.le_refl _,by omega,hs,S1,hid (Rot.none (.inr rfl) (by omega) (Nat.le_refl _))⟩
   case round =>
    clear S1;obtain ⟨k,dk,rfl,hk,hki,hds,S1,HR⟩:=hrel;have k5:IntKind.i64.wrap ((i:Int) - 1)=(i:Int) - 1:=by rw [IntKind.wrap_i64];omega
    have hN0:dk.size=d0.size:=by rw [HN.out,hds]
    by_cases hlt2:k+1 < i
    ·have hltz2:(k:Int) < (i:Int) - 1:=by omega
     go_wp2_with fail;have ea:((k:Int):Int).toNat=k:=by omega
     have pa:(0:Int)≤(k:Int):=by omega
     have ba:(k:Int) < (N:Int):=by omega
     have ra:IntKind.i64.wrap ((k:Int))=(k:Int):=by rw [IntKind.wrap_i64];omega
     have ec:((k:Int)+1:Int).toNat=k+1:=by omega
     have pc:(0:Int)≤(k:Int)+1:=by omega
     have bc:(k:Int)+1 < (N:Int):=by omega
     have rc:IntKind.i64.wrap ((k:Int)+1)=(k:Int)+1:=by rw [IntKind.wrap_i64];omega
     have S2:Aside (SWK (enc2 f h) 2 w0 blk 0 (swp dk (k) (k+1)) ((wr.setCells blk (0+(k)*2) (enc2 f h dk[k+1]!)).setCells blk (0+(k+1)*2) (enc2 f h dk[k]!)).drew):=(S1.out.swap R.hk R.hblk (k) (k+1) (by omega) (by omega)).drew;rw [Nat.zero_add,Nat.zero_add,set2,set2] at S2;obtain ⟨xa,xb,xc,xd⟩:=at2 S1.out R (by omega) (k) (by omega);obtain ⟨ya,yb,yc,yd⟩:=at2 S1.out R (by omega) (k+1) (by omega);have oa:=one2a R dk[k]!;have ob:=one2b R dk[k]!;have oc:=one2a R dk[k+1]!;have od:=one2b R dk[k+1]!;generalize f dk[k]! = va at S2 xa oa;generalize h dk[k]! = vb at S2 xb ob;generalize f dk[k+1]! = vc at S2 ya oc;generalize h dk[k+1]! = vd at S2 yb od;have n1:¬ (k)*2=(k+1)*2:=by omega
     have n2:¬ (k)*2=(k+1)*2+1:=by omega
     have n3:¬ (k)*2+1=(k+1)*2:=by omega
     have n4:¬ (k)*2+1=(k+1)*2+1:=by omega
     have n5:¬ (k+1)*2=(k)*2:=by omega
     have n6:¬ (k+1)*2=(k)*2+1:=by omega
     have n7:¬ (k+1)*2+1=(k)*2:=by omega
     have n8:¬ (k+1)*2+1=(k)*2+1:=by omega
     have wc:∀ a m w,(store a vc m).run Tryz.prog w=stored Tryz.prog w a vc m:=fun a m w=>run_store _ w a _ m oc
     have wd:∀ a m w,(store a vd m).run Tryz.prog w=stored Tryz.prog w a vd m:=fun a m w=>run_store _ w a _ m od
     have wa:∀ a m w,(store a va m).run Tryz.prog w=stored Tryz.prog w a va m:=fun a m w=>run_store _ w a _ m oa
     have wb:∀ a m w,(store a vb m).run Tryz.prog w=stored Tryz.prog w a vb m:=fun a m w=>run_store _ w a _ m ob
     clear S1;go_wp2_with fail
     go_big_region_o
     clear wa wb wc wd xa xb xc xd ya yb yc yd oa ob oc od n1 n2 n3 n4 n5 n6 n7 n8 ea pa ba ra ec pc bc rc;generalize ((((wr.setCell ⟨blk,(k)*2,none⟩ vc).setCell ⟨blk,(k)*2+1,none⟩ vd).setCell ⟨blk,(k+1)*2,none⟩ va).setCell ⟨blk,(k+1)*2+1,none⟩ vb).drew=w2 at S2 ⊢;go_wp2;go_roundw
     case rel=>exact ⟨k+1,swp dk k (k+1),by go_num,by omega,by omega,by rw [size_swp];exact hds,S2,hid (HR.out.up hk (by omega))⟩
     case measure=>simp [intOf];omega
    ·have hltz2:¬ (k:Int) < (i:Int) - 1:=by omega
     go_wp2
     (try simp only [Exit.inBlock,Exit.then]);refine bodyPost_ret (results_none rfl _ _ _) rfl ?_
     have hR:=HR.out;have e1:k+1=i:=by omega
     have enc2':m=a+1:=by omega
     rw [e1] at hR;refine ⟨rfl,dk,mer_up HOr.out (by rw [← enc2'];exact HV.out) (by omega) hj (by omega) ?_ HJ.out hR,S1.out⟩;rcases HI.out with h1 | h1
     ·exact .inl (by omega)
     ·exact .inr h1
set_option maxHeartbeats 8000000 in
set_option maxRecDepth 1000000 in
theorem symMergeBS_any (cf:α→α→Int) (hO:SWO (ltOf cf)) (hcmp:CmpLays Tryz.prog 97 #[] (enc2 f h) 2 cf blk 0 d0.size w0) (eg:∀ args w,(callFunc 97 args).run Tryz.prog w=.ok (.enter 97 args) w) (R:RowK (enc2 f h) 2 w0 blk 0 d0) (N:Nat) (hN:d0.size=N) (hM:N≤1000000000000) (cap:Nat) (a m b:Nat) (d:Array α) (w:World) (hs:d.size=N) (S:SWK (enc2 f h) 2 w0 blk 0 d w) (ham:a < m) (hmb:m < b) (hb:b≤N) (hU:SortedIn (ltOf cf) a m d) (hV:SortedIn (ltOf cf) m b d) (hA1:¬ m≤a+1) (hB1:b≤m+1) :
  Calls Tryz.prog 183 #[.slice (some ⟨blk,0,none⟩) N cap,.int .i64 (a:Int),.int .i64 (m:Int),.int .i64 (b:Int),.func (.func 97) #[] #[]] w fun e w'=>e=.returned (.tuple #[])∧∃ d',(PermIn a b d d'∧SortedIn (ltOf cf) a b d')∧SWK (enc2 f h) 2 w0 blk 0 d' w':=by
 have S0:Aside (SWK (enc2 f h) 2 w0 blk 0 d w):=S;have HN:=hid hN;have HC:Aside _:=hcmp;have HOr:=hid hO;have HU:=hid hU;have HV:=hid hV;clear S hN hcmp hO hU hV;have mixed:Tryz.prog.follows .mixedOrders=true:=by kernel_rfl
 have hN0:d.size=d0.size:=by rw [HN.out,hs]
 have k1:IntKind.i64.wrap ((m:Int) - (a:Int))=(m:Int) - (a:Int):=by rw [IntKind.wrap_i64];omega
 have k2:IntKind.i64.wrap ((b:Int) - (m:Int))=(b:Int) - (m:Int):=by rw [IntKind.wrap_i64];omega
 have _:=ham;have g1:(((m:Int) - (a:Int)) == 1)=false:=by rw [beq_eq_false_iff_ne];omega
 have g2:(((b:Int) - (m:Int)) == 1)=true:=by rw [beq_iff_eq];omega
 go_enter Tryz.func183,Tryz.ntmps183
 go_wp2;go_loopw [14,15] (fun s14 s15 wr=>∃ (i j:Nat),s14=.int .i64 i∧s15=.int .i64 j∧a≤i∧i≤j∧j≤m∧Aside (SWK (enc2 f h) 2 w0 blk 0 d wr)∧Hid (i=a∨ltOf cf d[m]! d[i - 1]! = false)∧Hid (j=m∨ltOf cf d[m]! d[j]! = true)) (fun s14 s15 _=>(intOf s15).toNat - (intOf s14).toNat)
 case atStart=>exact ⟨a,m,rfl,rfl,Nat.le_refl _,by omega,Nat.le_refl _,S0,hid (.inl rfl),hid (.inl rfl)⟩
 case round =>
  clear S0 k1 k2 g1 g2;obtain ⟨i,j,rfl,rfl,hi,hij,hj,S1,HI,HJ⟩:=hrel;by_cases hlt:i < j
  ·have hltz:(i:Int) < (j:Int):=by omega
   obtain ⟨q,hq⟩:∃ q,(i+j) / 2=q:=⟨_,rfl⟩;have q1:2*q≤i+j:=by omega
   have q2:i+j < 2*q+2:=by omega
   have k3:IntKind.i64.wrap ((i:Int)+(j:Int))=(i:Int)+(j:Int):=by rw [IntKind.wrap_i64];omega
   have k4:IntKind.u64.wrap ((i:Int)+(j:Int))=(i:Int)+(j:Int):=by rw [IntKind.wrap_u64];omega
   have k5:((i:Int)+(j:Int)) / 2=(q:Int):=by omega
   clear hq;cases hlv:ltOf cf d[m]! d[q]! with
   | false =>
    have HL:=hid hlv;have ea:((m:Int):Int).toNat=m:=by omega
    have pa:(0:Int)≤(m:Int):=by omega
    have ba:(m:Int) < (N:Int):=by omega
    have ra:IntKind.i64.wrap ((m:Int))=(m:Int):=by rw [IntKind.wrap_i64];omega
    have ec:((q:Int):Int).toNat=q:=by omega
    have pc:(0:Int)≤(q:Int):=by omega
    have bc:(q:Int) < (N:Int):=by omega
    have rc:IntKind.i64.wrap ((q:Int))=(q:Int):=by rw [IntKind.wrap_i64];omega
    obtain ⟨X,hX⟩:∃ x,x=d[m]!:=⟨_,rfl⟩;obtain ⟨Y,hY⟩:∃ x,x=d[q]!:=⟨_,rfl⟩;have xa:=fun n os=>(at2 (S1.out.grown n os) R (by omega) (m) (by omega)).1
    have xb:=fun n os=>(at2 (S1.out.grown n os) R (by omega) (m) (by omega)).2.1
    have ya:=fun n os=>(at2 (S1.out.grown n os) R (by omega) (q) (by omega)).1
    have yb:=fun n os=>(at2 (S1.out.grown n os) R (by omega) (q) (by omega)).2.1
    rw [← hX] at xa xb;rw [← hY] at ya yb;have hc:=S1.out.cmp HC.out (by omega) X Y;simp only [enc2,Array.append_empty] at hc;have hv:¬ cf X Y < 0:=by rw [hX,hY];exact of_decide_eq_false hlv
    have hd:decide (cf X Y < 0)=false:=decide_eq_false hv;clear hX hY hlv;generalize f X=va at xa hc;generalize h X=vb at xb hc;generalize f Y=vc at ya hc;generalize h Y=vd at yb hc;generalize cf X Y=cv at hc hv hd;go_wp2_with fail
    go_quiet_grown (first | (go_at_fn 97;refine Calls.grown_of (hc _ _)))
    have S2:Aside (SWK (enc2 f h) 2 w0 blk 0 d (grow (wr.drewN nq) osq)):=S1.out.grown nq osq;clear xa xb ya yb hc S1;generalize grow (wr.drewN nq) osq=w2 at S2 ⊢;clear nq osq hv hd ea pa ba ra ec pc bc rc;go_wp2;go_roundw
    case rel=>exact ⟨q+1,j,by go_num,rfl,by omega,by omega,hj,S2,hid (.inr (by rw [Nat.add_sub_cancel];exact HL.out)),HJ⟩
    case measure=>simp [intOf];omega
   | true =>
    have HL:=hid hlv;have ea:((m:Int):Int).toNat=m:=by omega
    have pa:(0:Int)≤(m:Int):=by omega
    have ba:(m:Int) < (N:Int):=by omega
    have ra:IntKind.i64.wrap ((m:Int))=(m:Int):=by rw [IntKind.wrap_i64];omega
    have ec:((q:Int):Int).toNat=q:=by omega
    have pc:(0:Int)≤(q:Int):=by omega
    have bc:(q:Int) < (N:Int):=by omega
    have rc:IntKind.i64.wrap ((q:Int))=(q:Int):=by rw [IntKind.wrap_i64];omega
    obtain ⟨X,hX⟩:∃ x,x=d[m]!:=⟨_,rfl⟩;obtain ⟨Y,hY⟩:∃ x,x=d[q]!:=⟨_,rfl⟩;have xa:=fun n os=>(at2 (S1.out.grown n os) R (by omega) (m) (by omega)).1
    have xb:=fun n os=>(at2 (S1.out.grown n os) R (by omega) (m) (by omega)).2.1
    have ya:=fun n os=>(at2 (S1.out.grown n os) R (by omega) (q) (by omega)).1
    have yb:=fun n os=>(at2 (S1.out.grown n os) R (by omega) (q) (by omega)).2.1
    rw [← hX] at xa xb;rw [← hY] at ya yb;have hc:=S1.out.cmp HC.out (by omega) X Y;simp only [enc2,Array.append_empty] at hc;have hv:cf X Y < 0:=by rw [hX,hY];exact of_decide_eq_true hlv
    have hd:decide (cf X Y < 0)=true:=decide_eq_true hv;clear hX hY hlv;generalize f X=va at xa hc;generalize h X=vb at xb hc;generalize f Y=vc at ya hc;generalize h Y=vd at yb hc;generalize cf X Y=cv at hc hv hd;go_wp2_with fail
    go_quiet_grown (first | (go_at_fn 97;refine Calls.grown_of (hc _ _)))
    have S2:Aside (SWK (enc2 f h) 2 w0 blk 0 d (grow (wr.drewN nq) osq)):=S1.out.grown nq osq;clear xa xb ya yb hc S1;generalize grow (wr.drewN nq) osq=w2 at S2 ⊢;clear nq osq hv hd ea pa ba ra ec pc bc rc;go_wp2;go_roundw
    case rel=>exact ⟨i,q,rfl,rfl,hi,by omega,by omega,S2,HI,hid (.inr HL.out)⟩
    case measure=>simp [intOf];omega
  ·have hltz:¬ (i:Int) < (j:Int):=by omega
   obtain rfl:i=j:=by omega
   go_wp2
   rename World=>wo
   go_loopw [17] (fun s17 wr=>∃ (k:Nat) (dk:Array α),s17=.int .i64 k∧i≤k∧k≤m∧dk.size=N∧Aside (SWK (enc2 f h) 2 w0 blk 0 dk wr)∧Hid (Rot d k m (m+1) dk)) (fun s17 _=>(intOf s17).toNat)
   case atStart=>exact ⟨m,d,rfl,hj,Nat.le_refl _,hs,S1,hid (Rot.none (.inl rfl) (Nat.le_refl _) (by omega))⟩
   case round =>
    clear S1;obtain ⟨k,dk,rfl,hk,hki,hds,S1,HR⟩:=hrel;have hN0:dk.size=d0.size:=by rw [HN.out,hds]
    by_cases hlt2:i < k
    ·have hltz2:(i:Int) < (k:Int):=by omega
     obtain ⟨t,ht⟩:∃ t,k - 1=t:=⟨_,rfl⟩;have k5:(k:Int) - 1=(t:Int):=by omega
     have hR:=HR.out;have et:k=t+1:=by omega
     rw [et] at hR;have hD:=hR.down (by omega) (by omega);rw [← et] at hD;have HD:=hid hD;clear hR hD et ht;go_wp2_with fail;have ea:((k:Int):Int).toNat=k:=by omega
     have pa:(0:Int)≤(k:Int):=by omega
     have ba:(k:Int) < (N:Int):=by omega
     have ra:IntKind.i64.wrap ((k:Int))=(k:Int):=by rw [IntKind.wrap_i64];omega
     have ec:((t:Int):Int).toNat=t:=by omega
     have pc:(0:Int)≤(t:Int):=by omega
     have bc:(t:Int) < (N:Int):=by omega
     have rc:IntKind.i64.wrap ((t:Int))=(t:Int):=by rw [IntKind.wrap_i64];omega
     have S2:Aside (SWK (enc2 f h) 2 w0 blk 0 (swp dk (k) (t)) ((wr.setCells blk (0+(k)*2) (enc2 f h dk[t]!)).setCells blk (0+(t)*2) (enc2 f h dk[k]!)).drew):=(S1.out.swap R.hk R.hblk (k) (t) (by omega) (by omega)).drew;rw [Nat.zero_add,Nat.zero_add,set2,set2] at S2;obtain ⟨xa,xb,xc,xd⟩:=at2 S1.out R (by omega) (k) (by omega);obtain ⟨ya,yb,yc,yd⟩:=at2 S1.out R (by omega) (t) (by omega);have oa:=one2a R dk[k]!;have ob:=one2b R dk[k]!;have oc:=one2a R dk[t]!;have od:=one2b R dk[t]!;generalize f dk[k]! = va at S2 xa oa;generalize h dk[k]! = vb at S2 xb ob;generalize f dk[t]! = vc at S2 ya oc;generalize h dk[t]! = vd at S2 yb od;have n1:¬ (k)*2=(t)*2:=by omega
     have n2:¬ (k)*2=(t)*2+1:=by omega
     have n3:¬ (k)*2+1=(t)*2:=by omega
     have n4:¬ (k)*2+1=(t)*2+1:=by omega
     have n5:¬ (t)*2=(k)*2:=by omega
     have n6:¬ (t)*2=(k)*2+1:=by omega
     have n7:¬ (t)*2+1=(k)*2:=by omega
     have n8:¬ (t)*2+1=(k)*2+1:=by omega
     have wc:∀ a m w,(store a vc m).run Tryz.prog w=stored Tryz.prog w a vc m:=fun a m w=>run_store _ w a _ m oc
     have wd:∀ a m w,(store a vd m).run Tryz.prog w=stored Tryz.prog w a vd m:=fun a m w=>run_store _ w a _ m od
     have wa:∀ a m w,(store a va m).run Tryz.prog w=stored Tryz.prog w a va m:=fun a m w=>run_store _ w a _ m oa
     have wb:∀ a m w,(store a vb m).run Tryz.prog w=stored Tryz.prog w a vb m:=fun a m w=>run_store _ w a _ m ob
     clear S1;go_wp2_with fail
     go_big_region_o
     clear wa wb wc wd xa xb xc xd ya yb yc yd oa ob oc od n1 n2 n3 n4 n5 n6 n7 n8 ea pa ba ra ec pc bc rc;generalize ((((wr.setCell ⟨blk,(k)*2,none⟩ vc).setCell ⟨blk,(k)*2+1,none⟩ vd).setCell ⟨blk,(t)*2,none⟩ va).setCell ⟨blk,(t)*2+1,none⟩ vb).drew=w2 at S2 ⊢;go_wp2;go_roundw
     case rel=>exact ⟨t,swp dk k t,by go_num,by omega,by omega,by rw [size_swp];exact hds,S2,HD⟩
     case measure=>simp [intOf];omega
    ·have hltz2:¬ (i:Int) < (k:Int):=by omega
     obtain rfl:i=k:=by omega
     go_wp2
     (try simp only [Exit.inBlock,Exit.then]);refine bodyPost_ret (results_none rfl _ _ _) rfl ?_
     obtain rfl:b=m+1:=by omega
     exact ⟨rfl,dk,mer_down HOr.out HU.out hi hj (by omega) HI.out HJ.out HR.out,S1.out⟩
end
end
end Go.Proofs.YtobfpajapgakdaaGreatDoor
