/- Laws that the last text builds on. -/
import Derived.Test.YtobfpajapgakdaaGreatDoorT8
namespace Go.Proofs.YtobfpajapgakdaaGreatDoor
open Go.Lib(hid)
section
open Go Go.RowKit Go.Lib Go.Sort Go.Shelf
structure SetS where
 labs:List Lab
 b:Nat
 A:Option Addr
 c:Nat
def cSet (l:List SetS):List Value:=l.map fun s=>.slice s.A s.labs.length s.c
def InSet (w:World) (s:SetS):Prop:=Rd w s.b s.A (cL s.labs)∧s.labs.length≤1000∧∀ x∈s.labs,LOk x
def tagAt (L:List Lab) (i:Nat):List (Lab × Nat):=L.map fun x=>(x,i)
def doneOf (sets:List (List Lab)):List (Lab × Nat):=(sets.mapIdx fun i L=>tagAt L i).flatten
theorem doneOf_snoc {sets:List (List Lab)} {k:Nat} (h:k < sets.length):doneOf (sets.take (k+1))=doneOf (sets.take k)++tagAt sets[k] k:=by
 unfold doneOf;rw [List.take_succ_eq_append_getElem h,List.mapIdx_append,List.flatten_append];simp [Nat.min_eq_left (Nat.le_of_lt h)]
theorem tagAt_snoc {L:List Lab} {j i:Nat} (h:j < L.length):tagAt (L.take (j+1)) i=tagAt (L.take j) i++[(L[j],i)]:=by
 unfold tagAt;rw [List.take_succ_eq_append_getElem h,List.map_append];rfl
section
variable {P:Program} {ops:Array Oper} {rest:List Oper} {o:Oper} {a:Act} {Q:Exit→Act→World→Prop} {w:World}
theorem wpList_entryM (hg:o.guard=none) (m x:Operand) (t:TypeId) (hop:o.op=Op.mapEntry t m x) {M X V:Value} {w1:World} (hm:a.eval m=M) (hx:a.eval x=X) (hrun:(Instr.mapEntry t M X).run P w=.ok V w1)
  (hK:wpList P ops Q rest (a.put o.dst V) w1):wpList P ops Q (o::rest) a w:=by
 refine wpList_plain hg fun K' hK'=>?_
 unfold Oper.wp;simp [execOp,hop,hm,hx,hrun,Result.andThen];exact hK' _ _ hK
theorem wpList_storeM (hg:o.guard=none) (m s x:Operand) (t:TypeId) (hop:o.op=Op.entryStore t m s x) {M S X:Value} {w1:World} (hm:a.eval m=M) (hs:a.eval s=S) (hx:a.eval x=X) (hrun:(Instr.entryStore t M S X).run P w=.ok () w1)
  (hK:wpList P ops Q rest (a.put o.dst undef) w1):wpList P ops Q (o::rest) a w:=by
 refine wpList_plain hg fun K' hK'=>?_
 unfold Oper.wp;simp [execOp,hop,hm,hs,hx,hrun,Result.andThen];exact hK' _ _ hK
end
def cEnt1 (e:GR):List Value:=[.string e.lab.1,.string e.lab.2,.slice e.A e.ns.length e.c]
def cEnt (l:List GR):List Value:=l.flatMap cEnt1
theorem cEnt_len (l:List GR):(cEnt l).length=l.length*3:=by
 induction l with
 | nil=>rfl
 | cons x l ih=>rw [cEnt,List.flatMap_cons,List.length_append,show l.flatMap cEnt1=cEnt l from rfl,ih];simp [cEnt1];omega
theorem cEnt_snoc {l:List GR} {k:Nat} (h:k < l.length):cEnt (l.take (k+1))=cEnt (l.take k)++cEnt1 l[k]:=by
 unfold cEnt;rw [List.take_succ_eq_append_getElem h,List.flatMap_append];simp
theorem E_ent:ElemT Tryz.prog 69 126 (.agg #[.string .empty,.string .empty,.slice none 0 0]) 3 56:=ElemT.mk' Tryz.underlying69 (by kernel_rfl) rfl (by omega)
structure IsIdx (done:List (Lab × Nat)) (E:List (Lab × List Nat)):Prop where
 asc:(E.map (·.1)).Pairwise fun x y=>cmpL x y = -1
 mem:∀ x,x∈E.map (·.1)↔∃ i,(x,i)∈done
 nums:∀ p∈E,p.2=numsOf done p.1
theorem asc_of {ks:List Lab} (hd:ks.Nodup) (h:ks.Pairwise fun x y=>¬ cmpL y x = -1):ks.Pairwise fun x y=>cmpL x y = -1:=by
 refine (List.pairwise_and_iff.2 ⟨hd,h⟩).imp ?_;rintro x y ⟨h1,h2⟩;have:=cmp3_L.swap x y;rcases cmp3_L.inn x y with h3 | h3 | h3
 ·exact h3
 ·exact (h1 ((cmp3_L.zero _ _).1 h3)).elim
 ·omega
theorem rows_of (rows:List GR):∀ ks:List Lab,(∀ x∈ks,x∈(rows.map keyG).map (·.1))→∃ E:List GR,E.map (·.lab)=ks∧∀ e∈E,e∈rows
 | [],_=>⟨[],rfl,by simp⟩
 | x::ks,h=>by
  obtain ⟨E,h1,h2⟩:=rows_of rows ks (fun y hy=>h y (List.mem_cons_of_mem _ hy));obtain ⟨p,hp,hpx⟩:=List.mem_map.1 (h x List.mem_cons_self);obtain ⟨r,hr,rfl⟩:=List.mem_map.1 hp;refine ⟨r::E,by rw [List.map_cons,h1];exact congrArg (·::ks) hpx,fun e he=>?_⟩;rcases List.mem_cons.1 he with rfl | he
  ·exact hr
  ·exact h2 e he
theorem GInv.look {w W W':World} {B:Nat} {done:List (Lab × Nat)} {rows:List GR} (h:GInv w W B done rows) {r:GR} (hr:r∈rows) (hk:W'.heap[B]? = W.heap[B]?) :
  (Instr.lookup 127 (.map (some B)) (labKey r.lab) false).run Tryz.prog W'=.ok (.slice r.A r.ns.length r.c) W':=by
 obtain ⟨j,hj,rfl⟩:=List.getElem_of_mem hr;exact run_look (hk.trans h.map) h.oks (h.ok _ hr) h.keys_nd (j:=j) (by rw [List.getElem?_map,List.getElem?_eq_getElem hj];rfl)
theorem nodup_sub_len {α:Type}:∀ {l m:List α},l.Nodup→(∀ x∈l,x∈m)→l.length≤m.length
 | [],_,_,_=>Nat.zero_le _
 | x::l,m,hd,hs=>by
  obtain ⟨s,t,rfl⟩:=List.append_of_mem (hs x List.mem_cons_self);obtain ⟨h1,h2⟩:=List.nodup_cons.1 hd;have:=nodup_sub_len (m:=s++t) h2 (fun y hy=>by
   have hy2:=hs y (List.mem_cons_of_mem _ hy);simp only [List.mem_append,List.mem_cons] at hy2 ⊢;rcases hy2 with h | rfl | h
   ·exact .inl h
   ·exact (h1 hy).elim
   ·exact .inr h)
  simp at this ⊢;omega
theorem GrpOf.len {done:List (Lab × Nat)} {G:List (Lab × List Nat)} (h:GrpOf done G):G.length≤done.length:=by
 have:=nodup_sub_len (m:=done.map (·.1)) h.nd (fun x hx=>by
  obtain ⟨i,hi⟩:=(h.mem x).1 hx;exact List.mem_map.2 ⟨_,hi,rfl⟩)
 simpa using this
theorem SortKA_any (w:World) (bp n cp:Nat) (Ap:Option Addr) (ks:List Lab) (hn:n=ks.length) (hm:n≤1000000) (hO:Ow w bp 124 2 Ap n cp (cL ks)) :
  Calls Tryz.prog 125 #[.slice Ap n cp,.func (.func 80) #[] #[]] w fun e w'=>e=.returned (.tuple #[])∧∃ l',l'.Perm ks∧l'.Pairwise (fun x y=>¬ cmpL y x = -1)∧Rd w' bp Ap (cL l')∧(∀ w0:World,Nw w0 w→w0.heap.size≤bp→Nw w0 w'):=by
 cases Ap with
 | none =>
  rcases hO with ⟨_,h0,_,hc⟩ | ⟨h,_⟩
  ·have hk0:ks=[]:=List.eq_nil_of_length_eq_zero (by omega);subst hk0;subst h0;refine (AnyF.slices_SortFunc_none Tryz.sortLab none cp _ w).mono ?_;rintro e w' ⟨rfl,rfl⟩;exact ⟨rfl,[],List.Perm.nil,List.Pairwise.nil,Rd.nil _ _ _,fun _ h _=>h⟩
  ·cases h
 | some a =>
  refine (SortK_any w bp n cp a ks hn hm hO).mono ?_;rintro e w' ⟨rfl,l',h1,h2,h3,h4⟩;exact ⟨rfl,l',h1,h2,h3.rd,fun w0 h hb=>Kp.nw h h4 hb hb⟩
set_option maxRecDepth 100000 in
theorem SortedK_any (w:World) (B b:Nat) (l:List (Lab × Value)) (hm:l.length≤1000000) (hd:(l.map (·.1)).Nodup) (hB:w.heap[B]? = some (.cells #[.map (some b)] 127 (0,0))) (hb:w.heap[b]? = some (.map (entsE l) l.length)) :
  Calls Tryz.prog 78 #[.func (.func 126) #[] #[.pointer (some ⟨B,0,none⟩)],.func (.func 80) #[] #[]] w fun e w' =>
   ∃ (ks:List Lab) (bp:Nat) (Ap:Option Addr) (cp:Nat),e=.returned (.slice Ap l.length cp)∧ks.Perm (l.map (·.1))∧(ks.Pairwise fun x y=>cmpL x y = -1)∧Rd w' bp Ap (cL ks)∧Nw w w':=by
 have HC:=hid (CollectK_any w B b l hm hB hb);have HD:=hid hd;have HLL:Hid (∀ ks:List Lab,ks.Perm (l.map (·.1))→l.length=ks.length):=hid fun ks hp=>by rw [hp.length_eq,List.length_map]
 generalize l.map (·.1)=L at *;generalize l.length=n at *;clear hB hb hd;go_enter Tryz.func78,Tryz.ntmps78
 go_wp2_with fail;refine HC.out.mono ?_;rintro e w1 ⟨ks,bp,Ap,cp,rfl,hp,hO,hbp,hN⟩;have HS:=hid (SortKA_any w1 bp n cp Ap ks (HLL.out ks hp) hm hO);have HP:=hid hp;clear hO hp HC;go_wp2_with fail;refine HS.out.mono ?_;rintro e w2 ⟨rfl,l',h1,h2,h3,h4⟩;have hNf:=h4 w hN hbp;have H1:=hid h1;have H2:=hid h2;clear h1 h2 h4;go_wp2;go_ret;have hpp:=H1.out.trans HP.out;exact ⟨l',bp,Ap,cp,rfl,hpp,asc_of (hpp.nodup_iff.2 HD.out) H2.out,h3,hNf⟩
end
section
open Go Go.RowKit Go.Lib Go.Sort Go.Shelf
set_option maxRecDepth 100000 in
set_option maxHeartbeats 2000000 in
theorem PBuild_any (w:World) (b:Nat) (A:Option Addr) (n c:Nat) (l:List SetS) (hn:n=l.length) (hm:n≤1000) (hr:Rd w b A (cSet l)) (hI:∀ s∈l,InSet w s) (hd:(doneOf (l.map (·.labs))).length≤1000) :
  Calls Tryz.prog 34 #[.slice A n c] w fun e w'=>∃ (b':Nat) (A':Option Addr) (c':Nat) (E:List GR),e=.returned (.slice A' E.length c')∧IsIdx (doneOf (l.map (·.labs))) (E.map keyG)∧Rd w' b' A' (cEnt E)∧(∀ x∈E,Rd w' x.b x.A (cN .i64 x.ns))∧Nw w w':=by
 subst hn;have HR:=hid hr;have HI:=hid hI;have hmm:=@run_makeMap Tryz.prog;obtain ⟨i0,hi,hz0,hz1,hz2⟩:=E_ent.info;obtain ⟨B,hB⟩:∃ B,w.heap.size=B:=⟨_,rfl⟩;have HG0:=hid (GInv.start w);obtain ⟨sets,hsets⟩:∃ s,l.map (·.labs)=s:=⟨_,rfl⟩;rw [hsets] at hd ⊢;have HS:=hid hsets;clear hr hI hsets;go_enter Tryz.func34,Tryz.ntmps34
 go_wp2;rw [hB] at HG0;go_loopw [14] (fun i wr=>∃ (k:Nat) (rows:List GR),k≤l.length∧i=.int .i64 k∧Hid (GInv w wr B (doneOf (sets.take k)) rows)) (fun i _=>l.length - (intOf i).toNat)
 case atStart=>exact ⟨0,[],by omega,rfl,by simpa [doneOf] using HG0⟩
 case round =>
  obtain ⟨k,rows,hk,rfl,HG⟩:=hrel;by_cases hlt:k < l.length
  ·have hltI:(k:Int) < (l.length:Int):=by omega
   obtain ⟨o,rfl,_,hc⟩:=(HR.out.nw HG.out.nw).get (k:=k) (by rw [cSet,List.length_map];exact hlt);simp only [cSet,List.getElem_map] at hc;have HIx:=hid (HI.out l[k] (List.getElem_mem hlt));have hks:k < sets.length:=by rw [← HS.out,List.length_map];exact hlt
   have HD:=hid (doneOf_snoc hks);have HL:=hid (show sets[k]=l[k].labs from by simp only [← HS.out,List.getElem_map]);have HDL:=hid (show (doneOf (sets.take k)++tagAt sets[k] k).length≤1000 from by
    rw [← doneOf_snoc hks];refine Nat.le_trans ?_ hd
    conv=>rhs;rw [← List.take_append_drop (k+1) sets]
    unfold doneOf;rw [List.mapIdx_append,List.flatten_append,List.length_append];omega)
   generalize l[k]=x at *;generalize sets[k]=L at *;obtain ⟨labs,bl,al,cl⟩:=x;obtain rfl:L=labs:=HL.out;have hll:L.length≤1000:=HIx.out.2.1;have HIL:Hid (Rd w bl al (cL L)):=hid HIx.out.1;have HIO:Hid (∀ x∈L,LOk x):=hid HIx.out.2.2;generalize doneOf (sets.take k)=D at *;clear HL HIx;dsimp only at hc;go_wp2_with fail;go_loopw [21] (fun i wr=>∃ (j:Nat) (rows:List GR),j≤L.length∧i=.int .i64 j∧Hid (GInv w wr B (D++tagAt (L.take j) k) rows)) (fun i _=>L.length - (intOf i).toNat)
   case atStart=>exact ⟨0,rows,by omega,rfl,by simpa [tagAt] using HG⟩
   case round =>
    obtain ⟨j,rows,hj,rfl,HG⟩:=hrel;by_cases hjt:j < L.length
    ·have hltJ:(j:Int) < (L.length:Int):=by omega
     obtain ⟨o2,rfl,_,hc0,hc1⟩:=two_at (HIL.out.nw HG.out.nw) hjt;have HOx:=hid (HIO.out L[j] (List.getElem_mem hjt));have HT:=hid (show D++tagAt (L.take (j+1)) k=D++tagAt (L.take j) k++[(L[j],k)] from by rw [tagAt_snoc hjt,List.append_assoc]);have hdl:(D++tagAt (L.take j) k).length≤1000:=by
      have:=HDL.out;simp [tagAt] at this ⊢;omega
     generalize L[j]=x at *;obtain ⟨a,d⟩:=x;have hN:Nw wr ((wr.alloc (.cells #[.string a,.string d] 124)).alloc (.cells #[.int .i64 k] 3)):=((Nw.refl wr).alloc' _).alloc' _;have hlit:((wr.alloc (.cells #[.string a,.string d] 124)).alloc (.cells #[.int .i64 k] 3)).heap[(wr.alloc (.cells #[.string a,.string d] 124)).heap.size]? = some (.cells #[.int .i64 k] 3 (0,0)):=heap_alloc_new _ _;obtain ⟨jj,bb,AA,cc,ns,W1,hrun,hO1,hnl,hk1,hbB,hcont⟩:=group_round (HG.out.tr hN) HOx.out k;have hlB:(wr.alloc (.cells #[.string a,.string d] 124)).heap.size≠B:=fun e=>by
      rw [e,(HG.out.tr hN).map] at hlit;cases hlit
     have hlit1:=(hk1.block _ (lt_of_block hlit) hlB hlB).trans hlit;have hrl:Rd W1 (wr.alloc (.cells #[.string a,.string d] 124)).heap.size (some ⟨(wr.alloc (.cells #[.string a,.string d] 124)).heap.size,0,none⟩) [.int .i64 k]:=.inr ⟨0,rfl,lt_of_block hlit1,fun j u hu=>by rw [Nat.zero_add,cell_at hlit1];simpa using hu⟩;have HO1:=hid hO1;have HRL:=hid hrl;have HC:=hid hcont;clear hO1 hrl hcont hlit hlit1 hk1 hN;rw [World.size_alloc] at HRL;go_wp2_with (first
      | (refine wpList_entryM rfl (.tmp 25) (.tmp 26) _ rfl rfl rfl hrun ?_)
      | (at_builtin;refine wpList_app E_int rfl (.tmp 27) (.tmp 29) rfl rfl HO1.out rfl HRL.out (by simp) (by intro h;cases h) (oc_N .i64 [k]) (by simp only [maxLen];omega) (by omega) ?_;intro b' A' c' W2 q1 q2 q3 q4;obtain ⟨W3,hst,hk3,rows',hG'⟩:=HC.out b' A' c' W2 (by rw [show cN .i64 (ns++[k])=cN .i64 ns++[.int .i64 k] from by simp [cN]];exact q1) q2 q3 (fun e=>(q4 e).1))
      | (refine wpList_storeM rfl (.tmp 25) (.tmp 32) (.tmp 31) _ rfl rfl rfl rfl hst ?_)
      | fail)
     go_roundw
     case rel=>exact ⟨j+1,rows',by omega,by go_num,hid (by rw [HT.out];exact hG')⟩
     case measure=>simp [intOf];omega
    ·obtain rfl:j=L.length:=by omega
     have hG2:=HG.out;rw [List.take_length,← HD.out] at hG2;have HG2:=hid hG2;clear hG2 HG;go_wp2_with fail;go_roundw
     case rel=>exact ⟨k+1,rows,by omega,by go_num,HG2⟩
     case measure=>simp [intOf];omega
  ·obtain rfl:k=l.length:=by omega
   have hG:=HG.out;rw [List.take_of_length_le (by rw [← HS.out,List.length_map];exact Nat.le_refl _)] at hG;have hrl:rows.length≤1000:=by
    have:=hG.grp.len;rw [List.length_map] at this;omega
   have hbx:=heap_alloc_new wr (.cells #[.map (some B)] 127);have hNx:Nw wr (wr.alloc (.cells #[.map (some B)] 127)):=(Nw.refl wr).alloc' _;have hGx:=hG.tr hNx;have HSK:=hid (SortedK_any _ wr.heap.size B (rows.map valG) (by rw [List.length_map];omega) hG.keys_nd hbx hGx.map);have HGx:=hid hGx;have HKA:=hid (Keys_any wr (some B));clear hG hbx hNx hGx HG;go_wp2_with fail;refine HKA.out.mono ?_;rintro e w1 ⟨rfl,rfl⟩;go_wp2_with fail;refine HSK.out.mono ?_;rintro e wq ⟨ks,bp,Ap,cp,rfl,hp,hasc,hRk,hNq⟩;have hpg:ks.Perm ((rows.map keyG).map (·.1)):=by rw [← keysG];exact hp
   obtain ⟨E,hE1,hE2⟩:=rows_of rows ks (fun x hx=>hpg.mem_iff.1 hx);have hEl:(rows.map valG).length=E.length:=by
    have h:=congrArg List.length hE1;rw [List.length_map] at h;rw [h,hp.length_eq];simp
   have hEk:E.length≤1000:=by rw [← hEl,List.length_map];exact hrl
   have hidx:IsIdx (doneOf sets) (E.map keyG):=by
    have hm:(E.map keyG).map (·.1)=ks:=by rw [← hE1];simp
    refine ⟨by rw [hm];exact hasc,fun x=>by rw [hm,hpg.mem_iff];exact HGx.out.grp.mem x,fun p hp=>?_⟩;obtain ⟨r,hr,rfl⟩:=List.mem_map.1 hp;exact HGx.out.grp.nums _ (List.mem_map_of_mem (hE2 r hr))
   have hNr:=HGx.out.nw.trans hNq;have HIDX:=hid hidx;have HRE:Hid (∀ x∈E,Rd wq x.b x.A (cN .i64 x.ns)):=hid fun x hx=>((HGx.out.own x (hE2 x hx)).rd).nw hNq
   have HLK:Hid (∀ W,Nw wq W→∀ x∈E,(Instr.lookup 127 (.map (some B)) (labKey x.lab) false).run Tryz.prog W=.ok (.slice x.A x.ns.length x.c) W):=hid fun W hW x hx=>by
    have hB0:=lt_of_block HGx.out.map;exact HGx.out.look (hE2 x hx) ((hW.block B (by have:=hNq.size;omega)).trans (hNq.block B hB0))
   have HNr:=hid hNr;have HRK:=hid hRk;have HEK:=hid hE1;rw [hEl];clear HGx HSK HKA hp hpg hasc hRk hNq hE1 hE2 hidx hNr hEl hrl hd HS HI hk hlt;go_wp2_with fail;go_loopw [8,39] (fun v i wr=>∃ (k bk:Nat) (Ak:Option Addr) (ck:Nat),k≤E.length∧i=.int .i64 k∧v=.slice Ak k ck∧Hid (Ow wr bk 126 3 Ak k ck (cEnt (E.take k)))∧Hid (wq.heap.size≤bk)∧Hid (Nw wq wr)) (fun _ i _=>E.length - (intOf i).toNat)
   case atStart=>exact ⟨0,wq.heap.size,none,0,by omega,rfl,rfl,hid (Ow.nil _ _ _ _),hid (Nat.le_refl _),hid (Nw.refl _)⟩
   case round =>
    obtain ⟨k,bk,Ak,ck,hk,rfl,rfl,HO,HBk,HN⟩:=hrel;by_cases hlt:k < E.length
    ·have hltI:(k:Int) < (E.length:Int):=by omega
     have hkk:k < ks.length:=by rw [← HEK.out,List.length_map];exact hlt
     obtain ⟨o,rfl,_,hc0,hc1⟩:=two_at (HRK.out.nw HN.out) hkk;have hkx:ks[k]=E[k].lab:=by simp only [← HEK.out,List.getElem_map]
     rw [hkx] at hc0 hc1;have HT:=hid (cEnt_snoc hlt);have HLx:=hid fun W (hW:Nw wq W)=>HLK.out W hW E[k] (List.getElem_mem hlt)
     generalize E[k]=x at *;obtain ⟨⟨a,d⟩,ns,xb,xA,xc⟩:=x;dsimp only at hc0 hc1;have hNx:Nw wr (wr.alloc (.cells #[.string a,.string d] 124)):=(Nw.refl wr).alloc' _;have hbx:=heap_alloc_new wr (.cells #[.string a,.string d] 124);have hbl:=lt_of_block hbx;obtain ⟨wx,hwx⟩:∃ wx,wr.alloc (.cells #[.string a,.string d] 124)=wx:=⟨_,rfl⟩;rw [hwx] at hNx hbx hbl;have HOW:=hid fun W (hN:Nw wx W)=>((HO.out.nw hNx).nw hN).row
     have HOWB:Hid (∀ j,(Value.slice Ak k ck).ownBlock=some j→j=bk):=hid fun j e=>(HO.out.ownBlock j e).1
     have hbk:Ak≠none→bk < wr.heap.size:=fun h=>HO.out.lt_some h
     have HNQ:=hid (HN.out.trans hNx);have hc3:(Instr.lookup 127 (.map (some B)) (.agg #[.string a,.string d]) false).run Tryz.prog wx.drew=.ok (.slice xA ns.length xc) wx.drew:=HLx.out wx.drew (HNQ.out.trans (Nw.drewO wx));have hc0:=cell_at (k:=0) hbx;have hc1:=cell_at (k:=1) hbx;have HK5:Hid (∀ W5,(wx.drew.alloc (.cells #[.string a,.string d,.slice xA ns.length xc] 126)).grownBy W5 (Value.slice Ak k ck).ownBlock→Kp bk bk wx W5):=hid fun W5 hg=>by
      have h1:Kp bk bk wx (wx.drew.alloc (.cells #[.string a,.string d,.slice xA ns.length xc] 126)):=((Nw.drewO wx).alloc' _).kp _ _;exact h1.grown hg (fun j e=>.inl (HOWB.out j e))
     have hd0:wx.drew.cell? ⟨wr.heap.size,0,none⟩=some (.string a):=hc0;have hd1:wx.drew.cell? ⟨wr.heap.size,1,none⟩=some (.string d):=hc1;have hw8:wr.heap.size < wr.heap.size+1:=Nat.lt_succ_self _;clear hkx hNx HO;go_wp2_with fail;clear hwx;go_region_law (refine step_append_lies _ rfl (.tmp 43) (.tmp 49) 69 rfl 0 126 i0 (.agg #[.string .empty,.string .empty,.slice none 0 0]) 3 56 E_ent.und hi hz0 hz1 hz2 rfl (by omega) _ k (cEnt (E.take k)) rfl (HOW.out _ (Nw.alloc' (Nw.drewO _) _)) ⟨_,0,none⟩ 1 1 [.string a,.string d,.slice xA ns.length xc] rfl rfl (World.news_of_block (heap_alloc_new _ _)) (by intro u hu;simp at hu;rcases hu with rfl | rfl | rfl<;>rfl) (by omega) (by simp only [maxLen];omega) (by omega) (Nat.zero_le _) _ rfl ?_;intro g5 cap5 w5 q1 q2 q3 q4)
     all_goals
      have q2':(wx.drew.alloc (.cells #[.string a,.string d,.slice xA ns.length xc] 126)).grownBy w5 (Value.slice Ak k ck).ownBlock:=q2;have q3':(Value.slice Ak k ck).ownBlock=some g5∨g5=(wx.alloc (.cells #[.string a,.string d,.slice xA ns.length xc] 126)).heap.size:=q3;have hkA:=HK5.out w5 q2';have hgb:wq.heap.size≤g5:=by
       rcases q3' with h | h
       ·rw [HOWB.out g5 h];exact HBk.out
       ·have:=HNQ.out.size;rw [World.size_alloc] at h;omega
      have HO5:Hid (Ow w5 g5 126 3 (some ⟨g5,0,none⟩) (k+1) cap5 (cEnt (E.take (k+1)))):=hid (by
       rw [HT.out];exact .inr ⟨rfl,q4,q1⟩)
      have HN5:=hid (Kp.nw HNQ.out hkA HBk.out HBk.out);have HGB:=hid hgb;clear hkA q1 q2 q3 q4 q2' q3' hgb;go_wp2;go_roundw
      case rel=>exact ⟨k+1,g5,_,cap5,by omega,by go_num,rfl,HO5,HGB,HN5⟩
      case measure=>simp [intOf];omega
    ·obtain rfl:k=E.length:=by omega
     have hO:=HO.out;rw [List.take_length] at hO;go_wp2;go_ret;exact ⟨bk,Ak,ck,E,rfl,HIDX.out,hO.rd,fun x hx=>(HRE.out x hx).nw HN.out,HNr.out.trans HN.out⟩
end
section
open Go Go.RowKit Go.Lib Go.Sort Go.Shelf
theorem AppB.of_two {w w1 w2:World} {b b' n c':Nat} {A A':Option Addr} {xs news:List Nat} (hN:Nw w w1) (h1:Ow w2 b' 5 1 A' (n+news.length) c' (cN .u8 xs++cN .u8 news)) (h2:b'=b∨w1.heap.size≤b') (h3:Kp b b w1 w2) (h4:A=none→Nw w1 w2∧(w1.heap.size≤b'∨A'=none)) :
  AppB w b A n xs news (.returned (.slice A' (n+news.length) c')) w2:=by
 have hs:=hN.size;exact AppB.of_app h1 (h2.imp id (fun h=>by omega)) ((hN.kp b b).trans h3 (.inl rfl) (.inl rfl)) (fun e=>⟨hN.trans (h4 e).1,(h4 e).2.imp (fun h=>by omega) id⟩)
set_option maxRecDepth 100000 in
theorem number_any (w:World) (b:Nat) (A:Option Addr) (n c:Nat) (xs:List Nat) (x:Nat) (hO:Ow w b 5 1 A n c (cN .u8 xs)) (hx:x≤1000000000000) (hn:n≤1000000000000) :
  Calls Tryz.prog 91 #[.slice A n c,.int .i64 (x:Int)] w (AppB w b A n xs (vint x)):=by
 have HO:=hid hO;have hV:=vint_len x (by omega);have HE:=hid (REncode2_any x w x (Nat.le_refl _) (by omega));generalize vint x=V at *;have u0:IntKind.u64.wrap (x:Int)=(x:Int):=IntWalk.u64_in _ (by omega);clear hO;go_enter Tryz.func91,Tryz.ntmps91
 go_wp2_with fail;refine HE.out.mono ?_;rintro e w1 ⟨b1,A1,c1,rfl,hO1,hb1,hN1⟩;have hnil:=hO1.nilc;have HR1:=hid hO1.rd;have HN1:=hid hN1;have HOw:=hid (HO.out.nw hN1);clear hO1 hN1 HE;go_wp2_with (at_builtin;refine wpList_app E_u8 rfl (.tmp 5) (.tmp 8) rfl rfl HOw.out rfl HR1.out (by rw [List.length_map,Nat.mul_one]) hnil (u8_lit _) (by simp only [maxLen];omega) (by omega) ?_;intro b3 A3 c3 w3 r1 r2 r3 r4;have R:=hid (AppB.of_two HN1.out r1 r2 r3 r4);clear r1 r2 r3 r4)
 go_ret;exact R.out
set_option maxRecDepth 100000 in
set_option maxHeartbeats 2000000 in
theorem RRecEncode_any (w:World) (b bt:Nat) (A At:Option Addr) (n c nt ct:Nat) (t:List ByteArray) (l:List RecS) (hn:n=l.length) (hm:n≤1000) (hr:Rd w b A (cRec l)) (hnt:nt=t.length) (hrt:Rd w bt At (cT t)) (ht:TblOk t) (hI:∀ s∈l,InRec w s) (hok:∀ s∈l,RecOk t (valR s)) :
  Calls Tryz.prog 41 #[.slice At nt ct,.slice A n c] w (NewBE w (recEnc t (l.map valR))):=by
 subst hn hnt;have HR:=hid hr;have HRT:=hid hrt;have HT:=hid ht;have HI:=hid hI;have HOK:=hid hok;have htl:t.length≤1000:=ht.1;have hVl:=vint_len l.length (by omega);have HVA:=hid fun W=>number_any W 0 none 0 0 [] l.length (Ow.nil _ _ _ _) (by omega) (by omega)
 have HE:=hid (show recEnc t (l.map valR)=vint l.length++(l.map valR).flatMap (recEnc1 t) from by unfold recEnc;rw [List.length_map]);obtain ⟨V,hV⟩:∃ V,vint l.length=V:=⟨_,rfl⟩;rw [hV] at hVl HE;simp only [hV] at HVA;clear hr hrt ht hI hok hV;go_enter Tryz.func41,Tryz.ntmps41
 go_wp2_with fail;refine (HVA.out w).mono ?_;rintro e w1 hA;obtain ⟨b1,A1,c1,rfl,hRI,_⟩:=RI.start.app hA;simp only [Nat.zero_add,List.nil_append] at hRI;have HRI:=hid hRI;have hv0:V.length≤10+30020*0:=by omega
 clear hRI hA HVA;go_wp2_with fail;go_loopw [6,7] (fun v i wr=>∃ (k M bk:Nat) (Ak:Option Addr) (ck:Nat),k≤l.length∧i=.int .i64 k∧v=.slice Ak M ck∧M≤10+30020*k∧Hid (RI w wr [] bk Ak M ck (V++((l.map valR).take k).flatMap (recEnc1 t)))) (fun _ i _=>l.length - (intOf i).toNat)
 case atStart=>exact ⟨0,V.length,b1,A1,c1,by omega,rfl,rfl,hv0,by simpa using HRI⟩
 case round =>
  obtain ⟨k,M,bk,Ak,ck,hk,rfl,rfl,hM,HK⟩:=hrel;by_cases hlt:k < l.length
  ·have hltI:(k:Int) < (l.length:Int):=by omega
   obtain ⟨o,rfl,hbw,hc0,hc1⟩:=two_at HR.out hlt;have HIx:=hid (HI.out l[k] (List.getElem_mem hlt));have HOx:=hid (HOK.out l[k] (List.getElem_mem hlt));have HTk:=hid (show ((l.map valR).take (k+1)).flatMap (recEnc1 t)=((l.map valR).take k).flatMap (recEnc1 t)++recEnc1 t (valR l[k]) from by rw [flat_snoc _ (by simpa using hlt),List.getElem_map]);generalize l[k]=x at *;obtain ⟨labs,chks,bl,al,cl,bc,ac,cc⟩:=x;dsimp only at hc0 hc1;have HC:=hid fun W (h:Nw w W)=>And.intro (cell_old (a:=⟨b,o+k*2,none⟩) h hbw hc0) (cell_old (a:=⟨b,o+k*2+1,none⟩) h hbw hc1)
   have hll:labs.length≤1000:=HOx.out.2.1;have hcl:chks.length≤1000:=HOx.out.2.2.2.1;have hc0':(((chks.length:Nat):Int) == 0)=false:=by
    rw [beq_eq_false_iff_ne];have:=HOx.out.2.2.1;have:chks.length≠0:=fun h=>this (List.eq_nil_of_length_eq_zero h)
    omega
   have l1:=vint_len labs.length (by omega);have l2:=vint_len chks.length (by omega);have HXs:=hid (show V++((l.map valR).take (k+1)).flatMap (recEnc1 t)=(V++((l.map valR).take k).flatMap (recEnc1 t))++vint labs.length++(strsOf labs).flatMap (fun s=>vint (idxS t s))++vint chks.length++chks.flatMap vint from by rw [HTk.out];unfold recEnc1;simp only [List.append_assoc]);obtain ⟨X0,hX0⟩:∃ X,V++((l.map valR).take k).flatMap (recEnc1 t)=X:=⟨_,rfl⟩;rw [hX0] at HXs HK;have HST:=hid (RStrings_any wr bl al labs.length cl labs rfl (by omega) (HIx.out.1.nw HK.out.nw));obtain ⟨q0,q1⟩:=HC.out wr HK.out.nw;clear HTk hX0 hc0 hc1;go_wp2_with fail;refine HST.out.mono ?_;rintro e w2 ⟨b2,A2,c2,rfl,hO2,hb2,hN2⟩;obtain ⟨b3,hRd3,hb3,hlt3⟩:∃ b',Rd w2 b' A2 (cT (strsOf labs))∧(b'=b∨wr.heap.size≤b')∧b' < w2.heap.size:=hO2.rd.inK hb2 (by have:=(HK.out.nw.trans hN2).size;omega);obtain ⟨K3,hK3,hRK,hKs⟩:∃ K,(∀ (W W':World),(∀ k∈K,W'.heap[k]? = W.heap[k]?)→(b3 < w.heap.size→Nw w W∧Nw w W')→W'.heap[b3]? = W.heap[b3]?)∧RI w w2 K bk Ak M ck X0∧∀ k∈K,k < w2.heap.size:=by
    by_cases hb:wr.heap.size≤b3
    ·exact ⟨[b3],fun W W' h _=>h b3 (by simp),HK.out.add hN2 (.inr hb) hlt3,fun k hk=>by obtain rfl:=List.mem_singleton.1 hk;exact hlt3⟩
    ·have hbb:b3 < w.heap.size:=by
      rcases hb3 with rfl | h
      ·exact hbw
      ·exact (hb h).elim
     exact ⟨[],fun W W' _ h=>by rw [(h hbb).2.block b3 hbb,(h hbb).1.block b3 hbb],HK.out.tr hN2,fun k hk=>by cases hk⟩
   have HK3:=hid hK3;have HR2:=hid hRK;have HRS:=hid hRd3;have HSL:=hid (strsOf_length labs);have HSM:=hid (show ∀ s∈strsOf labs,s∈t from HOx.out.1);have HV1:=hid (number_any w2 bk Ak M ck X0 labs.length hRK.ow (by omega) (by omega));have q2:=(HC.out w2 hRK.nw).1;clear hO2 hRd3 hb3 hN2 HST hK3 hRK hKs q0 q1 HK;have u2':IntKind.i64.wrap (2*(labs.length:Int))=2*(labs.length:Int):=IntWalk.i64_in _ (by omega);go_wp2_with fail;refine HV1.out.mono ?_;rintro e w3 hA;have hs3:w2.heap.size≤w3.heap.size:=by obtain ⟨_,_,_,_,_,_,h,_⟩:=hA;exact h.size
   obtain ⟨b1,A1,c1,rfl,hR1,hk1⟩:=HR2.out.app hA;have HR3:=hid hR1;have HRS3:=hid (HRS.out.same (HK3.out w2 w3 hk1 (fun _=>⟨HR2.out.nw,hR1.nw⟩)) hs3);clear HRS HR2 hA hR1 hk1 HV1 hs3 q2;have hv2:M+(vint labs.length).length≤20+30020*k+10*0:=by omega
   go_wp2_with fail;generalize M+(vint labs.length).length=M1 at *;generalize X0++vint labs.length=X1 at *;obtain ⟨ss,hss⟩:∃ ss,strsOf labs=ss:=⟨_,rfl⟩;rw [hss] at HRS3 HSL HSM HXs;go_loopw [6,9] (fun v i wr=>∃ (j M bk:Nat) (Ak:Option Addr) (ck:Nat),j≤2*labs.length∧i=.int .i64 j∧v=.slice Ak M ck∧M≤20+30020*k+10*j∧Hid (RI w wr K3 bk Ak M ck (X1++(ss.take j).flatMap fun s=>vint (idxS t s)))∧Hid (Rd wr b3 A2 (cT ss))) (fun _ i _=>2*labs.length - (intOf i).toNat)
   case atStart=>exact ⟨0,M1,b1,A1,c1,by omega,rfl,rfl,hv2,by simpa using HR3,HRS3⟩
   case round =>
    clear hM hv2;obtain ⟨j,M,bk,Ak,ck,hj,rfl,rfl,hM,HK,HKR⟩:=hrel;by_cases hjt:j < 2*labs.length
    ·have hltJ:(j:Int) < 2*(labs.length:Int):=by omega
     have hjs:j < ss.length:=by have:=HSL.out;omega
     obtain ⟨o3,rfl,_,hc⟩:=HKR.out.get (k:=j) (by simpa using hjs);rw [List.getElem_map] at hc;have hst:=HSM.out ss[j] (List.getElem_mem hjs);have HTj:=hid (show (ss.take (j+1)).flatMap (fun s=>vint (idxS t s))=(ss.take j).flatMap (fun s=>vint (idxS t s))++vint (idxS t ss[j]) from flat_snoc _ hjs);generalize ss[j]=s at *;have hix:=idxS_lt hst;have hvl:=vint_len (idxS t s) (by omega);have HIX:=hid (RIndex_any wr bt At t.length ct t s rfl (HRT.out.nw HK.out.nw) HT.out hst);have HVI:=hid (number_any wr bk Ak M ck _ (idxS t s) HK.out.ow (by omega) (by omega));generalize idxS t s=q at *;have d0:decide ((q:Int) < 0)=false:=by rw [decide_eq_false_iff_not];omega
     clear hst;go_wp2_with fail;refine HIX.out.mono ?_;rintro e w3 ⟨rfl,hw⟩;subst hw;go_wp2_with fail;refine HVI.out.mono ?_;rintro e w4 hA;have hs4:wr.heap.size≤w4.heap.size:=by obtain ⟨_,_,_,_,_,_,h,_⟩:=hA;exact h.size
     obtain ⟨b4,A4,c4,rfl,hR4,hk4⟩:=HK.out.app hA;have HR4:=hid hR4;have HRS4:=hid (HKR.out.same (HK3.out wr w4 hk4 (fun _=>⟨HK.out.nw,hR4.nw⟩)) hs4);clear hA hR4 hk4 hs4;go_wp2_with fail;go_roundw
     case rel=>exact ⟨j+1,M+(vint q).length,b4,A4,c4,by omega,by go_num,rfl,by omega,hid (HR4.out.cast (by rw [HTj.out,List.append_assoc]) rfl),HRS4⟩
     case measure=>simp [intOf];omega
    ·obtain rfl:j=2*labs.length:=by omega
     have hR5:=HK.out;rw [← HSL.out,List.take_length] at hR5;have HV5:=hid (number_any wr bk Ak M ck _ chks.length hR5.ow (by omega) (by omega));have HR5:=hid hR5.drop;have q1:=(HC.out wr hR5.nw).2;clear hR5 HK HKR HSM HSL;go_wp2_with fail;refine HV5.out.mono ?_;rintro e w6 hA;obtain ⟨b6,A6,c6,rfl,hR6,hk6⟩:=HR5.out.app hA;have HR6:=hid hR6;have HCK:Hid (Rd w bc ac (cN .i64 chks)):=hid HIx.out.2;have HCL:=hid HOx.out.2.2.2.2;dsimp only at HCL;have hv6:M+(vint chks.length).length≤30+30020*k+10*(2*labs.length)+10*0:=by omega
     clear hR6 hA hk6 HR5 HV5 q1;go_wp2_with fail;generalize M+(vint chks.length).length=M6 at *;obtain ⟨X6,hX6⟩:∃ X,X1++ss.flatMap (fun s=>vint (idxS t s))++vint chks.length=X:=⟨_,rfl⟩;rw [hX6] at HR6 HXs;clear hM hX6;go_loopw [6,11] (fun v i wr=>∃ (j M bk:Nat) (Ak:Option Addr) (ck:Nat),j≤chks.length∧i=.int .i64 j∧v=.slice Ak M ck∧M≤30+30020*k+10*(2*labs.length)+10*j∧Hid (RI w wr [] bk Ak M ck (X6++(chks.take j).flatMap vint))) (fun _ i _=>chks.length - (intOf i).toNat)
     case atStart=>exact ⟨0,M6,b6,A6,c6,by omega,rfl,rfl,hv6,by simpa using HR6⟩
     case round =>
      clear hv6;obtain ⟨j,M,bk,Ak,ck,hj,rfl,rfl,hM,HK⟩:=hrel;have q1:=(HC.out wr HK.out.nw).2;by_cases hjt:j < chks.length
      ·have hltJ:(j:Int) < (chks.length:Int):=by omega
       obtain ⟨o3,rfl,_,hc⟩:=(HCK.out.nw HK.out.nw).get (k:=j) (by simpa using hjt);rw [List.getElem_map] at hc;have hx:=HCL.out chks[j] (List.getElem_mem hjt);have HTj:=hid (show (chks.take (j+1)).flatMap vint=(chks.take j).flatMap vint++vint chks[j] from flat_snoc _ hjt);generalize chks[j]=q at *;have hvl:=vint_len q (by omega);have HV7:=hid (number_any wr bk Ak M ck _ q HK.out.ow (by omega) (by omega));have d1:decide ((q:Int) < 1)=false:=by rw [decide_eq_false_iff_not];omega
       have d2:decide ((2147483647:Int) < (q:Int))=false:=by rw [decide_eq_false_iff_not];omega
       go_wp2_with fail;refine HV7.out.mono ?_;rintro e w7 hA;obtain ⟨b7,A7,c7,rfl,hR7,_⟩:=HK.out.app hA;have HR7:=hid hR7;clear hR7 hA HV7;go_wp2_with fail;go_roundw
       case rel=>exact ⟨j+1,M+(vint q).length,b7,A7,c7,by omega,by go_num,rfl,by omega,hid (HR7.out.cast (by rw [HTj.out,List.append_assoc]) rfl)⟩
       case measure=>simp [intOf];omega
      ·obtain rfl:j=chks.length:=by omega
       have hR7:=HK.out;rw [List.take_length,← HXs.out] at hR7;have HR7:=hid hR7;clear hR7 HK;go_wp2_with fail;go_roundw
       case rel=>exact ⟨k+1,M,bk,Ak,ck,by omega,by go_num,rfl,by omega,HR7⟩
       case measure=>simp [intOf];omega
  ·obtain rfl:k=l.length:=by omega
   have hR:=HK.out;rw [List.take_of_length_le (by simp),← HE.out] at hR;have hl:=hR.len;have HR9:=hid hR;clear hR;go_wp2;go_ret2;subst hl;exact RI.newBE HR9.out
end
section
open Go Go.RowKit Go.Lib Go.Sort Go.Shelf
def difs (l:List Nat):List Nat:=List.zipWith (fun a b=>b - a) (0::l) l
theorem difs_len (l:List Nat):(difs l).length=l.length:=by unfold difs;simp
theorem difs_get (l:List Nat) (j:Nat) (h:j < l.length):(difs l)[j]'(by rw [difs_len];exact h)=l[j] - (0::l)[j]'(by simp;omega):=by
 unfold difs;rw [List.getElem_zipWith]
theorem last_le {l:List Nat} (ha:l.Pairwise (· < ·)) {j:Nat} (h:j < l.length):(0::l)[j]'(by simp;omega)≤l[j]:=by
 cases j with
 | zero=>simp
 | succ j =>
  rw [List.getElem_cons_succ];exact Nat.le_of_lt (List.pairwise_iff_getElem.1 ha j (j+1) (by omega) h (by omega))
abbrev EntV:=Lab × List Nat
def entEnc (t:List ByteArray) (x:EntV):List Nat:=([x.1.1,x.1.2].flatMap fun s=>vint (idxS t s))++vint x.2.length++(difs x.2).flatMap vint
def posEnc (t:List ByteArray) (l:List EntV):List Nat:=vint l.length++l.flatMap (entEnc t)
def EntOk (t:List ByteArray) (x:EntV):Prop:=x.1.1∈t∧x.1.2∈t∧x.2.length≤1000∧x.2.Pairwise (· < ·)∧∀ n∈x.2,n≤1000000
theorem cEnt_get:∀ (l:List GR) (k i:Nat),k < l.length→i < 3→(cEnt l)[k*3+i]? = l[k]?.bind fun e=>(cEnt1 e)[i]?
 | [],k,_,h,_=>by simp at h
 | x::l,k,i,h,hi=>by
  rw [show cEnt (x::l)=cEnt1 x++cEnt l from rfl];cases k with
  | zero=>rw [List.getElem?_append_left (by simp [cEnt1];omega)];simp
  | succ k =>
   rw [List.getElem?_append_right (by simp [cEnt1];omega),show (k+1)*3+i - (cEnt1 x).length=k*3+i from by simp [cEnt1];omega];rw [cEnt_get l k i (by simpa using h) hi];simp
theorem ent_at {w:World} {b k:Nat} {A:Option Addr} {l:List GR} (h:Rd w b A (cEnt l)) (hk:k < l.length) :
  ∃ o,A=some ⟨b,o,none⟩∧b < w.heap.size∧w.cell? ⟨b,o+k*3,none⟩=some (.string l[k].lab.1)∧w.cell? ⟨b,o+k*3+1,none⟩=some (.string l[k].lab.2)∧w.cell? ⟨b,o+k*3+2,none⟩=some (.slice l[k].A l[k].ns.length l[k].c):=by
 rcases h with h | ⟨o,rfl,hb,hc⟩
 ·have:=cEnt_len l;rw [h] at this;simp at this;omega
 ·refine ⟨o,rfl,hb,hc (k*3) _ ?_,?_,?_⟩
  ·have:=cEnt_get l k 0 hk (by omega);rw [Nat.add_zero] at this;rw [this,List.getElem?_eq_getElem hk];rfl
  ·rw [Nat.add_assoc];refine hc (k*3+1) _ ?_;rw [cEnt_get l k 1 hk (by omega),List.getElem?_eq_getElem hk];rfl
  ·rw [Nat.add_assoc];refine hc (k*3+2) _ ?_;rw [cEnt_get l k 2 hk (by omega),List.getElem?_eq_getElem hk];rfl
def InEnt (w:World) (x:GR):Prop:=Rd w x.b x.A (cN .i64 x.ns)
set_option maxRecDepth 100000 in
set_option maxHeartbeats 2000000 in
theorem PosEncode_any (w:World) (b bt:Nat) (A At:Option Addr) (n c nt ct:Nat) (t:List ByteArray) (l:List GR) (hn:n=l.length) (hm:n≤1000) (hr:Rd w b A (cEnt l)) (hnt:nt=t.length) (hrt:Rd w bt At (cT t)) (ht:TblOk t) (hI:∀ s∈l,InEnt w s) (hok:∀ s∈l,EntOk t (keyG s)) :
  Calls Tryz.prog 33 #[.slice At nt ct,.slice A n c] w (NewBE w (posEnc t (l.map keyG))):=by
 subst hn hnt;have HR:=hid hr;have HRT:=hid hrt;have HT:=hid ht;have HI:=hid hI;have HOK:=hid hok;have htl:t.length≤1000:=ht.1;have hVl:=vint_len l.length (by omega);have HVA:=hid fun W=>VAppend_any W 0 none 0 0 [] l.length (Ow.nil _ _ _ _) (by omega) (by omega)
 have HE:=hid (show posEnc t (l.map keyG)=vint l.length++(l.map keyG).flatMap (entEnc t) from by unfold posEnc;rw [List.length_map]);obtain ⟨V,hV⟩:∃ V,vint l.length=V:=⟨_,rfl⟩;rw [hV] at hVl HE;simp only [hV] at HVA;have u0:IntKind.u64.wrap (l.length:Int)=(l.length:Int):=IntWalk.u64_in _ (by omega);clear hr hrt ht hI hok hV;go_enter Tryz.func33,Tryz.ntmps33
 go_wp2_with fail;refine (HVA.out w).mono ?_;rintro e w1 hA;obtain ⟨b1,A1,c1,rfl,hRI,_⟩:=RI.start.app hA;simp only [Nat.zero_add,List.nil_append] at hRI;have HRI:=hid hRI;have hv0:V.length≤10+10050*0:=by omega
 clear hRI hA HVA u0;go_wp2_with fail;go_loopw [6,22] (fun v i wr=>∃ (k M bk:Nat) (Ak:Option Addr) (ck:Nat),k≤l.length∧i=.int .i64 k∧v=.slice Ak M ck∧M≤10+10050*k∧Hid (RI w wr [] bk Ak M ck (V++((l.map keyG).take k).flatMap (entEnc t)))) (fun _ i _=>l.length - (intOf i).toNat)
 case atStart=>exact ⟨0,V.length,b1,A1,c1,by omega,rfl,rfl,hv0,by simpa using HRI⟩
 case round =>
  obtain ⟨k,M,bk,Ak,ck,hk,rfl,rfl,hM,HK⟩:=hrel;by_cases hlt:k < l.length
  ·have hltI:(k:Int) < (l.length:Int):=by omega
   obtain ⟨o,rfl,_,hc0,hc1,hc2⟩:=ent_at (HR.out.nw HK.out.nw) hlt;have HIx:=hid (HI.out l[k] (List.getElem_mem hlt));have HOx:=hid (HOK.out l[k] (List.getElem_mem hlt));have HTk:=hid (show ((l.map keyG).take (k+1)).flatMap (entEnc t)=((l.map keyG).take k).flatMap (entEnc t)++entEnc t (keyG l[k]) from by rw [flat_snoc _ (by simpa using hlt),List.getElem_map]);generalize l[k]=x at *;obtain ⟨⟨a,d⟩,ns,xb,xA,xc⟩:=x;dsimp only at hc0 hc1 hc2;have hcl:ns.length≤1000:=HOx.out.2.2.1;have u2:IntKind.u64.wrap (ns.length:Int)=(ns.length:Int):=IntWalk.u64_in _ (by omega);have l2:=vint_len ns.length (by omega);obtain ⟨w0,hw0⟩:∃ w0,w0=wr.alloc (.cells #[.string a,.string d,.slice xA ns.length xc] 126):=⟨_,rfl⟩;obtain ⟨bx,hbx⟩:∃ bx,bx=wr.heap.size:=⟨_,rfl⟩;have hNx:Nw wr w0:=by rw [hw0];exact (Nw.refl _).alloc' _
   have hbb:w0.heap[bx]? = some (.cells #[.string a,.string d,.slice xA ns.length xc] 126 (0,0)):=by rw [hw0,hbx];exact heap_alloc_new _ _
   obtain ⟨w2,hw2⟩:∃ w2,w2=w0.alloc (.cells #[.string a,.string d] 9):=⟨_,rfl⟩;obtain ⟨b3,hb3⟩:∃ b3,b3=wr.heap.size+1:=⟨_,rfl⟩;have hN2:Nw w0 w2:=by rw [hw2];exact (Nw.refl _).alloc' _
   have hs0:w0.heap.size=wr.heap.size+1:=by rw [hw0];simp
   have hlit:w2.heap[b3]? = some (.cells #[.string a,.string d] 9 (0,0)):=by rw [hw2,hb3,← hs0];exact heap_alloc_new _ _
   have hR0:=(HK.out.add hNx (k:=bx) (.inr (by omega)) (lt_of_block hbb)).add hN2 (k:=b3) (.inr (by omega)) (lt_of_block hlit);have hbb2:=(hN2.block bx (lt_of_block hbb)).trans hbb;have HXs:=hid (show V++((l.map keyG).take (k+1)).flatMap (entEnc t)=(V++((l.map keyG).take k).flatMap (entEnc t))++([a,d].flatMap (fun s=>vint (idxS t s)))++vint ns.length++(difs ns).flatMap vint from by rw [HTk.out];unfold entEnc;simp only [List.append_assoc]);obtain ⟨X1,hX1⟩:∃ X,V++((l.map keyG).take k).flatMap (entEnc t)=X:=⟨_,rfl⟩;rw [hX1] at hR0 HXs;have HR2:=hid hR0;have HBB:=hid hbb2;have hrl:Rd w2 b3 (some ⟨b3,0,none⟩) (cT [a,d]):=.inr ⟨0,rfl,lt_of_block hlit,fun j u hu=>by rw [Nat.zero_add,cell_at hlit];simpa [cT] using hu⟩;have HRS:=hid hrl;rw [hw0,hbx] at hbb;have e0:=cell_at (k:=0) hbb;have e1:=cell_at (k:=1) hbb;have e2:=cell_at (k:=2) hbb;obtain ⟨ss,hss⟩:∃ ss,[a,d]=ss:=⟨_,rfl⟩;have HSL:=hid (show ss.length=2 from by rw [← hss];rfl);have HSM:=hid (show ∀ s∈ss,s∈t from by
    rw [← hss];intro s hs;simp at hs;rcases hs with rfl | rfl
    ·exact HOx.out.1
    ·exact HOx.out.2.1)
   rw [hss] at HRS HXs;clear HK HTk hR0 hX1 hNx hN2 hbb2 hlit hrl hss hs0;go_wp2_with fail;rw [← hw0,← hw2,← hb3,← hbx];clear e0 e1 e2 hw0 hw2 hbx hb3 hc0 hc1 hc2 hbb;have hv2:M≤20+10050*k+10*0:=by omega
   go_loopw [6,34] (fun v i wr=>∃ (j M bk:Nat) (Ak:Option Addr) (ck:Nat),j≤2∧i=.int .i64 j∧v=.slice Ak M ck∧M≤20+10050*k+10*j∧Hid (RI w wr [b3,bx] bk Ak M ck (X1++(ss.take j).flatMap fun s=>vint (idxS t s)))∧Hid (wr.heap[b3]? = w2.heap[b3]?∧wr.heap[bx]? = w2.heap[bx]?∧w2.heap.size≤wr.heap.size)) (fun _ i _=>2 - (intOf i).toNat)
   case atStart=>exact ⟨0,M,bk,Ak,ck,by omega,rfl,rfl,hv2,by simpa using HR2,hid ⟨rfl,rfl,Nat.le_refl _⟩⟩
   case round =>
    clear hM hv2;obtain ⟨j,M,bk,Ak,ck,hj,rfl,rfl,hM,HK,HKP⟩:=hrel;by_cases hjt:j < 2
    ·have hltJ:(j:Int) < 2:=by omega
     have hjs:j < ss.length:=by have:=HSL.out;omega
     obtain ⟨o3,ho3,_,hc⟩:=(HRS.out.same HKP.out.1 HKP.out.2.2).get (k:=j) (by simpa using hjs);obtain rfl:o3=0:=by simpa using ho3.symm
     rw [List.getElem_map,Nat.zero_add] at hc;have hst:=HSM.out ss[j] (List.getElem_mem hjs);have HTj:=hid (show (ss.take (j+1)).flatMap (fun s=>vint (idxS t s))=(ss.take j).flatMap (fun s=>vint (idxS t s))++vint (idxS t ss[j]) from flat_snoc _ hjs);generalize ss[j]=s at *;have hix:=idxS_lt hst;have hvl:=vint_len (idxS t s) (by omega);have HIX:=hid (SIndex_any wr bt At t.length ct t s rfl (HRT.out.nw HK.out.nw) HT.out hst);have HVI:=hid fun W (hD:Dr wr W)=>VAppend_any W bk Ak M ck _ (idxS t s) (HK.out.ow.nw hD.nw) (by omega) (by omega)
     have HXI:=hid fun W (hD:Dr wr W)=>HK.out.tr hD.nw
     have HKI:=hid fun W (hD:Dr wr W)=>And.intro (hD.nw.block b3 (HK.out.kk b3 (by simp))) (And.intro (hD.nw.block bx (HK.out.kk bx (by simp))) hD.nw.size)
     generalize idxS t s=q at *;have u3:IntKind.u64.wrap (q:Int)=(q:Int):=IntWalk.u64_in _ (by omega);clear HK hst ho3;go_wp2_with fail;refine HIX.out.mono ?_;rintro e w3 ⟨rfl,hD⟩;have HD:=hid hD;clear hD;go_wp2_with fail;refine (HVI.out _ HD.out).mono ?_;rintro e w4 hA;obtain ⟨b4,A4,c4,rfl,hR4,hk4⟩:=(HXI.out _ HD.out).app hA;have HR4:=hid hR4;have hk3:=HKI.out _ HD.out;have HK4:=hid (show w4.heap[b3]? = w2.heap[b3]?∧w4.heap[bx]? = w2.heap[bx]?∧w2.heap.size≤w4.heap.size from ⟨(hk4 b3 (by simp)).trans (hk3.1.trans HKP.out.1),(hk4 bx (by simp)).trans (hk3.2.1.trans HKP.out.2.1),by
      obtain ⟨_,_,_,_,_,_,h,_⟩:=hA;have:=h.size;have:=hk3.2.2;have:=HKP.out.2.2;omega⟩)
     clear hA hR4 hk4 hk3;go_wp2_with fail;go_roundw
     case rel=>exact ⟨j+1,M+(vint q).length,b4,A4,c4,by omega,by go_num,rfl,by omega,hid (HR4.out.cast (by rw [HTj.out,List.append_assoc]) rfl),HK4⟩
     case measure=>simp [intOf];omega
    ·obtain rfl:j=2:=by omega
     have hR5:=HK.out;rw [← HSL.out,List.take_length] at hR5;have hbb:=HKP.out.2.1.trans HBB.out;have HB5:=hid hbb;have e2:=cell_at (k:=2) hbb;have HV5:=hid (VAppend_any wr bk Ak M ck _ ns.length hR5.ow (by omega) (by omega));have HR5:=hid hR5;clear hR5 hbb HK HKP HSM HBB HSL HRS HR2;go_wp2_with fail;refine HV5.out.mono ?_;rintro e w6 hA;obtain ⟨b6,A6,c6,rfl,hR6,hk6⟩:=HR5.out.app hA;have HR6:=hid hR6.drop;have hbb:=(hk6 bx (by simp)).trans HB5.out;have HCK:Hid (Rd w xb xA (cN .i64 ns)):=hid HIx.out;have HCL:=hid HOx.out.2.2.2;have e2:=cell_at (k:=2) hbb;dsimp only at HCL;have hv6:M+(vint ns.length).length≤50+10050*k+10*0:=by omega
     clear hR6 hA hk6 hbb HR5 HV5 HB5;go_wp2_with fail;generalize M+(vint ns.length).length=M6 at *;obtain ⟨X6,hX6⟩:∃ X,X1++ss.flatMap (fun s=>vint (idxS t s))++vint ns.length=X:=⟨_,rfl⟩;rw [hX6] at HR6 HXs;clear e2 hM hX6;go_loopw [6,13,60] (fun v p i wr=>∃ (j M bk:Nat) (Ak:Option Addr) (ck:Nat),∃ hj:j≤ns.length,i=.int .i64 j∧p=.int .i64 ((0::ns)[j]'(by simp;omega):Nat)∧v=.slice Ak M ck∧M≤50+10050*k+10*j∧Hid (RI w wr [] bk Ak M ck (X6++((difs ns).take j).flatMap vint))) (fun _ _ i _=>ns.length - (intOf i).toNat)
     case atStart=>exact ⟨0,M6,b6,A6,c6,by omega,rfl,rfl,rfl,hv6,by simpa using HR6⟩
     case round =>
      clear hv6;obtain ⟨j,M,bk,Ak,ck,hj,rfl,rfl,rfl,hM,HK⟩:=hrel;by_cases hjt:j < ns.length
      ·have hltJ:(j:Int) < (ns.length:Int):=by omega
       obtain ⟨o3,rfl,_,hc⟩:=(HCK.out.nw HK.out.nw).get (k:=j) (by simpa using hjt);rw [List.getElem_map] at hc;have hx:=HCL.out.2 ns[j] (List.getElem_mem hjt);have hll:=last_le HCL.out.1 hjt;have HTj:=hid (show ((difs ns).take (j+1)).flatMap vint=((difs ns).take j).flatMap vint++vint (ns[j] - (0::ns)[j]'(by simp;omega)) from by rw [flat_snoc vint (l:=difs ns) (k:=j) (by rw [difs_len];exact hjt),difs_get ns j hjt]);have HNx:=hid (show (0::ns)[j+1]'(by simp;omega)=ns[j] from List.getElem_cons_succ ..);generalize (0::ns)[j]'(by simp;omega)=p at *;generalize ns[j]=q at *;have hvl:=vint_len (q - p) (by omega);have HV7:=hid (VAppend_any wr bk Ak M ck _ (q - p) HK.out.ow (by omega) (by omega));have hsb:(q:Int) - (p:Int)=((q - p:Nat):Int):=by omega
       have i3:IntKind.i64.wrap ((q:Int) - (p:Int))=((q - p:Nat):Int):=by rw [hsb];exact IntWalk.i64_in _ (by omega)
       generalize q - p=df at *;have u3:IntKind.u64.wrap (df:Int)=(df:Int):=IntWalk.u64_in _ (by omega);clear hsb;go_wp2_with fail;refine HV7.out.mono ?_;rintro e w7 hA;obtain ⟨b7,A7,c7,rfl,hR7,_⟩:=HK.out.app hA;have HR7:=hid hR7;clear hR7 hA HV7;go_wp2_with fail;go_roundw
       case rel=>exact ⟨j+1,M+(vint df).length,b7,A7,c7,by omega,by go_num,by rw [HNx.out],rfl,by omega,hid (HR7.out.cast (by rw [HTj.out,List.append_assoc]) rfl)⟩
       case measure=>simp [intOf];omega
      ·obtain rfl:j=ns.length:=by omega
       have hR7:=HK.out;rw [← difs_len ns,List.take_length,← HXs.out] at hR7;have HR7:=hid hR7;clear hR7 HK;go_wp2_with fail;go_roundw
       case rel=>exact ⟨k+1,M,bk,Ak,ck,by omega,by go_num,rfl,by omega,HR7⟩
       case measure=>simp [intOf];omega
  ·obtain rfl:k=l.length:=by omega
   have hR:=HK.out;rw [List.take_of_length_le (by simp),← HE.out] at hR;have hl:=hR.len;have HR9:=hid hR;clear hR;go_wp2;go_ret2;subst hl;exact RI.newBE HR9.out
end
section
open Go Go.RowKit Go.Lib Go.Sort Go.Shelf
theorem RI.two {w W w1 w2:World} {K:List Nat} {b b' n c c':Nat} {A A':Option Addr} {xs news:List Nat} (h:RI w W K b A n c xs) (hN:Nw W w1) (h1:Ow w2 b' 5 1 A' (n+news.length) c' (cN .u8 xs++cN .u8 news)) (h2:b'=b∨w1.heap.size≤b') (h3:Kp b b w1 w2) (h4:A=none→Nw w1 w2∧(w1.heap.size≤b'∨A'=none)) :
  ∃ b'',RI w w2 K b'' A' (n+news.length) c' (xs++news):=by
 obtain ⟨b2,A2,c2,he,hR,_⟩:=h.app (AppB.of_two hN h1 h2 h3 h4);simp only [Ending.returned.injEq,Value.slice.injEq] at he;obtain ⟨rfl,_,rfl⟩:=he;exact ⟨b2,hR⟩
theorem RI.ofNewB {w w':World} {l:List Nat} {e:Ending} (h:NewB w l e w'):∃ b A c,e=.returned (.slice A l.length c)∧RI w w' [] b A l.length c l:=by
 obtain ⟨b,A,c,he,hO,hb,hN⟩:=h;exact ⟨b,A,c,he,hO,.inl ⟨hb,by simp⟩,hN,by simp⟩
set_option maxRecDepth 100000 in
set_option maxHeartbeats 4000000 in
theorem RPosEncode_any (w:World) (b bt:Nat) (A At:Option Addr) (n c nt ct:Nat) (t:List ByteArray) (l:List GR) (hn:n=l.length) (hm:n≤1000) (hr:Rd w b A (cEnt l)) (hnt:nt=t.length) (hrt:Rd w bt At (cT t)) (ht:TblOk t) (hI:∀ s∈l,InEnt w s) (hok:∀ s∈l,EntOk t (keyG s)) :
  Calls Tryz.prog 42 #[.slice At nt ct,.slice A n c] w (NewBE w (posEnc t (l.map keyG))):=by
 subst hn hnt;have HR:=hid hr;have HRT:=hid hrt;have HT:=hid ht;have HI:=hid hI;have HOK:=hid hok;have htl:t.length≤1000:=ht.1;have hVl:=vint_len l.length (by omega);have HVA:=hid fun W=>REncode2_any l.length W l.length (Nat.le_refl _) (by omega)
 have HE:=hid (show posEnc t (l.map keyG)=vint l.length++(l.map keyG).flatMap (entEnc t) from by unfold posEnc;rw [List.length_map]);obtain ⟨V,hV⟩:∃ V,vint l.length=V:=⟨_,rfl⟩;rw [hV] at hVl HE;simp only [hV] at HVA;have u0:IntKind.u64.wrap (l.length:Int)=(l.length:Int):=IntWalk.u64_in _ (by omega);clear hr hrt ht hI hok hV;go_enter Tryz.func42,Tryz.ntmps42
 go_wp2_with fail;refine (HVA.out w).mono ?_;rintro e w1 hA;obtain ⟨b1,A1,c1,rfl,hRI⟩:=RI.ofNewB hA;have HRI:=hid hRI;have hv0:V.length≤10+10050*0:=by omega
 clear hRI hA HVA u0;go_wp2_with fail;go_loopw [6,7] (fun v i wr=>∃ (k M bk:Nat) (Ak:Option Addr) (ck:Nat),k≤l.length∧i=.int .i64 k∧v=.slice Ak M ck∧M≤10+10050*k∧Hid (RI w wr [] bk Ak M ck (V++((l.map keyG).take k).flatMap (entEnc t)))) (fun _ i _=>l.length - (intOf i).toNat)
 case atStart=>exact ⟨0,V.length,b1,A1,c1,by omega,rfl,rfl,hv0,by simpa using HRI⟩
 case round =>
  obtain ⟨k,M,bk,Ak,ck,hk,rfl,rfl,hM,HK⟩:=hrel;by_cases hlt:k < l.length
  ·have hltI:(k:Int) < (l.length:Int):=by omega
   obtain ⟨o,rfl,hbw,hc0,hc1,hc2⟩:=ent_at HR.out hlt;have HIx:=hid (HI.out l[k] (List.getElem_mem hlt));have HOx:=hid (HOK.out l[k] (List.getElem_mem hlt));have HTk:=hid (show ((l.map keyG).take (k+1)).flatMap (entEnc t)=((l.map keyG).take k).flatMap (entEnc t)++entEnc t (keyG l[k]) from by rw [flat_snoc _ (by simpa using hlt),List.getElem_map]);generalize l[k]=x at *;obtain ⟨⟨a,d⟩,ns,xb,xA,xc⟩:=x;dsimp only at hc0 hc1 hc2;have HC:=hid fun W (h:Nw w W)=>And.intro (cell_old (a:=⟨b,o+k*3,none⟩) h hbw hc0) (And.intro (cell_old (a:=⟨b,o+k*3+1,none⟩) h hbw hc1) (cell_old (a:=⟨b,o+k*3+2,none⟩) h hbw hc2))
   have hcl:ns.length≤1000:=HOx.out.2.2.1;have HXs:=hid (show V++((l.map keyG).take (k+1)).flatMap (entEnc t)=(V++((l.map keyG).take k).flatMap (entEnc t))++vint (idxS t a)++vint (idxS t d)++vint ns.length++(difs ns).flatMap vint from by rw [HTk.out];unfold entEnc;simp [List.append_assoc]);obtain ⟨X0,hX0⟩:∃ X,V++((l.map keyG).take k).flatMap (entEnc t)=X:=⟨_,rfl⟩;rw [hX0] at HXs HK;have HI1:=hid (RIndex_any wr bt At t.length ct t a rfl (HRT.out.nw HK.out.nw) HT.out HOx.out.1);have HI2:=hid (RIndex_any wr bt At t.length ct t d rfl (HRT.out.nw HK.out.nw) HT.out HOx.out.2.1);have hi1:=idxS_lt HOx.out.1;have hi2:=idxS_lt HOx.out.2.1;dsimp only at hi1 hi2;generalize idxS t a=p1 at *;generalize idxS t d=p2 at *;have l1:=vint_len p1 (by omega);have l2:=vint_len p2 (by omega);have l3:=vint_len ns.length (by omega);have HE1:=hid fun W=>REncode2_any p1 W p1 (Nat.le_refl _) (by omega)
   have HE2:=hid fun W=>REncode2_any p2 W p2 (Nat.le_refl _) (by omega)
   have HE3:=hid fun W=>REncode2_any ns.length W ns.length (Nat.le_refl _) (by omega)
   have d1:decide ((p1:Int) < 0)=false:=by rw [decide_eq_false_iff_not];omega
   have d2:decide ((p2:Int) < 0)=false:=by rw [decide_eq_false_iff_not];omega
   have u1:IntKind.u64.wrap (p1:Int)=(p1:Int):=IntWalk.u64_in _ (by omega);have u2:IntKind.u64.wrap (p2:Int)=(p2:Int):=IntWalk.u64_in _ (by omega);have u3:IntKind.u64.wrap (ns.length:Int)=(ns.length:Int):=IntWalk.u64_in _ (by omega);generalize vint p1=V1 at *;generalize vint p2=V2 at *;generalize vint ns.length=V3 at *;obtain ⟨q0,q1,q2⟩:=HC.out wr HK.out.nw;clear HTk hX0 hc0 hc1 hc2;go_wp2_with fail;refine HI1.out.mono ?_;rintro e wz ⟨rfl,hw⟩;subst hw;go_wp2_with fail;refine HI2.out.mono ?_;rintro e wz ⟨rfl,hw⟩;subst hw;go_wp2_with fail;refine (HE1.out _).mono ?_;rintro e wA ⟨bA,AA,cA,rfl,hOA,hbA,hNA⟩;have hnil:=hOA.nilc;have HRA:=hid hOA.rd;have HNA:=hid hNA;have HOw:=hid (HK.out.ow.nw hNA);clear hOA hbA hNA;go_wp2_with (at_builtin;refine wpList_app E_u8 rfl (.tmp 44) (.tmp 47) rfl rfl HOw.out rfl HRA.out (by rw [List.length_map,Nat.mul_one]) hnil (u8_lit _) (by simp only [maxLen];omega) (by omega) ?_;intro b3 A3 c3 w3 r1 r2 r3 r4;obtain ⟨bS1,hS1⟩:=HK.out.two HNA.out r1 r2 r3 r4;have S1:=hid hS1;clear r1 r2 r3 r4 hS1 HRA HOw hnil HNA HE1 q0 q1 q2;obtain ⟨q0,q1,q2⟩:=HC.out w3 S1.out.nw)
   refine (HE2.out _).mono ?_;rintro e wA ⟨bA,AA,cA,rfl,hOA,hbA,hNA⟩;have hnil:=hOA.nilc;have HRA:=hid hOA.rd;have HNA:=hid hNA;have HOw:=hid (S1.out.ow.nw hNA);clear hOA hbA hNA;go_wp2_with (at_builtin;refine wpList_app E_u8 rfl (.tmp 49) (.tmp 52) rfl rfl HOw.out rfl HRA.out (by rw [List.length_map,Nat.mul_one]) hnil (u8_lit _) (by simp only [maxLen];omega) (by omega) ?_;intro b3 A3 c3 w3 r1 r2 r3 r4;obtain ⟨bS2,hS2⟩:=S1.out.two HNA.out r1 r2 r3 r4;have S2:=hid hS2;clear r1 r2 r3 r4 hS2 HRA HOw hnil HNA HE2 q0 q1 q2;obtain ⟨q0,q1,q2⟩:=HC.out w3 S2.out.nw)
   refine (HE3.out _).mono ?_;rintro e wA ⟨bA,AA,cA,rfl,hOA,hbA,hNA⟩;have hnil:=hOA.nilc;have HRA:=hid hOA.rd;have HNA:=hid hNA;have HOw:=hid (S2.out.ow.nw hNA);clear hOA hbA hNA;go_wp2_with (at_builtin;refine wpList_app E_u8 rfl (.tmp 54) (.tmp 62) rfl rfl HOw.out rfl HRA.out (by rw [List.length_map,Nat.mul_one]) hnil (u8_lit _) (by simp only [maxLen];omega) (by omega) ?_;intro b3 A3 c3 w3 r1 r2 r3 r4;obtain ⟨bS3,hS3⟩:=S2.out.two HNA.out r1 r2 r3 r4;have S3:=hid hS3;clear r1 r2 r3 r4 hS3 HRA HOw hnil HNA HE3 q0 q1 q2;obtain ⟨q0,q1,q2⟩:=HC.out w3 S3.out.nw)
   have HCK:Hid (Rd w xb xA (cN .i64 ns)):=hid HIx.out;have HCL:=hid HOx.out.2.2.2;dsimp only at HCL;have hv6:M+V1.length+V2.length+V3.length≤50+10050*k+10*0:=by omega
   generalize M+V1.length+V2.length+V3.length=M6 at *;obtain ⟨X6,hX6⟩:∃ X,X0++V1++V2++V3=X:=⟨_,rfl⟩;rw [hX6] at S3 HXs;clear hX6 q0 q1 q2 hM;go_loopw [6,10,11] (fun v p i wr=>∃ (j M bk:Nat) (Ak:Option Addr) (ck:Nat),∃ hj:j≤ns.length,i=.int .i64 j∧p=.int .i64 ((0::ns)[j]'(by simp;omega):Nat)∧v=.slice Ak M ck∧M≤50+10050*k+10*j∧Hid (RI w wr [] bk Ak M ck (X6++((difs ns).take j).flatMap vint))) (fun _ _ i _=>ns.length - (intOf i).toNat)
   case atStart=>exact ⟨0,M6,_,_,_,by omega,rfl,rfl,rfl,hv6,by simpa using S3⟩
   case round =>
    clear hv6;obtain ⟨j,M,bk,Ak,ck,hj,rfl,rfl,rfl,hM,HK⟩:=hrel;obtain ⟨q0,q1,q2⟩:=HC.out wr HK.out.nw;by_cases hjt:j < ns.length
    ·have hltJ:(j:Int) < (ns.length:Int):=by omega
     obtain ⟨o3,rfl,hxw,hc⟩:=(HCK.out).get (k:=j) (by simpa using hjt);rw [List.getElem_map] at hc;have hx:=HCL.out.2 ns[j] (List.getElem_mem hjt);have hll:=last_le HCL.out.1 hjt;have HTj:=hid (show ((difs ns).take (j+1)).flatMap vint=((difs ns).take j).flatMap vint++vint (ns[j] - (0::ns)[j]'(by simp;omega)) from by rw [flat_snoc vint (l:=difs ns) (k:=j) (by rw [difs_len];exact hjt),difs_get ns j hjt]);have HNx:=hid (show (0::ns)[j+1]'(by simp;omega)=ns[j] from List.getElem_cons_succ ..);generalize (0::ns)[j]'(by simp;omega)=p at *;generalize ns[j]=q at *;have HCC:=hid fun W (h:Nw w W)=>cell_old (a:=⟨xb,o3+j,none⟩) h hxw hc
     have hvl:=vint_len (q - p) (by omega);have HV7:=hid fun W=>REncode2_any (q - p) W (q - p) (Nat.le_refl _) (by omega)
     have hsb:(q:Int) - (p:Int)=((q - p:Nat):Int):=by omega
     have i3:IntKind.i64.wrap ((q:Int) - (p:Int))=((q - p:Nat):Int):=by rw [hsb];exact IntWalk.i64_in _ (by omega)
     generalize q - p=df at *;have u4:IntKind.u64.wrap (df:Int)=(df:Int):=IntWalk.u64_in _ (by omega);generalize vint df=VD at *;have q4:=HCC.out wr HK.out.nw;clear hsb hc;go_wp2_with fail;refine (HV7.out _).mono ?_;rintro e wA ⟨bA,AA,cA,rfl,hOA,hbA,hNA⟩;have hnil:=hOA.nilc;have HRA:=hid hOA.rd;have HNA:=hid hNA;have HOw:=hid (HK.out.ow.nw hNA);clear hOA hbA hNA;go_wp2_with (at_builtin;refine wpList_app E_u8 rfl (.tmp 74) (.tmp 86) rfl rfl HOw.out rfl HRA.out (by rw [List.length_map,Nat.mul_one]) hnil (u8_lit _) (by simp only [maxLen];omega) (by omega) ?_;intro b3 A3 c3 w3 r1 r2 r3 r4;obtain ⟨bS7,hS7⟩:=HK.out.two HNA.out r1 r2 r3 r4;have S7:=hid hS7;clear r1 r2 r3 r4 hS7 HRA HOw hnil HNA HV7 q0 q1 q2 q4;obtain ⟨q0,q1,q2⟩:=HC.out w3 S7.out.nw;have q4:=HCC.out w3 S7.out.nw)
     go_roundw
     case rel=>exact ⟨j+1,M+VD.length,_,_,_,by omega,by go_num,by rw [HNx.out],rfl,by omega,hid (S7.out.cast (by rw [HTj.out,List.append_assoc]) rfl)⟩
     case measure=>simp [intOf];omega
    ·obtain rfl:j=ns.length:=by omega
     have hR7:=HK.out;rw [← difs_len ns,List.take_length,← HXs.out] at hR7;have HR7:=hid hR7;clear hR7 HK;go_wp2_with fail;go_roundw
     case rel=>exact ⟨k+1,M,bk,Ak,ck,by omega,by go_num,rfl,by omega,HR7⟩
     case measure=>simp [intOf];omega
  ·obtain rfl:k=l.length:=by omega
   have hR:=HK.out;rw [List.take_of_length_le (by simp),← HE.out] at hR;have hl:=hR.len;have HR9:=hid hR;clear hR;go_wp2;go_ret2;subst hl;exact RI.newBE HR9.out
end
section
open Go Go.RowKit Go.Lib Go.Sort Go.Shelf
set_option maxRecDepth 100000 in
theorem Has_any (w:World) (b:Nat) (A:Option Addr) (n c x:Nat) (l:List Nat) (hn:n=l.length) (hm:n≤1000) (hr:Rd w b A (cN .i64 l)) (hx:∀ y∈l,y < x) :
  Calls Tryz.prog 180 #[.slice A n c,.int .i64 (x:Int)] w fun e w'=>e=.returned (.bool false)∧w=w':=by
 subst hn;have HR:=hid hr;have HX:=hid hx;clear hr hx;go_enter Tryz.func180,Tryz.ntmps180
 go_wp2
 go_loop [5] (fun i=>∃ k:Nat,k≤l.length∧i=.int .i64 k) (fun i=>l.length - (intOf i).toNat)
 case atStart=>exact ⟨0,by omega,rfl⟩
 case round =>
  obtain ⟨k,hk,rfl⟩:=hrel;by_cases hlt:k < l.length
  ·have hltI:(k:Int) < (l.length:Int):=by omega
   obtain ⟨o,rfl,_,hc⟩:=HR.out.get (k:=k) (by simpa using hlt);rw [List.getElem_map] at hc;have hlx:=HX.out l[k] (List.getElem_mem hlt);generalize l[k]=y at *;have hne:((y:Int) == (x:Int))=false:=by rw [beq_eq_false_iff_ne];omega
   have hne2:¬ y=x:=by omega
   go_wp2
   go_round
   case rel=>exact ⟨k+1,by omega,by go_num⟩
   case measure=>simp [intOf];omega
  ·obtain rfl:k=l.length:=by omega
   go_wp2;go_ret;exact ⟨rfl,rfl⟩
set_option maxRecDepth 100000 in
set_option maxHeartbeats 1000000 in
theorem Insert_any (w:World) (b:Nat) (A:Option Addr) (n c x:Nat) (l:List Nat) (hn:n=l.length) (hm:n≤1000) (hr:Rd w b A (cN .i64 l)) (hnc:n≤c) (hA:A=none→c=0) (hx:∀ y∈l,y < x) :
  Calls Tryz.prog 136 #[.slice A n c,.int .i64 (x:Int)] w fun e w'=>∃ b' A' c',e=.returned (.slice A' (n+1) c')∧Ow w' b' 3 1 A' (n+1) c' (cN .i64 (l++[x]))∧w.heap.size≤b'∧Nw w w':=by
 have HH:=hid (Has_any w b A n c x l hn hm hr hx);subst hn;have HR:=hid hr;have HX:=hid hx;have HA:=hid hA;clear hr hx hA;go_enter Tryz.func136,Tryz.ntmps136
 go_wp2_with fail;refine HH.out.mono ?_;rintro e wz ⟨rfl,hw⟩;subst hw;go_wp2_with fail;go_loopw [5,6] (fun v i wr=>∃ (k bk:Nat) (Ak:Option Addr) (ck:Nat),k≤l.length∧i=.int .i64 k∧v=.slice Ak k ck∧Hid (Ow wr bk 3 1 Ak k ck (cN .i64 (l.take k)))∧Hid (w.heap.size≤bk)∧Hid (Nw w wr)) (fun _ i _=>l.length - (intOf i).toNat)
 case atStart=>exact ⟨0,w.heap.size,none,0,by omega,rfl,rfl,hid (Ow.nil _ _ _ _),hid (Nat.le_refl _),hid (Nw.refl _)⟩
 case round =>
  obtain ⟨k,bk,Ak,ck,hk,rfl,rfl,HO,HB,HN⟩:=hrel;by_cases hlt:k < l.length
  ·have hltI:(k:Int) < (l.length:Int):=by omega
   obtain ⟨o,rfl,_,hc⟩:=(HR.out.nw HN.out).get (k:=k) (by simpa using hlt);rw [List.getElem_map] at hc;have hlx:=HX.out l[k] (List.getElem_mem hlt);have HT:=hid (show cN .i64 (l.take (k+1))=cN .i64 (l.take k)++[.int .i64 (l[k]:Nat)] from by rw [List.take_succ_eq_append_getElem hlt];unfold cN;rw [List.map_append];rfl);generalize l[k]=y at *;have hlI:(y:Int) < (x:Int):=by omega
   go_wp2_with (at_builtin;refine wpList_app1 E_int rfl (.tmp 26) (.tmp 31) rfl rfl HO.out rfl rfl (by omega) (by omega) ?_;intro b3 A3 c3 w3 q1 q2 q3 q4;have Q1:=hid q1;have Q2:=hid q2;have Q3:=hid q3;clear q1 q2 q3 q4)
   go_roundw
   case rel =>
    refine ⟨k+1,b3,A3,c3,by omega,by go_num,rfl,by rw [HT.out];exact Q1,hid ?_,hid (Kp.nw HN.out Q3.out HB.out HB.out)⟩;rcases Q2.out with h | h
    ·rw [h];exact HB.out
    ·have:=HN.out.size;omega
   case measure=>simp [intOf];omega
  ·obtain rfl:k=l.length:=by omega
   have hO:=HO.out;rw [List.take_length] at hO;have HO2:=hid hO;have HNL:=hid (show (if c=l.length then A else Option.map (fun x=>x.add l.length) A)=none→c - l.length=0 from by
    intro h;by_cases e:c=l.length
    ·omega
    ·rw [if_neg e] at h;have:=HA.out (by simpa using h);omega)
   clear hO HO;go_wp2_with (first
    | (at_builtin;refine wpList_app1 E_int rfl (.tmp 35) (.tmp 37) rfl rfl HO2.out rfl rfl (by omega) (by omega) ?_;intro b3 A3 c3 w3 q1 q2 q3 q4;have Q1:=hid q1;have Q2:=hid q2;have Q3:=hid q3;clear q1 q2 q3 q4)
    | (at_builtin;refine wpList_app E_int rfl (.tmp 39) (.tmp 42) rfl rfl Q1.out rfl (Rd.nil w3 0 _) rfl HNL.out (by simp) (by simp only [maxLen];omega) (by omega) ?_;intro b5 A5 c5 w5 r1 r2 r3 r4;have R1:=hid r1;have R2:=hid r2;have R3:=hid r3;clear r1 r2 r3 r4)
    | fail)
   all_goals
    go_ret;have hb3:w.heap.size≤b3:=by
     rcases Q2.out with h | h
     ·rw [h];exact HB.out
     ·have:=HN.out.size;omega
    have hN3:Nw w w3:=Kp.nw HN.out Q3.out HB.out HB.out;refine ⟨b5,A5,c5,rfl,?_,?_,Kp.nw hN3 R3.out hb3 hb3⟩
    ·have h:=R1.out;rw [List.append_nil] at h;exact h
    ·rcases R2.out with h | h
     ·omega
     ·have:=hN3.size;omega
set_option maxRecDepth 100000 in
set_option maxHeartbeats 1000000 in
theorem RPcmp_any (w:World) (x y:Lab) :
  Calls Tryz.prog 135 #[.agg #[.string x.1,.string x.2],.agg #[.string y.1,.string y.2]] w fun e w'=>e=.returned (.int .i64 (cmpL x y))∧Gr w w':=by
 obtain ⟨a,b⟩:=x;obtain ⟨c,d⟩:=y;have HC:=hid (show cmpLs [(a,b)] [(c,d)]=cmpL (a,b) (c,d) from by
  show (if cmpL (a,b) (c,d)≠0 then cmpL (a,b) (c,d) else cmpLs [] [])=_
  split
  ·rfl
  ·rename_i h
   have h0:cmpL (a,b) (c,d)=0:=by omega
   rw [h0];rfl)
 obtain ⟨w4,hw4⟩:∃ w4,w4=(((w.alloc (.cells #[.string a,.string b] 124)).alloc (.cells #[.string c,.string d] 124)).alloc (.cells #[.string a,.string b] 124)).alloc (.cells #[.string c,.string d] 124):=⟨_,rfl⟩;have hG:Gr w w4:=by rw [hw4];exact ((((Gr.refl w).alloc' _).alloc' _).alloc' _).alloc' _
 have h3:w4.heap[w.heap.size+3]? = some (.cells #[.string c,.string d] 124 (0,0)):=by
  rw [hw4];simpa using heap_alloc_new (((w.alloc (.cells #[.string a,.string b] 124)).alloc (.cells #[.string c,.string d] 124)).alloc (.cells #[.string a,.string b] 124)) (.cells #[.string c,.string d] 124)
 have h2:w4.heap[w.heap.size+2]? = some (.cells #[.string a,.string b] 124 (0,0)):=by
  rw [hw4,heap_alloc_old _ _ (by simp)];simpa using heap_alloc_new ((w.alloc (.cells #[.string a,.string b] 124)).alloc (.cells #[.string c,.string d] 124)) (.cells #[.string a,.string b] 124)
 have hr1:Rd w4 (w.heap.size+2) (some ⟨w.heap.size+2,0,none⟩) (cL [(a,b)]):=.inr ⟨0,rfl,lt_of_block h2,fun j u hu=>by rw [Nat.zero_add,cell_at h2];simpa [cL,c2] using hu⟩;have hr2:Rd w4 (w.heap.size+3) (some ⟨w.heap.size+3,0,none⟩) (cL [(c,d)]):=.inr ⟨0,rfl,lt_of_block h3,fun j u hu=>by rw [Nat.zero_add,cell_at h3];simpa [cL,c2] using hu⟩;have HM:=hid (RCompareL_any w4 _ _ _ _ 1 1 1 1 [(a,b)] [(c,d)] rfl rfl (by omega) (by omega) hr1 hr2);rw [HC.out] at HM;have HG:=hid hG;dsimp only;generalize cmpL (a,b) (c,d)=C at *;clear hr1 hr2 h2 h3 hG HC;go_enter Tryz.func135,Tryz.ntmps135
 go_wp2_with fail;rw [← hw4];clear hw4;refine HM.out.mono ?_;rintro e w5 ⟨rfl,hD⟩;have HD:=hid (HG.out.trans (Gr.of_dr hD));clear hD;go_wp2;go_ret;exact ⟨rfl,HD.out⟩
end
section
open Go Go.RowKit Go.Lib Go.Sort Go.Shelf
def insK (x:Lab) (i:Nat):List EntV→List EntV
 | []=>[(x,[i])]
 | p::E=>if cmpL p.1 x = -1 then p::insK x i E else if cmpL p.1 x=0 then (x,p.2++[i])::E else (x,[i])::p::E
theorem insK_app {x:Lab} {i:Nat}:∀ {P S:List EntV},(∀ p∈P,cmpL p.1 x = -1)→insK x i (P++S)=P++insK x i S
 | [],_,_=>rfl
 | p::P,S,h=>by
  rw [List.cons_append,insK,if_pos (h p List.mem_cons_self),insK_app (fun q hq=>h q (List.mem_cons_of_mem _ hq))];rfl
theorem insK_mem {x:Lab} {i:Nat}:∀ {E:List EntV} {y:Lab},y∈(insK x i E).map (·.1)↔y=x∨y∈E.map (·.1)
 | [],y=>by simp [insK]
 | p::E,y=>by
  rw [insK];split
  ·rw [List.map_cons,List.mem_cons,insK_mem,List.map_cons,List.mem_cons];constructor
   ·rintro (h | h | h)
    ·exact .inr (.inl h)
    ·exact .inl h
    ·exact .inr (.inr h)
   ·rintro (h | h | h)
    ·exact .inr (.inl h)
    ·exact .inl h
    ·exact .inr (.inr h)
  ·split
   ·rename_i h
    have hp:=(cmp3_L.zero _ _).1 h;simp only [List.map_cons,List.mem_cons,hp];constructor
    ·rintro (h | h)
     ·exact .inl h
     ·exact .inr (.inr h)
    ·rintro (h | h | h)
     ·exact .inl h
     ·exact .inl h
     ·exact .inr h
   ·simp only [List.map_cons,List.mem_cons]
theorem insK_asc {x:Lab} {i:Nat}:∀ {E:List EntV},(E.map (·.1)).Pairwise (fun a b=>cmpL a b = -1)→((insK x i E).map (·.1)).Pairwise fun a b=>cmpL a b = -1
 | [],_=>by simp [insK]
 | p::E,h=>by
  rw [List.map_cons,List.pairwise_cons] at h;rw [insK];split
  ·rename_i hp
   rw [List.map_cons,List.pairwise_cons];refine ⟨fun y hy=>?_,insK_asc h.2⟩;rcases insK_mem.1 hy with rfl | hy
   ·exact hp
   ·exact h.1 y hy
  ·split
   ·rename_i h0
    have hp:=(cmp3_L.zero _ _).1 h0;rw [List.map_cons,List.pairwise_cons];exact ⟨fun y hy=>by rw [← hp];exact h.1 y hy,h.2⟩
   ·rename_i h1 h0
    have hxp:cmpL x p.1 = -1:=by
     have:=cmp3_L.swap p.1 x;rcases cmp3_L.inn p.1 x with e | e | e
     ·exact (h1 e).elim
     ·exact (h0 e).elim
     ·omega
    rw [List.map_cons,List.map_cons,List.pairwise_cons];refine ⟨fun y hy=>?_,List.pairwise_cons.2 h⟩;rcases List.mem_cons.1 hy with rfl | hy
    ·exact hxp
    ·exact cmp3_L.trans _ _ _ hxp (h.1 y hy)
theorem insK_nums {x:Lab} {i:Nat} {f:Lab→List Nat}:∀ {E:List EntV},(E.map (·.1)).Pairwise (fun a b=>cmpL a b = -1)→(∀ p∈E,p.2=f p.1)→(x ∉ E.map (·.1)→f x=[]) →
  ∀ p∈insK x i E,(p.1=x∧p.2=f x++[i])∨(p.1≠x∧p.2=f p.1)
 | [],_,_,hx,p,hp=>by
  simp only [insK,List.mem_singleton] at hp;subst hp;exact .inl ⟨rfl,by rw [hx (by simp)];rfl⟩
 | q::E,ha,hn,hx,p,hp=>by
  rw [List.map_cons,List.pairwise_cons] at ha;rw [insK] at hp;have hne:∀ r∈E,cmpL q.1 r.1 = -1:=fun r hr=>ha.1 _ (List.mem_map_of_mem hr)
  have ne_of:∀ {a b:Lab},cmpL a b = -1→a≠b:=fun {a b} h e=>by
   rw [e,(cmp3_L.zero _ _).2 rfl] at h;omega
  split at hp
  ·rename_i h1
   rcases List.mem_cons.1 hp with rfl | hp
   ·exact .inr ⟨ne_of h1,hn _ List.mem_cons_self⟩
   ·exact insK_nums ha.2 (fun r hr=>hn r (List.mem_cons_of_mem _ hr)) (fun h=>hx (by
     rw [List.map_cons,List.mem_cons];rintro (e | e)
     ·exact ne_of h1 e.symm
     ·exact h e)) p hp
  ·split at hp
   ·rename_i h0
    have hq:=(cmp3_L.zero _ _).1 h0;rcases List.mem_cons.1 hp with rfl | hp
    ·exact .inl ⟨rfl,by rw [hn q List.mem_cons_self,hq]⟩
    ·refine .inr ⟨fun e=>?_,hn p (List.mem_cons_of_mem _ hp)⟩;exact ne_of (hne p hp) (by rw [hq,e])
   ·rename_i h1 h0
    have hxq:cmpL x q.1 = -1:=by
     have:=cmp3_L.swap q.1 x;rcases cmp3_L.inn q.1 x with e | e | e
     ·exact (h1 e).elim
     ·exact (h0 e).elim
     ·omega
    have hall:∀ r∈q::E,cmpL x r.1 = -1:=fun r hr=>by
     rcases List.mem_cons.1 hr with rfl | hr
     ·exact hxq
     ·exact cmp3_L.trans _ _ _ hxq (hne r hr)
    rcases List.mem_cons.1 hp with rfl | hp
    ·refine .inl ⟨rfl,?_⟩;rw [hx (fun h=>?_)]
     ·rfl
     ·obtain ⟨r,hr,he⟩:=List.mem_map.1 h;exact ne_of (hall r hr) he.symm
    ·exact .inr ⟨fun e=>ne_of (hall p hp) e.symm,hn p hp⟩
theorem IsIdx.nil:IsIdx [] []:=⟨List.Pairwise.nil,by simp,by simp⟩
theorem IsIdx.ins {done:List (Lab × Nat)} {E:List EntV} (h:IsIdx done E) (x:Lab) (i:Nat):IsIdx (done++[(x,i)]) (insK x i E):=by
 refine ⟨insK_asc h.asc,fun y=>?_,fun p hp=>?_⟩
 ·rw [insK_mem,h.mem];simp only [List.mem_append,List.mem_singleton,Prod.mk.injEq];constructor
  ·rintro (rfl | ⟨k,hk⟩)
   ·exact ⟨i,.inr ⟨rfl,rfl⟩⟩
   ·exact ⟨k,.inl hk⟩
  ·rintro ⟨k,hk | ⟨rfl,_⟩⟩
   ·exact .inr ⟨k,hk⟩
   ·exact .inl rfl
 ·rcases insK_nums (i:=i) (f:=numsOf done) h.asc h.nums (fun hx=>numsOf_none (fun k hk=>hx ((h.mem x).2 ⟨k,hk⟩))) p hp with ⟨h1,h2⟩ | ⟨h1,h2⟩
  ·rw [h1,numsOf_snoc_same];exact h2
  ·rw [numsOf_snoc_other (fun e=>h1 e.symm)];exact h2
theorem asc_one:∀ {a b:List Lab},a.Pairwise (fun x y=>cmpL x y = -1)→b.Pairwise (fun x y=>cmpL x y = -1)→(∀ x,x∈a↔x∈b)→a=b
 | [],[],_,_,_=>rfl
 | [],y::b,_,_,h=>by have:=(h y).2 List.mem_cons_self;cases this
 | x::a,[],_,_,h=>by have:=(h x).1 List.mem_cons_self;cases this
 | x::a,y::b,ha,hb,h=>by
  rw [List.pairwise_cons] at ha hb;have irr:∀ z:Lab,¬ cmpL z z = -1:=fun z e=>by rw [(cmp3_L.zero _ _).2 rfl] at e;omega
  have hxy:x=y:=by
   rcases List.mem_cons.1 ((h x).1 List.mem_cons_self) with e | e
   ·exact e
   ·rcases List.mem_cons.1 ((h y).2 List.mem_cons_self) with e2 | e2
    ·exact e2.symm
    ·exact (irr _ (cmp3_L.trans _ _ _ (ha.1 _ e2) (hb.1 _ e))).elim
  subst hxy;rw [asc_one ha.2 hb.2 (fun z=>?_)];have hz:=h z;rw [List.mem_cons,List.mem_cons] at hz;constructor
  ·intro hza;rcases hz.1 (.inr hza) with rfl | h2
   ·exact (irr _ (ha.1 _ hza)).elim
   ·exact h2
  ·intro hzb;rcases hz.2 (.inr hzb) with rfl | h2
   ·exact (irr _ (hb.1 _ hzb)).elim
   ·exact h2
theorem IsIdx.one {done:List (Lab × Nat)} {E F:List EntV} (h:IsIdx done E) (k:IsIdx done F):E=F:=by
 have hk:E.map (·.1)=F.map (·.1):=asc_one h.asc k.asc (fun x=>by rw [h.mem,k.mem]);have hl:E.length=F.length:=by have:=congrArg List.length hk;simpa using this
 apply List.ext_getElem hl
 intro j h1 h2;have e:E[j].1=F[j].1:=by
  have:(E.map (·.1))[j]'(by simpa using h1)=(F.map (·.1))[j]'(by simpa using h2):=by simp only [hk]
  simpa using this
 exact Prod.ext e (by rw [h.nums _ (List.getElem_mem h1),k.nums _ (List.getElem_mem h2),e])
end
section
open Go Go.RowKit Go.Sort
abbrev BVal:=List Lab × List Smpl
def chunkB (zs:List Smpl):List Nat:=pk (cbits (tsOf zs) (vsOf zs))
def cutL (zs:List Smpl) (p:Nat × Nat):List Smpl:=(zs.drop p.1).take p.2
def partsL (zs:List Smpl):List (List Smpl):=(parts zs.length 0).map (cutL zs)
def chunksL (zs:List Smpl):List (List Nat):=(partsL zs).map chunkB
def lensL (zs:List Smpl):List Nat:=(chunksL zs).map List.length
def recV (s:BVal):RecV:=(s.1,lensL s.2)
def datS (b:List BVal):List Nat:=b.flatMap fun s=>(chunksL s.2).flatten
def symT (l:List Lab):List ByteArray:=(tbl (strsOf l)).map fun x=>⟨x.toArray⟩
def labsV (b:List BVal):List Lab:=b.flatMap (·.1)
def idxOf (done:List (Lab × Nat)):List EntV:=done.foldl (fun E p=>insK p.1 p.2 E) []
def setsV (b:List BVal):List (List Lab):=b.map (·.1)
def posV (b:List BVal):List EntV:=idxOf (doneOf (setsV b))
theorem parts_at (n:Nat):∀ (f i:Nat),n - i≤f→∀ k (h:k < (parts n i).length),(parts n i)[k]=(i+120*k,min 120 (n - (i+120*k))):=by
 intro f;induction f with
 | zero=>intro i h k hk;simp [parts_ge (show n≤i by omega)] at hk
 | succ f ih =>
  intro i h k hk;by_cases hi:i < n
  ·have e:=parts_lt hi;cases k with
   | zero=>simp [e]
   | succ k =>
    have hk':k < (parts n (i+120)).length:=by simp [e] at hk;exact hk
    have:=ih (i+120) (by omega) k hk';simp only [e,List.getElem_cons_succ,this,show i+120+120*k=i+120*(k+1) by omega]
  ·simp [parts_ge (show n≤i by omega)] at hk
theorem partsL_len (zs:List Smpl):(partsL zs).length=(zs.length+119) / 120:=by
 unfold partsL;rw [List.length_map,parts_length zs.length zs.length 0 (by omega)];rfl
theorem partsL_get (zs:List Smpl) (k:Nat) (h:k < (partsL zs).length):(partsL zs)[k]=(zs.drop (120*k)).take (min 120 (zs.length - 120*k)):=by
 have hk:k < (parts zs.length 0).length:=by unfold partsL at h;simpa using h
 have:=parts_at zs.length zs.length 0 (by omega) k hk;have e:(partsL zs)[k]=cutL zs ((parts zs.length 0)[k]):=by simp [partsL]
 rw [e,this,cutL];simp only [Nat.zero_add]
theorem partsL_mem {zs x:List Smpl} (h:x∈partsL zs):1≤x.length∧x.length≤120∧∀ z∈x,z∈zs:=by
 obtain ⟨k,hk,rfl⟩:=List.getElem_of_mem h;have hl:=partsL_len zs;rw [partsL_get];rw [hl] at hk;refine ⟨?_,?_,fun z hz=>List.mem_of_mem_drop (List.mem_of_mem_take hz)⟩
 ·rw [List.length_take,List.length_drop];omega
 ·rw [List.length_take];omega
theorem lensL_len (zs:List Smpl):(lensL zs).length=(zs.length+119) / 120:=by
 unfold lensL chunksL;rw [List.length_map,List.length_map,partsL_len]
theorem chunksL_len (zs:List Smpl):(chunksL zs).length=(partsL zs).length:=by unfold chunksL;rw [List.length_map]
theorem chunkB_lt (zs:List Smpl):∀ x∈chunkB zs,x < 256:=pk_lt _
theorem chunkB_len {zs:List Smpl} (h0:1≤zs.length) (h:zs.length≤120) (hI:InS zs):1≤(chunkB zs).length∧(chunkB zs).length≤10000:=by
 have h1:=tput_length_le (tsOf zs);have h2:=vput_small (vsOf zs) (by simpa using h) (fun x hx=>by
  obtain ⟨z,hz,rfl⟩:=List.mem_map.1 hx;exact (hI z hz).2)
 have h3:(cbits (tsOf zs) (vsOf zs)).length=8+(8+((tput (tsOf zs)).length+(vput (tagOf (vsOf zs)) (vsOf zs)).length)):=by
  unfold cbits;simp only [List.length_append,bitsOf_length]
 have h4:(tsOf zs).length=zs.length:=by simp
 unfold chunkB;rw [pk_length];omega
theorem InS.part {zs x:List Smpl} (h:InS zs) (hx:x∈partsL zs):InS x:=fun z hz=>h z ((partsL_mem hx).2.2 z hz)
theorem lensL_ok {zs:List Smpl} (hI:InS zs):∀ n∈lensL zs,1≤n∧n≤10000:=by
 intro n hn;unfold lensL chunksL at hn;rw [List.map_map] at hn;obtain ⟨x,hx,rfl⟩:=List.mem_map.1 hn;have:=partsL_mem hx;exact chunkB_len this.1 this.2.1 (hI.part hx)
theorem symT_bys (l:List Lab):bys (symT l)=tbl (strsOf l):=by
 unfold symT bys;rw [List.map_map];refine (List.map_congr_left fun x _=>?_).trans (List.map_id _);show ByteArray.toList ⟨x.toArray⟩=x
 rw [ByteArray.toList_eq]
theorem symT_cells (l:List Lab):(tbl (strsOf l)).map encStr=cT (symT l):=by rw [← enc_bys,symT_bys]
theorem symT_len (l:List Lab):(tbl (strsOf l)).length=(symT l).length:=by unfold symT;rw [List.length_map]
theorem symT_mem {l:List Lab} {s:ByteArray}:s∈symT l↔s∈strsOf l:=by
 have h:=(tbl_spec (strsOf l)).1;rw [← symT_bys] at h;have inj:∀ (m:List ByteArray),s.toList∈bys m↔s∈m:=fun m=>by
  constructor
  ·intro hm;obtain ⟨x,hx,e⟩:=List.mem_map.1 hm
   rwa [← bytes_ext e]
  ·exact fun hm=>List.mem_map.2 ⟨s,hm,rfl⟩
 rw [← inj,h,inj]
theorem symT_asc (l:List Lab):(symT l).Pairwise LtB:=by
 have h:=(tbl_spec (strsOf l)).2;rw [← symT_bys] at h;unfold bys at h;rw [List.pairwise_map] at h;exact h.imp fun {a b} k=>ltB_iff.2 k
theorem symT_le (l:List Lab):(symT l).length≤2*l.length:=by
 rw [← symT_len,← strsOf_length];have:=compact_le ((bys (strsOf l)).mergeSort fun x y=>decide (x≤y));rw [List.length_mergeSort] at this;unfold tbl;unfold bys at this;rw [List.length_map] at this;exact this
theorem idxOf_snoc (d:List (Lab × Nat)) (p:Lab × Nat):idxOf (d++[p])=insK p.1 p.2 (idxOf d):=by unfold idxOf;rw [List.foldl_append];rfl
theorem idxOf_is:∀ (n:Nat) (done:List (Lab × Nat)),done.length=n→IsIdx done (idxOf done)
 | 0,done,h=>by
  obtain rfl:=List.eq_nil_of_length_eq_zero h;exact IsIdx.nil
 | n+1,done,h=>by
  have hne:done≠[]:=by intro e;subst e;simp at h
  have e:=List.dropLast_concat_getLast hne;rw [← e,idxOf_snoc];exact (idxOf_is n done.dropLast (by simp [h])).ins _ _
theorem idxOf_isIdx (done:List (Lab × Nat)):IsIdx done (idxOf done):=idxOf_is _ done rfl
structure BlkV (b:List BVal):Prop where
 one:∀ s∈b,∀ x∈s.1,oneE x=0
 asc:∀ s∈b,s.1.Pairwise fun x y=>LtB x.1 y.1
 ne:∀ s∈b,s.2≠[]
 tm:∀ s∈b,s.2.Pairwise fun x y=>x.1 < y.1
 srt:b.Pairwise fun x y=>cmpLs x.1 y.1 = -1
 ok:∀ s∈b,InS s.2
structure FewV (b:List BVal):Prop where
 n:b.length≤300
 smp:(b.map fun s=>s.2.length).sum≤3000
 lab:(labsV b).length≤200
theorem oneE_small {x:Lab} (h:oneE x=0):x.1.size≤65535∧x.2.size≤65535∧noName x.1=false:=by
 unfold oneE at h;split at h
 ·omega
 ·rename_i h0
  split at h
  ·omega
  ·refine ⟨by omega,by omega,by simpa using h0⟩
theorem chkF_zero:∀ (l:List Lab) (p:Lab),chkF (some p.1) l=0→(∀ x∈l,oneE x=0)∧(∀ x∈l,LtB p.1 x.1)∧l.Pairwise fun x y=>LtB x.1 y.1
 | [],p,_=>⟨by simp,by simp,List.Pairwise.nil⟩
 | x::l,p,h=>by
  have h':(if oneE x≠0 then oneE x else if cmpS p.1 x.1=0 then 18 else if cmpS p.1 x.1=1 then 16 else chkF (some x.1) l)=0:=h;split at h'
  ·omega
  ·rename_i h0
   split at h'
   ·omega
   ·rename_i h1
    split at h'
    ·omega
    ·rename_i h2
     obtain ⟨a1,a2,a3⟩:=chkF_zero l x h';have hlt:LtB p.1 x.1:=by
      rcases cmpS_in p.1 x.1 with h | h | h
      ·exact cmpS_neg.1 h
      ·exact (h1 h).elim
      ·exact (h2 h).elim
     refine ⟨fun y hy=>?_,fun y hy=>?_,List.pairwise_cons.2 ⟨a2,a3⟩⟩
     ·rcases List.mem_cons.1 hy with rfl | hy
      ·omega
      ·exact a1 y hy
     ·rcases List.mem_cons.1 hy with rfl | hy
      ·exact hlt
      ·exact bl_trans _ _ _ hlt (a2 y hy)
theorem chkL_zero {l:List Lab} (h:chkL l=0):(∀ x∈l,oneE x=0)∧l.Pairwise fun x y=>LtB x.1 y.1:=by
 cases l with
 | nil=>exact ⟨by simp,List.Pairwise.nil⟩
 | cons x l =>
  have h':(if oneE x≠0 then oneE x else chkF (some x.1) l)=0:=h;split at h'
  ·omega
  ·obtain ⟨a1,a2,a3⟩:=chkF_zero l x h';refine ⟨fun y hy=>?_,List.pairwise_cons.2 ⟨a2,a3⟩⟩;rcases List.mem_cons.1 hy with rfl | hy
   ·omega
   ·exact a1 y hy
theorem tmF_zero:∀ (l:List Smpl) (p:Int),tmF p l=0→(∀ x∈l,p < x.1)∧l.Pairwise fun x y=>x.1 < y.1
 | [],_,_=>⟨by simp,List.Pairwise.nil⟩
 | x::l,p,h=>by
  have h':(if x.1=p then 20 else if x.1 < p then 16 else tmF x.1 l)=0:=h;split at h'
  ·omega
  ·split at h'
   ·omega
   ·obtain ⟨a1,a2⟩:=tmF_zero l x.1 h';refine ⟨fun y hy=>?_,List.pairwise_cons.2 ⟨a1,a2⟩⟩;rcases List.mem_cons.1 hy with rfl | hy
    ·omega
    ·have:=a1 y hy;omega
theorem tmE_zero {l:List Smpl} (h:tmE l=0):l.Pairwise fun x y=>x.1 < y.1:=by
 cases l with
 | nil=>exact List.Pairwise.nil
 | cons x l =>
  obtain ⟨a1,a2⟩:=tmF_zero l x.1 h;exact List.pairwise_cons.2 ⟨a1,a2⟩
theorem serE_zero {s:Ser} (h:serE s=0):chkL s.labs=0∧s.smps≠[]∧tmE s.smps=0:=by
 unfold serE at h;split at h
 ·omega
 ·rename_i h0
  split at h
  ·omega
  ·rename_i h1
   exact ⟨by omega,fun e=>h1 (by rw [e];rfl),h⟩
theorem chkB_zero':∀ (l:List Ser) (p:Ser),chkB (some p) l=0→(∀ x∈l,serE x=0)∧(∀ x∈l,cmpLs p.labs x.labs = -1)∧l.Pairwise fun x y=>cmpLs x.labs y.labs = -1
 | [],_,_=>⟨by simp,by simp,List.Pairwise.nil⟩
 | x::l,p,h=>by
  by_cases h0:serE x=0
  ·rw [chkB_nxt h0] at h;split at h
   ·omega
   ·rename_i h1
    split at h
    ·omega
    ·rename_i h2
     obtain ⟨a1,a2,a3⟩:=chkB_zero' l x h;have hlt:cmpLs p.labs x.labs = -1:=by
      rcases cmpLs_in p.labs x.labs with h | h | h
      ·exact h
      ·exact (h1 h).elim
      ·exact (h2 h).elim
     refine ⟨fun y hy=>?_,fun y hy=>?_,List.pairwise_cons.2 ⟨a2,a3⟩⟩
     ·rcases List.mem_cons.1 hy with rfl | hy
      ·exact h0
      ·exact a1 y hy
     ·rcases List.mem_cons.1 hy with rfl | hy
      ·exact hlt
      ·exact cmp3_Ls.trans _ _ _ hlt (a2 y hy)
  ·rw [chkB_err h0] at h;exact (h0 h).elim
def valB (s:Ser):BVal:=(s.labs,s.smps)
theorem blkE_v {l:List Ser} (h:blkE l=0) (hok:∀ s∈l,InS s.smps):BlkV (l.map valB):=by
 have hh:(∀ x∈l,serE x=0)∧l.Pairwise fun x y=>cmpLs x.labs y.labs = -1:=by
  cases l with
  | nil=>exact ⟨by simp,List.Pairwise.nil⟩
  | cons x l =>
   have h':chkB none (x::l)=0:=h;by_cases h0:serE x=0
   ·rw [chkB_fst h0] at h';obtain ⟨a1,a2,a3⟩:=chkB_zero' l x h';refine ⟨fun y hy=>?_,List.pairwise_cons.2 ⟨a2,a3⟩⟩;rcases List.mem_cons.1 hy with rfl | hy
    ·exact h0
    ·exact a1 y hy
   ·rw [chkB_err h0] at h';exact (h0 h').elim
 have mem:∀ {P:BVal→Prop},(∀ s∈l,P (valB s))→∀ s∈l.map valB,P s:=fun k s hs=>by
  obtain ⟨x,hx,rfl⟩:=List.mem_map.1 hs;exact k x hx
 refine ⟨mem fun s hs=>(chkL_zero (serE_zero (hh.1 s hs)).1).1,mem fun s hs=>(chkL_zero (serE_zero (hh.1 s hs)).1).2,mem fun s hs=>(serE_zero (hh.1 s hs)).2.1,mem fun s hs=>tmE_zero (serE_zero (hh.1 s hs)).2.2,?_,mem hok⟩;rw [List.pairwise_map];exact hh.2
theorem labsV_val (l:List Ser):labsV (l.map valB)=labsOf l:=by unfold labsV labsOf;rw [List.flatMap_map];rfl
theorem fits_few {l:List Ser} (h:Fits l):FewV (l.map valB):=by
 refine ⟨by rw [List.length_map];exact h.1,?_,?_⟩
 ·have:=h.2.1;unfold smpSum at this;rw [List.map_map];exact this
 ·rw [labsV_val];exact h.2.2.1
theorem labs_mem {b:List BVal} {s:BVal} (hs:s∈b) {x:Lab} (hx:x∈s.1):x∈labsV b:=List.mem_flatMap.2 ⟨s,hs,hx⟩
theorem strs_mem {l:List Lab} {s:ByteArray}:s∈strsOf l↔∃ x∈l,s=x.1∨s=x.2:=by
 unfold strsOf;rw [List.mem_flatMap];constructor
 ·rintro ⟨x,hx,h⟩;exact ⟨x,hx,by simpa using h⟩
 ·rintro ⟨x,hx,h⟩;exact ⟨x,hx,by simpa using h⟩
theorem symT_has {b:List BVal} {s:BVal} (hs:s∈b) {x:Lab} (hx:x∈s.1):x.1∈symT (labsV b)∧x.2∈symT (labsV b) :=
 ⟨symT_mem.2 (strs_mem.2 ⟨x,labs_mem hs hx,.inl rfl⟩),symT_mem.2 (strs_mem.2 ⟨x,labs_mem hs hx,.inr rfl⟩)⟩
theorem BlkV.tbl {b:List BVal} (h:BlkV b) (hf:FewV b):TblOk (symT (labsV b)):=by
 refine ⟨by have:=symT_le (labsV b);have:=hf.lab;omega,fun s hs=>?_,symT_asc _⟩;obtain ⟨x,hx,k⟩:=strs_mem.1 (symT_mem.1 hs);obtain ⟨v,hv,hx⟩:=List.mem_flatMap.1 hx;have:=oneE_small (h.one v hv x hx);rcases k with rfl | rfl
 ·exact this.1
 ·exact this.2.1
theorem le_sumV {b:List BVal} {s:BVal} (hs:s∈b):s.2.length≤(b.map fun s=>s.2.length).sum∧s.1.length≤(labsV b).length:=by
 induction b with
 | nil=>cases hs
 | cons x b ih =>
  have e:labsV (x::b)=x.1++labsV b:=rfl;rw [e,List.length_append,List.map_cons,List.sum_cons];rcases List.mem_cons.1 hs with rfl | hs
  ·exact ⟨by omega,by omega⟩
  ·have:=ih hs;omega
theorem BlkV.rc {b:List BVal} (h:BlkV b) (hf:FewV b) {s:BVal} (hs:s∈b):RecOk (symT (labsV b)) (recV s):=by
 have hl:=le_sumV hs;have h1:=hf.lab;have h2:=hf.smp;have h3:=lensL_len s.2;have h4:0 < s.2.length:=List.length_pos_iff.2 (h.ne s hs);refine ⟨fun x hx=>?_,by show s.1.length≤1000;omega,fun e=>?_,by show (lensL s.2).length≤1000;omega,fun n hn=>?_⟩
 ·obtain ⟨y,hy,k⟩:=strs_mem.1 hx;have:=symT_has hs hy;rcases k with rfl | rfl
  ·exact this.1
  ·exact this.2
 ·have e':lensL s.2=[]:=e;rw [e'] at h3;simp at h3;omega
 ·have:=lensL_ok (h.ok s hs) n hn;omega
theorem mem_doneOf {sets:List (List Lab)} {x:Lab} {i:Nat}:(x,i)∈doneOf sets↔∃ h:i < sets.length,x∈sets[i]:=by
 unfold doneOf tagAt;rw [List.mem_flatten];constructor
 ·rintro ⟨L,hL,hx⟩;obtain ⟨j,hj,rfl⟩:=List.mem_mapIdx.1 hL;obtain ⟨y,hy,e⟩:=List.mem_map.1 hx;injection e with e1 e2
  subst e1 e2;exact ⟨hj,hy⟩
 ·rintro ⟨h,hx⟩;exact ⟨_,List.mem_mapIdx.2 ⟨i,h,rfl⟩,List.mem_map.2 ⟨x,hx,rfl⟩⟩
theorem doneOf_len (sets:List (List Lab)):(doneOf sets).length=(sets.map List.length).sum:=by
 unfold doneOf tagAt;rw [List.length_flatten];congr 1
 apply List.ext_getElem
 ·simp
 ·intro i h1 h2;simp
theorem labsV_len (b:List BVal):(labsV b).length=(b.map fun s=>s.1.length).sum:=by
 unfold labsV;rw [List.length_flatMap]
theorem doneOf_asc {sets:List (List Lab)} (hd:∀ L∈sets,L.Nodup):(doneOf sets).Pairwise fun p q=>p.2 < q.2∨(p.2=q.2∧p.1≠q.1):=by
 unfold doneOf;rw [List.pairwise_flatten];refine ⟨fun L hL=>?_,?_⟩
 ·obtain ⟨j,hj,rfl⟩:=List.mem_mapIdx.1 hL;unfold tagAt;rw [List.pairwise_map];exact (hd _ (List.getElem_mem hj)).imp fun {a b} k=>.inr ⟨rfl,k⟩
 ·rw [List.pairwise_iff_getElem];intro i j hi hj hij p hp q hq;simp only [List.getElem_mapIdx,tagAt] at hp hq;obtain ⟨_,_,rfl⟩:=List.mem_map.1 hp;obtain ⟨_,_,rfl⟩:=List.mem_map.1 hq;exact .inl hij
theorem nums_asc {d:List (Lab × Nat)} (h:d.Pairwise fun p q=>p.2 < q.2∨(p.2=q.2∧p.1≠q.1)) (x:Lab):(numsOf d x).Pairwise (· < ·):=by
 unfold numsOf;rw [List.pairwise_map];have h2:=h.filter fun q=>cmpL q.1 x == 0
 refine (List.Pairwise.and_mem.1 h2).imp fun {p q} k=>?_
 obtain ⟨kp,kq,k⟩:=k;have e1:=cmpL_eq.1 (List.mem_filter.1 kp).2;have e2:=cmpL_eq.1 (List.mem_filter.1 kq).2;rcases k with k | ⟨_,k⟩
 ·exact k
 ·exact (k (e1.trans e2.symm)).elim
theorem BlkV.nodup {b:List BVal} (h:BlkV b):∀ L∈setsV b,L.Nodup:=by
 intro L hL;obtain ⟨s,hs,rfl⟩:=List.mem_map.1 hL;exact (h.asc s hs).imp fun {x y} k e=>by subst e;rw [LtB,bl_irrefl] at k;cases k
theorem BlkV.ent {b:List BVal} (h:BlkV b) (hf:FewV b):∀ p∈posV b,EntOk (symT (labsV b)) p:=by
 intro p hp;have hI:=idxOf_isIdx (doneOf (setsV b));have e:=hI.nums p hp;have hd:(doneOf (setsV b)).length≤200:=by
  rw [doneOf_len];have h1:=hf.lab;rw [labsV_len] at h1;unfold setsV;rw [List.map_map];exact h1
 obtain ⟨i,hi⟩:=(hI.mem p.1).1 (List.mem_map.2 ⟨p,hp,rfl⟩);obtain ⟨hi,hx⟩:=mem_doneOf.1 hi;have hib:i < b.length:=by unfold setsV at hi;simpa using hi
 have hx':p.1∈(b[i]).1:=by
  simpa [setsV] using hx
 have hs:=symT_has (List.getElem_mem hib) hx';refine ⟨hs.1,hs.2,?_,?_,fun n hn=>?_⟩
 ·rw [e];exact Nat.le_trans (numsOf_len _ _) (by omega)
 ·rw [e];exact nums_asc (doneOf_asc h.nodup) _
 ·rw [e] at hn;obtain ⟨q,hq,rfl⟩:=List.mem_map.1 hn;obtain ⟨q1,q2⟩:=q;obtain ⟨hq,_⟩:=mem_doneOf.1 (List.mem_filter.1 hq).1;have:(setsV b).length=b.length:=by unfold setsV;rw [List.length_map]
  have:=hf.n;show q2≤1000000
  omega
end
section
open Go Go.RowKit Go.Sort Go.Shelf Go.Lib
theorem labsOf_snoc {l:List Ser} {k:Nat} (h:k < l.length):labsOf (l.take (k+1))=labsOf (l.take k)++l[k].labs:=by
 unfold labsOf;rw [List.take_succ_eq_append_getElem h,List.flatMap_append];simp
theorem labsOf_le (l:List Ser) (k:Nat):(labsOf (l.take k)).length≤(labsOf l).length:=by
 have:labsOf l=labsOf (l.take k)++labsOf (l.drop k):=by unfold labsOf;rw [← List.flatMap_append,List.take_append_drop]
 rw [this,List.length_append];omega
theorem strsOf_append (a b:List Lab):strsOf (a++b)=strsOf a++strsOf b:=by unfold strsOf;rw [List.flatMap_append]
set_option maxRecDepth 100000 in
set_option maxHeartbeats 1600000 in
theorem Symbols_any (w:World) (b:Nat) (A:Option Addr) (n c:Nat) (l:List Ser) (hI:InSer w b A n c l) (hs:(labsOf l).length≤100000) (hn:n≤100000) :
  Calls Tryz.prog 30 #[.slice A n c] w fun e w'=>∃ g A' c',e=.returned (.slice A' (tbl (strsOf (labsOf l))).length c')∧Ow w' g 9 1 A' (tbl (strsOf (labsOf l))).length c' ((tbl (strsOf (labsOf l))).map encStr)∧Nw w w':=by
 have hl:=hI.len;subst hl;have HR:=hid hI.rd;have HOK:=hid hI.ok;clear hI;obtain ⟨T,hT⟩:∃ T,tbl (strsOf (labsOf l))=T:=⟨_,rfl⟩;rw [hT];have HT:=hid hT;have HLE:=hid fun k=>labsOf_le l k
 clear hT;go_enter Tryz.func30,Tryz.ntmps30
 go_wp2;go_loopw [3,8] (fun s i wr=>∃ k:Nat,k≤l.length∧i=.int .i64 k∧∃ (M bk:Nat) (Ak:Option Addr) (ck:Nat),s=.slice Ak (2*M) ck∧M≤100000∧Hid (M=(labsOf (l.take k)).length) ∧
  Hid (Ow wr bk 9 1 Ak (2*M) ck (cT (strsOf (labsOf (l.take k)))))∧w.heap.size≤bk∧Hid (Nw w wr)) (fun _ i _=>l.length - (intOf i).toNat)
 case atStart=>exact ⟨0,by omega,rfl,0,w.heap.size,none,0,rfl,by omega,hid rfl,hid (Ow.nil _ _ _ _),Nat.le_refl _,hid (Nw.refl _)⟩
 case round =>
  obtain ⟨k,hk,rfl,M,bk,Ak,ck,rfl,hM,HM,HO,hbk,HN⟩:=hrel;by_cases hlt:k < l.length
  ·have hltI:(k:Int) < (l.length:Int):=by omega
   obtain ⟨o,rfl,hbw,hc0,hc1⟩:=two_at (HR.out.nw HN.out) hlt;have HTk:=hid (labsOf_snoc hlt);have hle:=HLE.out (k+1);rw [HTk.out,List.length_append,← HM.out] at hle;have HOx:=hid (HOK.out l[k] (List.getElem_mem hlt));generalize l[k]=x at *;obtain ⟨bx,hbx⟩:∃ o,o=Obj.cells #[.slice x.al x.labs.length x.cl,.slice x.as_ x.smps.length x.cs] 51:=⟨_,rfl⟩;have hNb:Nw wr (wr.alloc (.cells #[.slice x.al x.labs.length x.cl,.slice x.as_ x.smps.length x.cs] 51)):=(Nw.refl wr).alloc' _;have HS:=hid fun W (hN:Nw wr W)=>Strings_any W x.bl x.al x.labs.length x.cl x.labs rfl (by omega) ((HOx.out.1.rd.nw HN.out).nw hN)
   clear hbx;go_wp2_with (first
    | (go_at_call 70;refine (HS.out _ hNb).mono ?_;rintro e w2 ⟨b2,A2,c2',rfl,hO2,hb2,hN2⟩;have HO2:=hid hO2;have hN2':=hNb.trans hN2;have HOk:=hid (HO.out.nw hN2');have hnil2:=hO2.nil_cap;clear hO2)
    | (at_builtin;refine wpList_app E_str rfl (.tmp 12) (.tmp 15) rfl rfl HOk.out rfl HO2.out.rd (by rw [List.length_map,strsOf_length];omega) hnil2 (oc_T _) (by simp only [maxLen];omega) (by omega) ?_;intro b3 A3 c3 w3 q1 q2 q3 q4;have Q1:=hid q1;have Q2:=hid q2;have Q3:=hid q3;clear q1 q2 q3 q4))
   go_roundw
   case rel =>
    refine ⟨k+1,by omega,by go_num,M+x.labs.length,b3,A3,c3,by rw [Nat.mul_add],by omega,hid (by rw [HTk.out,List.length_append,HM.out]),hid ?_,?_,hid (Kp.nw (HN.out.trans hN2') Q3.out hbk hbk)⟩
    ·have h:=Q1.out;rw [HTk.out,strsOf_append,Nat.mul_add];unfold cT at h ⊢;rw [List.map_append];exact h
    ·rcases Q2.out with h | h
     ·omega
     ·have:=(HN.out.trans hN2').size;omega
   case measure=>simp [intOf];omega
  ·obtain rfl:k=l.length:=by omega
   have hO:=HO.out;rw [List.take_length] at hO;have hM2:=HM.out;rw [List.take_length] at hM2;have hTb:=Table_any wr bk Ak (2*M) ck (strsOf (labsOf l)) (by rw [strsOf_length,hM2]) (by omega) hO.rd;rw [HT.out] at hTb;have HTb:=hid hTb;clear hTb hO hM2;go_wp2_with (go_at_call 71;refine HTb.out.mono ?_;rintro e w2 ⟨g,A',c',rfl,hO2,hN2⟩)
   go_ret;exact ⟨g,A',c',rfl,hO2,HN.out.trans hN2⟩
end
end Go.Proofs.YtobfpajapgakdaaGreatDoor
