/- Laws that the last text builds on. -/
import Derived.Test.YticphebaflnedaaGreatDoorD7
namespace Go.Proofs.YticphebaflnedaaGreatDoor
open Go.Lib(hid)
section
open Go Go.RowKit Go.Sort
abbrev BVal:=List Lab × List Smpl
def chunkB (zs:List Smpl):List Nat:=pk (cbits (tsOf zs) (vsOf zs))
def cutL (zs:List Smpl) (p:Nat × Nat):List Smpl:=(zs.drop p.1).take p.2
def partsL (zs:List Smpl):List (List Smpl):=(parts zs.length 0).map (cutL zs)
def chunksL (zs:List Smpl):List (List Nat):=(partsL zs).map chunkB
def lensL (zs:List Smpl):List Nat:=(chunksL zs).map List.length
def recV (s:BVal):RecV:=(s.1,lensL s.2)
def datS (b:List BVal):List Nat:=b.flatMap fun s=>(chunksL s.2).flatten
def symT (l:List Lab):List ByteArray:=(tbl (strsOf l)).map fun x=>⟨x.toArray⟩
def labsV (b:List BVal):List Lab:=b.flatMap (·.1)
def idxOf (done:List (Lab × Nat)):List EntV:=done.foldl (fun E p=>insK p.1 p.2 E) []
def setsV (b:List BVal):List (List Lab):=b.map (·.1)
def posV (b:List BVal):List EntV:=idxOf (doneOf (setsV b))
theorem parts_at (n:Nat):∀ (f i:Nat),n - i≤f→∀ k (h:k < (parts n i).length),(parts n i)[k]=(i+120*k,min 120 (n - (i+120*k))):=by
 intro f;induction f with
 | zero=>intro i h k hk;simp [parts_ge (show n≤i by omega)] at hk
 | succ f ih =>
  intro i h k hk;by_cases hi:i < n
  ·have e:=parts_lt hi;cases k with
   | zero=>simp [e]
   | succ k =>
    have hk':k < (parts n (i+120)).length:=by simp [e] at hk;exact hk
    have:=ih (i+120) (by omega) k hk';simp only [e,List.getElem_cons_succ,this,show i+120+120*k=i+120*(k+1) by omega]
  ·simp [parts_ge (show n≤i by omega)] at hk
theorem partsL_len (zs:List Smpl):(partsL zs).length=(zs.length+119) / 120:=by
 unfold partsL;rw [List.length_map,parts_length zs.length zs.length 0 (by omega)];rfl
theorem partsL_get (zs:List Smpl) (k:Nat) (h:k < (partsL zs).length):(partsL zs)[k]=(zs.drop (120*k)).take (min 120 (zs.length - 120*k)):=by
 have hk:k < (parts zs.length 0).length:=by unfold partsL at h;simpa using h
 have:=parts_at zs.length zs.length 0 (by omega) k hk;have e:(partsL zs)[k]=cutL zs ((parts zs.length 0)[k]):=by simp [partsL]
 rw [e,this,cutL];simp only [Nat.zero_add]
theorem partsL_mem {zs x:List Smpl} (h:x∈partsL zs):1≤x.length∧x.length≤120∧∀ z∈x,z∈zs:=by
 obtain ⟨k,hk,rfl⟩:=List.getElem_of_mem h;have hl:=partsL_len zs;rw [partsL_get];rw [hl] at hk;refine ⟨?_,?_,fun z hz=>List.mem_of_mem_drop (List.mem_of_mem_take hz)⟩
 ·rw [List.length_take,List.length_drop];omega
 ·rw [List.length_take];omega
theorem parts_flat (zs:List Smpl):∀ (f i:Nat),zs.length - i≤f→((parts zs.length i).map (cutL zs)).flatten=zs.drop i:=by
 intro f;induction f with
 | zero=>intro i h;rw [parts_ge (by omega),List.drop_of_length_le (by omega)];rfl
 | succ f ih =>
  intro i h;by_cases hi:i < zs.length
  ·rw [parts_lt hi,List.map_cons,List.flatten_cons,ih (i+120) (by omega)];unfold cutL;dsimp only;by_cases h2:zs.length - i≤120
   ·rw [Nat.min_eq_right h2,List.drop_of_length_le (show zs.length≤i+120 by omega),List.append_nil,List.take_of_length_le (by rw [List.length_drop];omega)]
   ·rw [Nat.min_eq_left (by omega),← List.drop_drop,List.take_append_drop]
  ·rw [parts_ge (by omega),List.drop_of_length_le (by omega)];rfl
theorem partsL_flat (zs:List Smpl):(partsL zs).flatten=zs:=by
 have:=parts_flat zs zs.length 0 (by omega);simpa [partsL] using this
theorem lensL_len (zs:List Smpl):(lensL zs).length=(zs.length+119) / 120:=by
 unfold lensL chunksL;rw [List.length_map,List.length_map,partsL_len]
theorem chunkB_lt (zs:List Smpl):∀ x∈chunkB zs,x < 256:=pk_lt _
theorem chunkB_len {zs:List Smpl} (h0:1≤zs.length) (h:zs.length≤120) (hI:InS zs):1≤(chunkB zs).length∧(chunkB zs).length≤10000:=by
 have h1:=tput_length_le (tsOf zs);have h2:=vput_small (vsOf zs) (by simpa using h) (fun x hx=>by
  obtain ⟨z,hz,rfl⟩:=List.mem_map.1 hx;exact (hI z hz).2)
 have h3:(cbits (tsOf zs) (vsOf zs)).length=8+(8+((tput (tsOf zs)).length+(vput (tagOf (vsOf zs)) (vsOf zs)).length)):=by
  unfold cbits;simp only [List.length_append,bitsOf_length]
 have h4:(tsOf zs).length=zs.length:=by simp
 unfold chunkB;rw [pk_length];omega
theorem InS.part {zs x:List Smpl} (h:InS zs) (hx:x∈partsL zs):InS x:=fun z hz=>h z ((partsL_mem hx).2.2 z hz)
theorem lensL_ok {zs:List Smpl} (hI:InS zs):∀ n∈lensL zs,1≤n∧n≤10000:=by
 intro n hn;unfold lensL chunksL at hn;rw [List.map_map] at hn;obtain ⟨x,hx,rfl⟩:=List.mem_map.1 hn;have:=partsL_mem hx;exact chunkB_len this.1 this.2.1 (hI.part hx)
theorem symT_bys (l:List Lab):bys (symT l)=tbl (strsOf l):=by
 unfold symT bys;rw [List.map_map];refine (List.map_congr_left fun x _=>?_).trans (List.map_id _);show ByteArray.toList ⟨x.toArray⟩=x
 rw [ByteArray.toList_eq]
theorem symT_cells (l:List Lab):(tbl (strsOf l)).map encStr=cT (symT l):=by rw [← enc_bys,symT_bys]
theorem symT_len (l:List Lab):(tbl (strsOf l)).length=(symT l).length:=by unfold symT;rw [List.length_map]
theorem symT_mem {l:List Lab} {s:ByteArray}:s∈symT l↔s∈strsOf l:=by
 have h:=(tbl_spec (strsOf l)).1;rw [← symT_bys] at h;have inj:∀ (m:List ByteArray),s.toList∈bys m↔s∈m:=fun m=>by
  constructor
  ·intro hm;obtain ⟨x,hx,e⟩:=List.mem_map.1 hm
   rwa [← bytes_ext e]
  ·exact fun hm=>List.mem_map.2 ⟨s,hm,rfl⟩
 rw [← inj,h,inj]
theorem symT_asc (l:List Lab):(symT l).Pairwise LtB:=by
 have h:=(tbl_spec (strsOf l)).2;rw [← symT_bys] at h;unfold bys at h;rw [List.pairwise_map] at h;exact h.imp fun {a b} k=>ltB_iff.2 k
theorem symT_le (l:List Lab):(symT l).length≤2*l.length:=by
 rw [← symT_len,← strsOf_length];have:=compact_le ((bys (strsOf l)).mergeSort fun x y=>decide (x≤y));rw [List.length_mergeSort] at this;unfold tbl;unfold bys at this;rw [List.length_map] at this;exact this
theorem idxOf_snoc (d:List (Lab × Nat)) (p:Lab × Nat):idxOf (d++[p])=insK p.1 p.2 (idxOf d):=by unfold idxOf;rw [List.foldl_append];rfl
theorem idxOf_is:∀ (n:Nat) (done:List (Lab × Nat)),done.length=n→IsIdx done (idxOf done)
 | 0,done,h=>by
  obtain rfl:=List.eq_nil_of_length_eq_zero h;exact IsIdx.nil
 | n+1,done,h=>by
  have hne:done≠[]:=by intro e;subst e;simp at h
  have e:=List.dropLast_concat_getLast hne;rw [← e,idxOf_snoc];exact (idxOf_is n done.dropLast (by simp [h])).ins _ _
theorem idxOf_isIdx (done:List (Lab × Nat)):IsIdx done (idxOf done):=idxOf_is _ done rfl
structure BlkV (b:List BVal):Prop where
 one:∀ s∈b,∀ x∈s.1,oneE x=0
 asc:∀ s∈b,s.1.Pairwise fun x y=>LtB x.1 y.1
 ne:∀ s∈b,s.2≠[]
 tm:∀ s∈b,s.2.Pairwise fun x y=>x.1 < y.1
 srt:b.Pairwise fun x y=>cmpLs x.1 y.1 = -1
 ok:∀ s∈b,InS s.2
structure FewV (b:List BVal):Prop where
 n:b.length≤300
 smp:(b.map fun s=>s.2.length).sum≤3000
 lab:(labsV b).length≤200
theorem oneE_small {x:Lab} (h:oneE x=0):x.1.size≤65535∧x.2.size≤65535∧noName x.1=false:=by
 unfold oneE at h;split at h
 ·omega
 ·rename_i h0
  split at h
  ·omega
  ·refine ⟨by omega,by omega,by simpa using h0⟩
theorem chkF_zero:∀ (l:List Lab) (p:Lab),chkF (some p.1) l=0→(∀ x∈l,oneE x=0)∧(∀ x∈l,LtB p.1 x.1)∧l.Pairwise fun x y=>LtB x.1 y.1
 | [],p,_=>⟨by simp,by simp,List.Pairwise.nil⟩
 | x::l,p,h=>by
  have h':(if oneE x≠0 then oneE x else if cmpS p.1 x.1=0 then 18 else if cmpS p.1 x.1=1 then 16 else chkF (some x.1) l)=0:=h;split at h'
  ·omega
  ·rename_i h0
   split at h'
   ·omega
   ·rename_i h1
    split at h'
    ·omega
    ·rename_i h2
     obtain ⟨a1,a2,a3⟩:=chkF_zero l x h';have hlt:LtB p.1 x.1:=by
      rcases cmpS_in p.1 x.1 with h | h | h
      ·exact cmpS_neg.1 h
      ·exact (h1 h).elim
      ·exact (h2 h).elim
     refine ⟨fun y hy=>?_,fun y hy=>?_,List.pairwise_cons.2 ⟨a2,a3⟩⟩
     ·rcases List.mem_cons.1 hy with rfl | hy
      ·omega
      ·exact a1 y hy
     ·rcases List.mem_cons.1 hy with rfl | hy
      ·exact hlt
      ·exact bl_trans _ _ _ hlt (a2 y hy)
theorem chkL_zero {l:List Lab} (h:chkL l=0):(∀ x∈l,oneE x=0)∧l.Pairwise fun x y=>LtB x.1 y.1:=by
 cases l with
 | nil=>exact ⟨by simp,List.Pairwise.nil⟩
 | cons x l =>
  have h':(if oneE x≠0 then oneE x else chkF (some x.1) l)=0:=h;split at h'
  ·omega
  ·obtain ⟨a1,a2,a3⟩:=chkF_zero l x h';refine ⟨fun y hy=>?_,List.pairwise_cons.2 ⟨a2,a3⟩⟩;rcases List.mem_cons.1 hy with rfl | hy
   ·omega
   ·exact a1 y hy
theorem tmF_zero:∀ (l:List Smpl) (p:Int),tmF p l=0→(∀ x∈l,p < x.1)∧l.Pairwise fun x y=>x.1 < y.1
 | [],_,_=>⟨by simp,List.Pairwise.nil⟩
 | x::l,p,h=>by
  have h':(if x.1=p then 20 else if x.1 < p then 16 else tmF x.1 l)=0:=h;split at h'
  ·omega
  ·split at h'
   ·omega
   ·obtain ⟨a1,a2⟩:=tmF_zero l x.1 h';refine ⟨fun y hy=>?_,List.pairwise_cons.2 ⟨a1,a2⟩⟩;rcases List.mem_cons.1 hy with rfl | hy
    ·omega
    ·have:=a1 y hy;omega
theorem tmE_zero {l:List Smpl} (h:tmE l=0):l.Pairwise fun x y=>x.1 < y.1:=by
 cases l with
 | nil=>exact List.Pairwise.nil
 | cons x l =>
  obtain ⟨a1,a2⟩:=tmF_zero l x.1 h;exact List.pairwise_cons.2 ⟨a1,a2⟩
theorem serE_zero {s:Ser} (h:serE s=0):chkL s.labs=0∧s.smps≠[]∧tmE s.smps=0:=by
 unfold serE at h;split at h
 ·omega
 ·rename_i h0
  split at h
  ·omega
  ·rename_i h1
   exact ⟨by omega,fun e=>h1 (by rw [e];rfl),h⟩
theorem chkB_zero':∀ (l:List Ser) (p:Ser),chkB (some p) l=0→(∀ x∈l,serE x=0)∧(∀ x∈l,cmpLs p.labs x.labs = -1)∧l.Pairwise fun x y=>cmpLs x.labs y.labs = -1
 | [],_,_=>⟨by simp,by simp,List.Pairwise.nil⟩
 | x::l,p,h=>by
  by_cases h0:serE x=0
  ·rw [chkB_nxt h0] at h;split at h
   ·omega
   ·rename_i h1
    split at h
    ·omega
    ·rename_i h2
     obtain ⟨a1,a2,a3⟩:=chkB_zero' l x h;have hlt:cmpLs p.labs x.labs = -1:=by
      rcases cmpLs_in p.labs x.labs with h | h | h
      ·exact h
      ·exact (h1 h).elim
      ·exact (h2 h).elim
     refine ⟨fun y hy=>?_,fun y hy=>?_,List.pairwise_cons.2 ⟨a2,a3⟩⟩
     ·rcases List.mem_cons.1 hy with rfl | hy
      ·exact h0
      ·exact a1 y hy
     ·rcases List.mem_cons.1 hy with rfl | hy
      ·exact hlt
      ·exact cmp3_Ls.trans _ _ _ hlt (a2 y hy)
  ·rw [chkB_err h0] at h;exact (h0 h).elim
def valB (s:Ser):BVal:=(s.labs,s.smps)
theorem blkE_v {l:List Ser} (h:blkE l=0) (hok:∀ s∈l,InS s.smps):BlkV (l.map valB):=by
 have hh:(∀ x∈l,serE x=0)∧l.Pairwise fun x y=>cmpLs x.labs y.labs = -1:=by
  cases l with
  | nil=>exact ⟨by simp,List.Pairwise.nil⟩
  | cons x l =>
   have h':chkB none (x::l)=0:=h;by_cases h0:serE x=0
   ·rw [chkB_fst h0] at h';obtain ⟨a1,a2,a3⟩:=chkB_zero' l x h';refine ⟨fun y hy=>?_,List.pairwise_cons.2 ⟨a2,a3⟩⟩;rcases List.mem_cons.1 hy with rfl | hy
    ·exact h0
    ·exact a1 y hy
   ·rw [chkB_err h0] at h';exact (h0 h').elim
 have mem:∀ {P:BVal→Prop},(∀ s∈l,P (valB s))→∀ s∈l.map valB,P s:=fun k s hs=>by
  obtain ⟨x,hx,rfl⟩:=List.mem_map.1 hs;exact k x hx
 refine ⟨mem fun s hs=>(chkL_zero (serE_zero (hh.1 s hs)).1).1,mem fun s hs=>(chkL_zero (serE_zero (hh.1 s hs)).1).2,mem fun s hs=>(serE_zero (hh.1 s hs)).2.1,mem fun s hs=>tmE_zero (serE_zero (hh.1 s hs)).2.2,?_,mem hok⟩;rw [List.pairwise_map];exact hh.2
theorem labsV_val (l:List Ser):labsV (l.map valB)=labsOf l:=by unfold labsV labsOf;rw [List.flatMap_map];rfl
theorem fits_few {l:List Ser} (h:Fits l):FewV (l.map valB):=by
 refine ⟨by rw [List.length_map];exact h.1,?_,?_⟩
 ·have:=h.2.1;unfold smpSum at this;rw [List.map_map];exact this
 ·rw [labsV_val];exact h.2.2.1
theorem labs_mem {b:List BVal} {s:BVal} (hs:s∈b) {x:Lab} (hx:x∈s.1):x∈labsV b:=List.mem_flatMap.2 ⟨s,hs,hx⟩
theorem strs_mem {l:List Lab} {s:ByteArray}:s∈strsOf l↔∃ x∈l,s=x.1∨s=x.2:=by
 unfold strsOf;rw [List.mem_flatMap];constructor
 ·rintro ⟨x,hx,h⟩;exact ⟨x,hx,by simpa using h⟩
 ·rintro ⟨x,hx,h⟩;exact ⟨x,hx,by simpa using h⟩
theorem symT_has {b:List BVal} {s:BVal} (hs:s∈b) {x:Lab} (hx:x∈s.1):x.1∈symT (labsV b)∧x.2∈symT (labsV b) :=
 ⟨symT_mem.2 (strs_mem.2 ⟨x,labs_mem hs hx,.inl rfl⟩),symT_mem.2 (strs_mem.2 ⟨x,labs_mem hs hx,.inr rfl⟩)⟩
theorem BlkV.tbl {b:List BVal} (h:BlkV b) (hf:FewV b):TblOk (symT (labsV b)):=by
 refine ⟨by have:=symT_le (labsV b);have:=hf.lab;omega,fun s hs=>?_,symT_asc _⟩;obtain ⟨x,hx,k⟩:=strs_mem.1 (symT_mem.1 hs);obtain ⟨v,hv,hx⟩:=List.mem_flatMap.1 hx;have:=oneE_small (h.one v hv x hx);rcases k with rfl | rfl
 ·exact this.1
 ·exact this.2.1
theorem le_sumV {b:List BVal} {s:BVal} (hs:s∈b):s.2.length≤(b.map fun s=>s.2.length).sum∧s.1.length≤(labsV b).length:=by
 induction b with
 | nil=>cases hs
 | cons x b ih =>
  have e:labsV (x::b)=x.1++labsV b:=rfl;rw [e,List.length_append,List.map_cons,List.sum_cons];rcases List.mem_cons.1 hs with rfl | hs
  ·exact ⟨by omega,by omega⟩
  ·have:=ih hs;omega
theorem BlkV.rc {b:List BVal} (h:BlkV b) (hf:FewV b) {s:BVal} (hs:s∈b):RecOk (symT (labsV b)) (recV s):=by
 have hl:=le_sumV hs;have h1:=hf.lab;have h2:=hf.smp;have h3:=lensL_len s.2;have h4:0 < s.2.length:=List.length_pos_iff.2 (h.ne s hs);refine ⟨fun x hx=>?_,by show s.1.length≤1000;omega,fun e=>?_,by show (lensL s.2).length≤1000;omega,fun n hn=>?_⟩
 ·obtain ⟨y,hy,k⟩:=strs_mem.1 hx;have:=symT_has hs hy;rcases k with rfl | rfl
  ·exact this.1
  ·exact this.2
 ·have e':lensL s.2=[]:=e;rw [e'] at h3;simp at h3;omega
 ·have:=lensL_ok (h.ok s hs) n hn;omega
theorem mem_doneOf {sets:List (List Lab)} {x:Lab} {i:Nat}:(x,i)∈doneOf sets↔∃ h:i < sets.length,x∈sets[i]:=by
 unfold doneOf tagAt;rw [List.mem_flatten];constructor
 ·rintro ⟨L,hL,hx⟩;obtain ⟨j,hj,rfl⟩:=List.mem_mapIdx.1 hL;obtain ⟨y,hy,e⟩:=List.mem_map.1 hx;injection e with e1 e2
  subst e1 e2;exact ⟨hj,hy⟩
 ·rintro ⟨h,hx⟩;exact ⟨_,List.mem_mapIdx.2 ⟨i,h,rfl⟩,List.mem_map.2 ⟨x,hx,rfl⟩⟩
theorem doneOf_len (sets:List (List Lab)):(doneOf sets).length=(sets.map List.length).sum:=by
 unfold doneOf tagAt;rw [List.length_flatten];congr 1
 apply List.ext_getElem
 ·simp
 ·intro i h1 h2;simp
theorem labsV_len (b:List BVal):(labsV b).length=(b.map fun s=>s.1.length).sum:=by
 unfold labsV;rw [List.length_flatMap]
theorem doneOf_asc {sets:List (List Lab)} (hd:∀ L∈sets,L.Nodup):(doneOf sets).Pairwise fun p q=>p.2 < q.2∨(p.2=q.2∧p.1≠q.1):=by
 unfold doneOf;rw [List.pairwise_flatten];refine ⟨fun L hL=>?_,?_⟩
 ·obtain ⟨j,hj,rfl⟩:=List.mem_mapIdx.1 hL;unfold tagAt;rw [List.pairwise_map];exact (hd _ (List.getElem_mem hj)).imp fun {a b} k=>.inr ⟨rfl,k⟩
 ·rw [List.pairwise_iff_getElem];intro i j hi hj hij p hp q hq;simp only [List.getElem_mapIdx,tagAt] at hp hq;obtain ⟨_,_,rfl⟩:=List.mem_map.1 hp;obtain ⟨_,_,rfl⟩:=List.mem_map.1 hq;exact .inl hij
theorem nums_asc {d:List (Lab × Nat)} (h:d.Pairwise fun p q=>p.2 < q.2∨(p.2=q.2∧p.1≠q.1)) (x:Lab):(numsOf d x).Pairwise (· < ·):=by
 unfold numsOf;rw [List.pairwise_map];have h2:=h.filter fun q=>cmpL q.1 x == 0
 refine (List.Pairwise.and_mem.1 h2).imp fun {p q} k=>?_
 obtain ⟨kp,kq,k⟩:=k;have e1:=cmpL_eq.1 (List.mem_filter.1 kp).2;have e2:=cmpL_eq.1 (List.mem_filter.1 kq).2;rcases k with k | ⟨_,k⟩
 ·exact k
 ·exact (k (e1.trans e2.symm)).elim
theorem BlkV.nodup {b:List BVal} (h:BlkV b):∀ L∈setsV b,L.Nodup:=by
 intro L hL;obtain ⟨s,hs,rfl⟩:=List.mem_map.1 hL;exact (h.asc s hs).imp fun {x y} k e=>by subst e;rw [LtB,bl_irrefl] at k;cases k
theorem BlkV.ent {b:List BVal} (h:BlkV b) (hf:FewV b):∀ p∈posV b,EntOk (symT (labsV b)) p:=by
 intro p hp;have hI:=idxOf_isIdx (doneOf (setsV b));have e:=hI.nums p hp;have hd:(doneOf (setsV b)).length≤200:=by
  rw [doneOf_len];have h1:=hf.lab;rw [labsV_len] at h1;unfold setsV;rw [List.map_map];exact h1
 obtain ⟨i,hi⟩:=(hI.mem p.1).1 (List.mem_map.2 ⟨p,hp,rfl⟩);obtain ⟨hi,hx⟩:=mem_doneOf.1 hi;have hib:i < b.length:=by unfold setsV at hi;simpa using hi
 have hx':p.1∈(b[i]).1:=by
  simpa [setsV] using hx
 have hs:=symT_has (List.getElem_mem hib) hx';refine ⟨hs.1,hs.2,?_,?_,fun n hn=>?_⟩
 ·rw [e];exact Nat.le_trans (numsOf_len _ _) (by omega)
 ·rw [e];exact nums_asc (doneOf_asc h.nodup) _
 ·rw [e] at hn;obtain ⟨q,hq,rfl⟩:=List.mem_map.1 hn;obtain ⟨q1,q2⟩:=q;obtain ⟨hq,_⟩:=mem_doneOf.1 (List.mem_filter.1 hq).1;have:(setsV b).length=b.length:=by unfold setsV;rw [List.length_map]
  have:=hf.n;show q2≤1000000
  omega
end
section
open Go Go.RowKit Go.Sort Go.Shelf Go.Lib
theorem labsOf_snoc {l:List Ser} {k:Nat} (h:k < l.length):labsOf (l.take (k+1))=labsOf (l.take k)++l[k].labs:=by
 unfold labsOf;rw [List.take_succ_eq_append_getElem h,List.flatMap_append];simp
theorem labsOf_le (l:List Ser) (k:Nat):(labsOf (l.take k)).length≤(labsOf l).length:=by
 have:labsOf l=labsOf (l.take k)++labsOf (l.drop k):=by unfold labsOf;rw [← List.flatMap_append,List.take_append_drop]
 rw [this,List.length_append];omega
theorem strsOf_append (a b:List Lab):strsOf (a++b)=strsOf a++strsOf b:=by unfold strsOf;rw [List.flatMap_append]
set_option maxRecDepth 100000 in
set_option maxHeartbeats 1600000 in
theorem Symbols_any (w:World) (b:Nat) (A:Option Addr) (n c:Nat) (l:List Ser) (hI:InSer w b A n c l) (hs:(labsOf l).length≤100000) (hn:n≤100000) :
  Calls Tryz.prog 55 #[.slice A n c] w fun e w'=>∃ g A' c',e=.returned (.slice A' (tbl (strsOf (labsOf l))).length c')∧Ow w' g 9 1 A' (tbl (strsOf (labsOf l))).length c' ((tbl (strsOf (labsOf l))).map encStr)∧Nw w w':=by
 have hl:=hI.len;subst hl;have HR:=hid hI.rd;have HOK:=hid hI.ok;clear hI;obtain ⟨T,hT⟩:∃ T,tbl (strsOf (labsOf l))=T:=⟨_,rfl⟩;rw [hT];have HT:=hid hT;have HLE:=hid fun k=>labsOf_le l k
 clear hT;go_enter Tryz.func55,Tryz.ntmps55
 go_wp2;go_loopw [3,8] (fun s i wr=>∃ k:Nat,k≤l.length∧i=.int .i64 k∧∃ (M bk:Nat) (Ak:Option Addr) (ck:Nat),s=.slice Ak (2*M) ck∧M≤100000∧Hid (M=(labsOf (l.take k)).length) ∧
  Hid (Ow wr bk 9 1 Ak (2*M) ck (cT (strsOf (labsOf (l.take k)))))∧w.heap.size≤bk∧Hid (Nw w wr)) (fun _ i _=>l.length - (intOf i).toNat)
 case atStart=>exact ⟨0,by omega,rfl,0,w.heap.size,none,0,rfl,by omega,hid rfl,hid (Ow.nil _ _ _ _),Nat.le_refl _,hid (Nw.refl _)⟩
 case round =>
  obtain ⟨k,hk,rfl,M,bk,Ak,ck,rfl,hM,HM,HO,hbk,HN⟩:=hrel;by_cases hlt:k < l.length
  ·have hltI:(k:Int) < (l.length:Int):=by omega
   obtain ⟨o,rfl,hbw,hc0,hc1⟩:=two_at (HR.out.nw HN.out) hlt;have HTk:=hid (labsOf_snoc hlt);have hle:=HLE.out (k+1);rw [HTk.out,List.length_append,← HM.out] at hle;have HOx:=hid (HOK.out l[k] (List.getElem_mem hlt));generalize l[k]=x at *;obtain ⟨bx,hbx⟩:∃ o,o=Obj.cells #[.slice x.al x.labs.length x.cl,.slice x.as_ x.smps.length x.cs] 80:=⟨_,rfl⟩;have hNb:Nw wr (wr.alloc (.cells #[.slice x.al x.labs.length x.cl,.slice x.as_ x.smps.length x.cs] 80)):=(Nw.refl wr).alloc' _;have HS:=hid fun W (hN:Nw wr W)=>Strings_any W x.bl x.al x.labs.length x.cl x.labs rfl (by omega) ((HOx.out.1.rd.nw HN.out).nw hN)
   clear hbx;go_wp2_with (first
    | (go_at_call 107;refine (HS.out _ hNb).mono ?_;rintro e w2 ⟨b2,A2,c2',rfl,hO2,hb2,hN2⟩;have HO2:=hid hO2;have hN2':=hNb.trans hN2;have HOk:=hid (HO.out.nw hN2');have hnil2:=hO2.nil_cap;clear hO2)
    | (at_builtin;refine wpList_app E_str rfl (.tmp 12) (.tmp 15) rfl rfl HOk.out rfl HO2.out.rd (by rw [List.length_map,strsOf_length];omega) hnil2 (oc_T _) (by simp only [maxLen];omega) (by omega) ?_;intro b3 A3 c3 w3 q1 q2 q3 q4;have Q1:=hid q1;have Q2:=hid q2;have Q3:=hid q3;clear q1 q2 q3 q4))
   go_roundw
   case rel =>
    refine ⟨k+1,by omega,by go_num,M+x.labs.length,b3,A3,c3,by rw [Nat.mul_add],by omega,hid (by rw [HTk.out,List.length_append,HM.out]),hid ?_,?_,hid (Kp.nw (HN.out.trans hN2') Q3.out hbk hbk)⟩
    ·have h:=Q1.out;rw [HTk.out,strsOf_append,Nat.mul_add];unfold cT at h ⊢;rw [List.map_append];exact h
    ·rcases Q2.out with h | h
     ·omega
     ·have:=(HN.out.trans hN2').size;omega
   case measure=>simp [intOf];omega
  ·obtain rfl:k=l.length:=by omega
   have hO:=HO.out;rw [List.take_length] at hO;have hM2:=HM.out;rw [List.take_length] at hM2;have hTb:=Table_any wr bk Ak (2*M) ck (strsOf (labsOf l)) (by rw [strsOf_length,hM2]) (by omega) hO.rd;rw [HT.out] at hTb;have HTb:=hid hTb;clear hTb hO hM2;go_wp2_with (go_at_call 108;refine HTb.out.mono ?_;rintro e w2 ⟨g,A',c',rfl,hO2,hN2⟩)
   go_ret;exact ⟨g,A',c',rfl,hO2,HN.out.trans hN2⟩
end
section
open Go Go.RowKit Go.Lib
def toc (a0 a1 a2 a3:Nat):List Nat:=vint a0++vint a1++vint a2++vint a3
def hd0:List Nat:=[84,83,66,75,1]
def file1 (l0:List Nat):List Nat:=hd0++frame 1 l0
def file2 (l0 l1:List Nat):List Nat:=file1 l0++frame 2 l1
def file3 (l0 l1 l2:List Nat):List Nat:=file2 l0 l1++frame 3 l2
def file4 (l0 l1 l2 l3:List Nat):List Nat:=file3 l0 l1 l2++frame 4 l3
def file5 (l0 l1 l2 l3:List Nat):List Nat:=file4 l0 l1 l2 l3++frame 5 (toc hd0.length (file1 l0).length (file2 l0 l1).length (file3 l0 l1 l2).length)
def fileOf (l0 l1 l2 l3:List Nat):List Nat:=addCrc (file5 l0 l1 l2 l3)++[75,66,83,84]
theorem toc_lt (a0 a1 a2 a3:Nat):∀ x∈toc a0 a1 a2 a3,x < 256:=by
 intro x hx;simp only [toc,List.mem_append] at hx;rcases hx with ((hx | hx) | hx) | hx<;>exact vint_lt _ x hx
theorem hd0_lt:∀ x∈hd0,x < 256:=by decide
theorem frame_len {id:Nat} {l:List Nat} (h:l.length≤100000000):(frame id l).length≤100000020:=by
 unfold frame lenB;rw [addCrc_length,List.length_cons,List.length_append];have:=vint_len l.length (by omega);omega
theorem lt_append {a b:List Nat} (h:∀ x∈a,x < 256) (k:∀ x∈b,x < 256):∀ x∈a++b,x < 256:=by
 intro x hx;rcases List.mem_append.1 hx with hx | hx
 ·exact h x hx
 ·exact k x hx
structure InB (w:World) (b:Nat) (A:Option Addr) (n c:Nat) (l:List Nat):Prop where
 rd:Rd w b A (cN .u8 l)
 len:n=l.length
 small:n≤100000000
 byte:∀ x∈l,x < 256
theorem InB.nw {w w':World} {b n c:Nat} {A:Option Addr} {l:List Nat} (h:InB w b A n c l) (hN:Nw w w'):InB w' b A n c l:=⟨h.rd.nw hN,h.len,h.small,h.byte⟩
set_option maxRecDepth 100000 in
theorem contents_any (w:World) (a0 a1 a2 a3 a4:Nat) (h0:a0≤1000000000000) (h1:a1≤1000000000000) (h2:a2≤1000000000000) (h3:a3≤1000000000000) :
  Calls Tryz.prog 121 #[.agg #[.int .i64 (a0:Int),.int .i64 (a1:Int),.int .i64 (a2:Int),.int .i64 (a3:Int),.int .i64 (a4:Int)]] w (NewB w (toc a0 a1 a2 a3)):=by
 have hb:(w.alloc (.cells #[.int .i64 (a0:Int),.int .i64 (a1:Int),.int .i64 (a2:Int),.int .i64 (a3:Int),.int .i64 (a4:Int)] 119)).heap[w.heap.size]? = some (.cells #[.int .i64 (a0:Int),.int .i64 (a1:Int),.int .i64 (a2:Int),.int .i64 (a3:Int),.int .i64 (a4:Int)] 119):=heap_alloc_new _ _;have hN:Nw w (w.alloc (.cells #[.int .i64 (a0:Int),.int .i64 (a1:Int),.int .i64 (a2:Int),.int .i64 (a3:Int),.int .i64 (a4:Int)] 119)):=(Nw.refl w).alloc' _;have hlt:w.heap.size < (w.alloc (.cells #[.int .i64 (a0:Int),.int .i64 (a1:Int),.int .i64 (a2:Int),.int .i64 (a3:Int),.int .i64 (a4:Int)] 119)).heap.size:=by simp
 have HL0:=hid (vint_len a0 (by omega));have HL1:=hid (vint_len a1 (by omega));have HL2:=hid (vint_len a2 (by omega));have HL3:=hid (vint_len a3 (by omega));have HT:=hid (show toc a0 a1 a2 a3=vint a0++vint a1++vint a2++vint a3 from rfl);have u0:IntKind.u64.wrap (a0:Int)=(a0:Int):=IntWalk.u64_in _ (by omega);have u1:IntKind.u64.wrap (a1:Int)=(a1:Int):=IntWalk.u64_in _ (by omega);have u2:IntKind.u64.wrap (a2:Int)=(a2:Int):=IntWalk.u64_in _ (by omega);have u3:IntKind.u64.wrap (a3:Int)=(a3:Int):=IntWalk.u64_in _ (by omega);have HV0:=hid fun W b A n c xs hO hn=>VAppend_any W b A n c xs a0 hO (by omega) hn
 have HV1:=hid fun W b A n c xs hO hn=>VAppend_any W b A n c xs a1 hO (by omega) hn
 have HV2:=hid fun W b A n c xs hO hn=>VAppend_any W b A n c xs a2 hO (by omega) hn
 have HV3:=hid fun W b A n c xs hO hn=>VAppend_any W b A n c xs a3 hO (by omega) hn
 obtain ⟨V0,hV0⟩:∃ V,vint a0=V:=⟨_,rfl⟩;obtain ⟨V1,hV1⟩:∃ V,vint a1=V:=⟨_,rfl⟩;obtain ⟨V2,hV2⟩:∃ V,vint a2=V:=⟨_,rfl⟩;obtain ⟨V3,hV3⟩:∃ V,vint a3=V:=⟨_,rfl⟩;rw [hV0] at HV0 HL0 HT;rw [hV1] at HV1 HL1 HT;rw [hV2] at HV2 HL2 HT;rw [hV3] at HV3 HL3 HT;clear hV0 hV1 hV2 hV3;go_enter Tryz.func121,Tryz.ntmps121
 go_wp2;refine wp_loop_rounds 5 ?_;generalize w.alloc (.cells #[.int .i64 (a0:Int),.int .i64 (a1:Int),.int .i64 (a2:Int),.int .i64 (a3:Int),.int .i64 (a4:Int)] 119)=W0 at *;have HO0:=hid (show Ow W0 0 5 1 none 0 0 (cN .u8 []) from Ow.nil W0 0 5 1);have HB0:=hid hb;have HN0:=hid hN;clear hb hN;have HLT0:=hid (show ∀ k∈[w.heap.size],k < W0.heap.size from fun k hk=>by obtain rfl:=List.mem_singleton.1 hk;exact hlt);clear hlt;rw [rounds_succ];have hl0:=HL0.out;have hc0:W0.cell? ⟨w.heap.size,0,none⟩=some (.int .i64 (a0:Int)):=by simp [World.cell?,HB0.out]
 go_wp2_with fail;refine (HV0.out W0 _ _ _ _ _ HO0.out (by omega)).mono ?_;rintro e W1 hA0;obtain ⟨b1,A1,c1,rfl,hO1,hp1,hN1,hK1,hlt1⟩:=hA0.own [w.heap.size] HN0.out (.inr rfl) HLT0.out;simp only [Nat.zero_add,List.nil_append] at hO1;have HB1:=hid ((hK1 _ List.mem_cons_self).trans HB0.out);have HLT1:=hid hlt1;have HO1:=hid hO1;have HN1:=hid hN1;have HP1:=hid hp1;clear hO1 hN1 hp1 hK1 hlt1 hc0 hA0 HB0 HO0;go_wp2_with fail;rw [rounds_succ];have hl1:=HL1.out;have hc1:W1.cell? ⟨w.heap.size,1,none⟩=some (.int .i64 (a1:Int)):=by simp [World.cell?,HB1.out]
 go_wp2_with fail;refine (HV1.out W1 _ _ _ _ _ HO1.out (by omega)).mono ?_;rintro e W2 hA1;obtain ⟨b2,A2,c2,rfl,hO2,hp2,hN2,hK2,hlt2⟩:=hA1.own [w.heap.size] HN1.out HP1.out HLT1.out;have HB2:=hid ((hK2 _ List.mem_cons_self).trans HB1.out);have HLT2:=hid hlt2;have HO2:=hid hO2;have HN2:=hid hN2;have HP2:=hid hp2;clear hO2 hN2 hp2 hK2 hlt2 hc1 hA1 HB1 HO1;go_wp2_with fail;rw [rounds_succ];have hl2:=HL2.out;have hc2:W2.cell? ⟨w.heap.size,2,none⟩=some (.int .i64 (a2:Int)):=by simp [World.cell?,HB2.out]
 go_wp2_with fail;refine (HV2.out W2 _ _ _ _ _ HO2.out (by omega)).mono ?_;rintro e W3 hA2;obtain ⟨b3,A3,c3,rfl,hO3,hp3,hN3,hK3,hlt3⟩:=hA2.own [w.heap.size] HN2.out HP2.out HLT2.out;have HB3:=hid ((hK3 _ List.mem_cons_self).trans HB2.out);have HLT3:=hid hlt3;have HO3:=hid hO3;have HN3:=hid hN3;have HP3:=hid hp3;clear hO3 hN3 hp3 hK3 hlt3 hc2 hA2 HB2 HO2;go_wp2_with fail;rw [rounds_succ];have hl3:=HL3.out;have hc3:W3.cell? ⟨w.heap.size,3,none⟩=some (.int .i64 (a3:Int)):=by simp [World.cell?,HB3.out]
 go_wp2_with fail;refine (HV3.out W3 _ _ _ _ _ HO3.out (by omega)).mono ?_;rintro e W4 hA3;obtain ⟨b4,A4,c4,rfl,hO4,hp4,hN4,hK4,hlt4⟩:=hA3.own [w.heap.size] HN3.out HP3.out HLT3.out;have HB4:=hid ((hK4 _ List.mem_cons_self).trans HB3.out);have HLT4:=hid hlt4;have HO4:=hid hO4;have HN4:=hid hN4;have HP4:=hid hp4;clear hO4 hN4 hp4 hK4 hlt4 hc3 hA3 HB3 HO3;go_wp2_with fail;rw [rounds_succ];go_wp2_with fail;go_ret;have hl:(toc a0 a1 a2 a3).length=V0.length+V1.length+V2.length+V3.length:=by rw [HT.out];simp only [List.length_append]
 have hO:=HO4.out;rcases HP4.out with h | h
 ·exact ⟨b4,A4,c4,by rw [hl];rfl,by rw [hl,HT.out];exact hO,h.1,HN4.out⟩
 ·refine ⟨w.heap.size,A4,c4,by rw [hl];rfl,?_,Nat.le_refl _,HN4.out⟩;rw [hl,HT.out];rcases hO with ⟨p,q⟩ | ⟨p,_⟩
  ·exact .inl ⟨p,q⟩
  ·rw [h] at p;cases p
theorem file_lens (l0 l1 l2:List Nat):(file1 l0).length=5+(frame 1 l0).length∧(file2 l0 l1).length=5+(frame 1 l0).length+(frame 2 l1).length∧(file3 l0 l1 l2).length=5+(frame 1 l0).length+(frame 2 l1).length+(frame 3 l2).length:=by
 simp only [file3,file2,file1,List.length_append];exact ⟨rfl,rfl,rfl⟩
theorem fileOf_eq (l0 l1 l2 l3:List Nat):fileOf l0 l1 l2 l3=addCrc (hd0++frame 1 l0++frame 2 l1++frame 3 l2++frame 4 l3++frame 5 (toc 5 (5+(frame 1 l0).length) (5+(frame 1 l0).length+(frame 2 l1).length) (5+(frame 1 l0).length+(frame 2 l1).length+(frame 3 l2).length)))++[75,66,83,84]:=by
 obtain ⟨h1,h2,h3⟩:=file_lens l0 l1 l2;unfold fileOf file5;rw [h1,h2,h3];rfl
theorem toc_len {a0 a1 a2 a3:Nat} (h0:a0≤1000000000000) (h1:a1≤1000000000000) (h2:a2≤1000000000000) (h3:a3≤1000000000000):(toc a0 a1 a2 a3).length≤40:=by
 simp only [toc,List.length_append];have:=vint_len a0 (by omega);have:=vint_len a1 (by omega);have:=vint_len a2 (by omega);have:=vint_len a3 (by omega);omega
theorem set_at {W:World} {g k:Nat} {cs:Array Value} {t:TypeId} (v:Value) (h:W.heap[g]? = some (.cells cs t (0,0))):(W.setCell ⟨g,k,none⟩ v).heap[g]? = some (.cells (cs.setIfInBounds k v) t (0,0)):=by
 simp [World.setCell,Array.getElem?_modify,h]
theorem at_freeL {W:World} {g k:Nat} {cs:Array Value} {t:TypeId} (h:W.heap[g]? = some (.cells cs t (0,0))):W.frozen? ⟨g,k,none⟩=false:=by simp [World.frozen?,h]
set_option maxRecDepth 100000 in
set_option maxHeartbeats 1600000 in
theorem Assemble_any (w:World) (b0 b1 b2 b3:Nat) (A0 A1 A2 A3:Option Addr) (n0 n1 n2 n3 c0 c1 c2 c3:Nat) (l0 l1 l2 l3:List Nat) (h0:InB w b0 A0 n0 c0 l0) (h1:InB w b1 A1 n1 c1 l1) (h2:InB w b2 A2 n2 c2 l2) (h3:InB w b3 A3 n3 c3 l3) (hG:Gl w) :
  Calls Tryz.prog 67 #[.agg #[.slice A0 n0 c0,.slice A1 n1 c1,.slice A2 n2 c2,.slice A3 n3 c3]] w (NewB w (fileOf l0 l1 l2 l3)):=by
 have hN:Nw w (((w.alloc (.cells #[.slice A0 n0 c0,.slice A1 n1 c1,.slice A2 n2 c2,.slice A3 n3 c3] 27)).alloc (.cells #[.int .u8 84,.int .u8 83,.int .u8 66,.int .u8 75,.int .u8 1] 5 (5,6))).alloc (.cells #[.int .i64 0,.int .i64 0,.int .i64 0,.int .i64 0,.int .i64 0] 119)):=(((Nw.refl w).alloc' _).alloc' _).alloc' _;have hB:(((w.alloc (.cells #[.slice A0 n0 c0,.slice A1 n1 c1,.slice A2 n2 c2,.slice A3 n3 c3] 27)).alloc (.cells #[.int .u8 84,.int .u8 83,.int .u8 66,.int .u8 75,.int .u8 1] 5 (5,6))).alloc (.cells #[.int .i64 0,.int .i64 0,.int .i64 0,.int .i64 0,.int .i64 0] 119)).heap[w.heap.size+1+1]? = some (.cells #[.int .i64 0,.int .i64 0,.int .i64 0,.int .i64 0,.int .i64 0] 119 (0,0)):=by
  have:=heap_alloc_new ((w.alloc (.cells #[.slice A0 n0 c0,.slice A1 n1 c1,.slice A2 n2 c2,.slice A3 n3 c3] 27)).alloc (.cells #[.int .u8 84,.int .u8 83,.int .u8 66,.int .u8 75,.int .u8 1] 5 (5,6))) (.cells #[.int .i64 0,.int .i64 0,.int .i64 0,.int .i64 0,.int .i64 0] 119);simpa using this
 have hX:(((w.alloc (.cells #[.slice A0 n0 c0,.slice A1 n1 c1,.slice A2 n2 c2,.slice A3 n3 c3] 27)).alloc (.cells #[.int .u8 84,.int .u8 83,.int .u8 66,.int .u8 75,.int .u8 1] 5 (5,6))).alloc (.cells #[.int .i64 0,.int .i64 0,.int .i64 0,.int .i64 0,.int .i64 0] 119)).heap[w.heap.size]? = some (.cells #[.slice A0 n0 c0,.slice A1 n1 c1,.slice A2 n2 c2,.slice A3 n3 c3] 27 (0,0)) :=
  (heap_alloc_old _ _ (by simp;omega)).trans ((heap_alloc_old _ _ (by simp)).trans (heap_alloc_new _ _))
 have hO:Apx (((w.alloc (.cells #[.slice A0 n0 c0,.slice A1 n1 c1,.slice A2 n2 c2,.slice A3 n3 c3] 27)).alloc (.cells #[.int .u8 84,.int .u8 83,.int .u8 66,.int .u8 75,.int .u8 1] 5 (5,6))).alloc (.cells #[.int .i64 0,.int .i64 0,.int .i64 0,.int .i64 0,.int .i64 0] 119)) (w.heap.size+1) 5 (some ⟨w.heap.size+1,0,none⟩) 5 5 (cN .u8 hd0):=by
  refine .inr ⟨.inr ⟨0,rfl,by simp,fun j u hu=>?_⟩,rfl,rfl,by omega⟩;have hh:(((w.alloc (.cells #[.slice A0 n0 c0,.slice A1 n1 c1,.slice A2 n2 c2,.slice A3 n3 c3] 27)).alloc (.cells #[.int .u8 84,.int .u8 83,.int .u8 66,.int .u8 75,.int .u8 1] 5 (5,6))).alloc (.cells #[.int .i64 0,.int .i64 0,.int .i64 0,.int .i64 0,.int .i64 0] 119)).heap[w.heap.size+1]? = some (.cells #[.int .u8 84,.int .u8 83,.int .u8 66,.int .u8 75,.int .u8 1] 5 (5,6)):=by
   refine (heap_alloc_old _ _ (by simp)).trans ?_;have:=heap_alloc_new (w.alloc (.cells #[.slice A0 n0 c0,.slice A1 n1 c1,.slice A2 n2 c2,.slice A3 n3 c3] 27)) (.cells #[.int .u8 84,.int .u8 83,.int .u8 66,.int .u8 75,.int .u8 1] 5 (5,6))
   rwa [World.size_alloc] at this
  have hc:∀ k,World.cell? (((w.alloc (.cells #[.slice A0 n0 c0,.slice A1 n1 c1,.slice A2 n2 c2,.slice A3 n3 c3] 27)).alloc (.cells #[.int .u8 84,.int .u8 83,.int .u8 66,.int .u8 75,.int .u8 1] 5 (5,6))).alloc (.cells #[.int .i64 0,.int .i64 0,.int .i64 0,.int .i64 0,.int .i64 0] 119)) ⟨w.heap.size+1,k,none⟩=(#[.int .u8 84,.int .u8 83,.int .u8 66,.int .u8 75,.int .u8 1]:Array Value)[k]?:=fun k=>by simp only [World.cell?,hh];rfl
  have hcn:(cN .u8 hd0)[j]? = (#[.int .u8 84,.int .u8 83,.int .u8 66,.int .u8 75,.int .u8 1]:Array Value)[j]?:=by
   rw [← Array.getElem?_toList];rfl
  rw [Nat.zero_add];exact (hc j).trans (hcn.symm.trans hu)
 have hLT:∀ k∈[w.heap.size,w.heap.size+1+1],k < (((w.alloc (.cells #[.slice A0 n0 c0,.slice A1 n1 c1,.slice A2 n2 c2,.slice A3 n3 c3] 27)).alloc (.cells #[.int .u8 84,.int .u8 83,.int .u8 66,.int .u8 75,.int .u8 1] 5 (5,6))).alloc (.cells #[.int .i64 0,.int .i64 0,.int .i64 0,.int .i64 0,.int .i64 0] 119)).heap.size:=by
  intro k hk;simp at hk ⊢;omega
 have hP:(w.heap.size≤w.heap.size+1∧w.heap.size+1 ∉ [w.heap.size,w.heap.size+1+1]):=⟨by omega,by simp⟩;have i0:∀ W,(Instr.index 27 (.agg #[.slice A0 n0 c0,.slice A1 n1 c1,.slice A2 n2 c2,.slice A3 n3 c3]) (.int .i64 0)).run Tryz.prog W=.ok (.slice A0 n0 c0) W:=fun _=>by kernel_rfl
 have i1:∀ W,(Instr.index 27 (.agg #[.slice A0 n0 c0,.slice A1 n1 c1,.slice A2 n2 c2,.slice A3 n3 c3]) (.int .i64 1)).run Tryz.prog W=.ok (.slice A1 n1 c1) W:=fun _=>by kernel_rfl
 have i2:∀ W,(Instr.index 27 (.agg #[.slice A0 n0 c0,.slice A1 n1 c1,.slice A2 n2 c2,.slice A3 n3 c3]) (.int .i64 2)).run Tryz.prog W=.ok (.slice A2 n2 c2) W:=fun _=>by kernel_rfl
 have i3:∀ W,(Instr.index 27 (.agg #[.slice A0 n0 c0,.slice A1 n1 c1,.slice A2 n2 c2,.slice A3 n3 c3]) (.int .i64 3)).run Tryz.prog W=.ok (.slice A3 n3 c3) W:=fun _=>by kernel_rfl
 have HF0:=hid (frame_len (id:=1) (l:=l0) (by have:=h0.small;have:=h0.len;omega));have HS0:=hid fun W (hN:Nw w W) b A n c xs hO hn=>AppendSection_any W b A n c xs 1 b0 A0 n0 c0 l0 hO hn (by omega) (h0.rd.nw hN) h0.len (by have:=h0.small;omega) h0.byte (hG.nw hN)
 have HF1:=hid (frame_len (id:=2) (l:=l1) (by have:=h1.small;have:=h1.len;omega));have HS1:=hid fun W (hN:Nw w W) b A n c xs hO hn=>AppendSection_any W b A n c xs 2 b1 A1 n1 c1 l1 hO hn (by omega) (h1.rd.nw hN) h1.len (by have:=h1.small;omega) h1.byte (hG.nw hN)
 have HF2:=hid (frame_len (id:=3) (l:=l2) (by have:=h2.small;have:=h2.len;omega));have HS2:=hid fun W (hN:Nw w W) b A n c xs hO hn=>AppendSection_any W b A n c xs 3 b2 A2 n2 c2 l2 hO hn (by omega) (h2.rd.nw hN) h2.len (by have:=h2.small;omega) h2.byte (hG.nw hN)
 have HF3:=hid (frame_len (id:=4) (l:=l3) (by have:=h3.small;have:=h3.len;omega));have HS3:=hid fun W (hN:Nw w W) b A n c xs hO hn=>AppendSection_any W b A n c xs 4 b3 A3 n3 c3 l3 hO hn (by omega) (h3.rd.nw hN) h3.len (by have:=h3.small;omega) h3.byte (hG.nw hN)
 have kc:(convert 25 25 (.slice (some ⟨w.heap.size+1,0,none⟩) 5 5)).run Tryz.prog ((w.alloc (.cells #[.slice A0 n0 c0,.slice A1 n1 c1,.slice A2 n2 c2,.slice A3 n3 c3] 27)).alloc (.cells #[.int .u8 84,.int .u8 83,.int .u8 66,.int .u8 75,.int .u8 1] 5))=.ok (.slice (some ⟨w.heap.size+1,0,none⟩) 5 5) ((w.alloc (.cells #[.slice A0 n0 c0,.slice A1 n1 c1,.slice A2 n2 c2,.slice A3 n3 c3] 27)).alloc (.cells #[.int .u8 84,.int .u8 83,.int .u8 66,.int .u8 75,.int .u8 1] 5 (5,6))):=by
  have:=Lib.run_convert_bytes_const (P:=Tryz.prog) (w.alloc (.cells #[.slice A0 n0 c0,.slice A1 n1 c1,.slice A2 n2 c2,.slice A3 n3 c3] 27)) 25 5 #[.int .u8 84,.int .u8 83,.int .u8 66,.int .u8 75,.int .u8 1] 5 5 Tryz.underlying25 Tryz.underlying5;rw [World.size_alloc] at this;exact this
 have HE:=hid (fileOf_eq l0 l1 l2 l3);have HBy:=hid (show ∀ x∈hd0++frame 1 l0++frame 2 l1++frame 3 l2++frame 4 l3,x < 256 from lt_append (lt_append (lt_append (lt_append hd0_lt (frame_lt (by omega) h0.byte)) (frame_lt (by omega) h1.byte)) (frame_lt (by omega) h2.byte)) (frame_lt (by omega) h3.byte));obtain ⟨F0,hF0⟩:∃ F,frame 1 l0=F:=⟨_,rfl⟩;rw [hF0] at HF0 HE HBy;simp only [hF0] at HS0;obtain ⟨F1,hF1⟩:∃ F,frame 2 l1=F:=⟨_,rfl⟩;rw [hF1] at HF1 HE HBy;simp only [hF1] at HS1;obtain ⟨F2,hF2⟩:∃ F,frame 3 l2=F:=⟨_,rfl⟩;rw [hF2] at HF2 HE HBy;simp only [hF2] at HS2;obtain ⟨F3,hF3⟩:∃ F,frame 4 l3=F:=⟨_,rfl⟩;rw [hF3] at HF3 HE HBy;simp only [hF3] at HS3;have HG:=hid hG;clear h0 h1 h2 h3 hF0 hF1 hF2 hF3 hG;go_enter Tryz.func67,Tryz.ntmps67
 go_wp2;generalize ((w.alloc (.cells #[.slice A0 n0 c0,.slice A1 n1 c1,.slice A2 n2 c2,.slice A3 n3 c3] 27)).alloc (.cells #[.int .u8 84,.int .u8 83,.int .u8 66,.int .u8 75,.int .u8 1] 5 (5,6))).alloc (.cells #[.int .i64 0,.int .i64 0,.int .i64 0,.int .i64 0,.int .i64 0] 119)=W0 at *;have HN0:=hid hN;have HB0:=hid hB;have HX0:=hid hX;have HO0:=hid hO;have HLT0:=hid hLT;have HP0:=hid (show _∨(some (⟨w.heap.size+1,0,none⟩:Addr))=none from .inl hP);clear hN hB hX hO hLT hP;refine wp_loop_rounds 5 ?_;have hw0:(5:Nat)≤5:=Nat.le_refl _;rw [rounds_succ];have hf:=HF0.out;have ca:W0.cell? ⟨w.heap.size+1+1,0,none⟩=some (.int .i64 0):=by simp [World.cell?,HB0.out]
 have cf:W0.frozen? ⟨w.heap.size+1+1,0,none⟩=false:=at_freeL HB0.out;have hset:Kp (w.heap.size+1+1) (w.heap.size+1+1) W0 (W0.setCell ⟨w.heap.size+1+1,0,none⟩ (.int .i64 (5:Int))):=(Kp.refl _ _ _).setCell' (p:=⟨w.heap.size+1+1,0,none⟩) (.inl rfl) _;have HNs:=hid (HN0.out.setCell' (p:=⟨w.heap.size+1+1,0,none⟩) (show w.heap.size≤w.heap.size+1+1 by omega) (.int .i64 (5:Int)));have HOs:=hid (HO0.out.kp hset (by rcases HP0.out with h | h;exact .inl (fun e=>h.2 (List.mem_cons_of_mem _ (List.mem_singleton.2 e)));exact .inr h));have HBs:=hid (set_at (k:=0) (.int .i64 (5:Int)) HB0.out);have HXs:=hid ((hset.block w.heap.size (HLT0.out _ (by simp)) (by omega) (by omega)).trans HX0.out);have HLs:=hid fun k hk=>Nat.lt_of_lt_of_le (HLT0.out k hk) hset.size
 clear hset HN0 HO0 HB0 HX0 HLT0;go_wp2_with fail;clear ca cf;generalize W0.setCell ⟨w.heap.size+1+1,0,none⟩ (.int .i64 (5:Int))=X0 at *;refine (HS0.out X0 HNs.out _ _ _ _ _ HOs.out (by omega)).mono ?_;rintro e W1 hA;have HA:=hid hA;clear hA;obtain ⟨b1',A1',c1',rfl,hO,hp,hN,hK,hlt⟩:=HA.out.own [w.heap.size,w.heap.size+1+1] HNs.out HP0.out HLs.out;have HB1:=hid ((hK (w.heap.size+1+1) (by simp)).trans HBs.out);have HX1:=hid ((hK w.heap.size (by simp)).trans HXs.out);have HLT1:=hid hlt;have HN1:=hid hN;have HP1:=hid hp;obtain ⟨M1,hM⟩:∃ M,5+F0.length=M:=⟨_,rfl⟩;have hM1:M1≤100000025:=by omega
 have HM1:=hid hM;rw [hM] at hO ⊢;have HO1:=hid (show Apx W1 b1' 5 A1' M1 c1' (cN .u8 (hd0++F0)) from .inl hO);clear hO hN hp hK hlt hM HA;go_wp2_with fail;rw [rounds_succ];have hf:=HF1.out;have ca:W1.cell? ⟨w.heap.size+1+1,1,none⟩=some (.int .i64 0):=by simp [World.cell?,HB1.out]
 have cf:W1.frozen? ⟨w.heap.size+1+1,1,none⟩=false:=at_freeL HB1.out;have hset:Kp (w.heap.size+1+1) (w.heap.size+1+1) W1 (W1.setCell ⟨w.heap.size+1+1,1,none⟩ (.int .i64 (M1:Int))):=(Kp.refl _ _ _).setCell' (p:=⟨w.heap.size+1+1,1,none⟩) (.inl rfl) _;have HNs:=hid (HN1.out.setCell' (p:=⟨w.heap.size+1+1,1,none⟩) (show w.heap.size≤w.heap.size+1+1 by omega) (.int .i64 (M1:Int)));have HOs:=hid (HO1.out.kp hset (by rcases HP1.out with h | h;exact .inl (fun e=>h.2 (List.mem_cons_of_mem _ (List.mem_singleton.2 e)));exact .inr h));have HBs:=hid (set_at (k:=1) (.int .i64 (M1:Int)) HB1.out);have HXs:=hid ((hset.block w.heap.size (HLT1.out _ (by simp)) (by omega) (by omega)).trans HX1.out);have HLs:=hid fun k hk=>Nat.lt_of_lt_of_le (HLT1.out k hk) hset.size
 clear hset HN1 HO1 HB1 HX1 HLT1;go_wp2_with fail;clear ca cf;generalize W1.setCell ⟨w.heap.size+1+1,1,none⟩ (.int .i64 (M1:Int))=X1 at *;refine (HS1.out X1 HNs.out _ _ _ _ _ HOs.out (by omega)).mono ?_;rintro e W2 hA;have HA:=hid hA;clear hA;obtain ⟨b2',A2',c2',rfl,hO,hp,hN,hK,hlt⟩:=HA.out.own [w.heap.size,w.heap.size+1+1] HNs.out HP1.out HLs.out;have HB2:=hid ((hK (w.heap.size+1+1) (by simp)).trans HBs.out);have HX2:=hid ((hK w.heap.size (by simp)).trans HXs.out);have HLT2:=hid hlt;have HN2:=hid hN;have HP2:=hid hp;obtain ⟨M2,hM⟩:∃ M,M1+F1.length=M:=⟨_,rfl⟩;have hM2:M2≤200000045:=by omega
 have HM2:=hid hM;rw [hM] at hO ⊢;have HO2:=hid (show Apx W2 b2' 5 A2' M2 c2' (cN .u8 (hd0++F0++F1)) from .inl hO);clear hO hN hp hK hlt hM HA;go_wp2_with fail;rw [rounds_succ];have hf:=HF2.out;have ca:W2.cell? ⟨w.heap.size+1+1,2,none⟩=some (.int .i64 0):=by simp [World.cell?,HB2.out]
 have cf:W2.frozen? ⟨w.heap.size+1+1,2,none⟩=false:=at_freeL HB2.out;have hset:Kp (w.heap.size+1+1) (w.heap.size+1+1) W2 (W2.setCell ⟨w.heap.size+1+1,2,none⟩ (.int .i64 (M2:Int))):=(Kp.refl _ _ _).setCell' (p:=⟨w.heap.size+1+1,2,none⟩) (.inl rfl) _;have HNs:=hid (HN2.out.setCell' (p:=⟨w.heap.size+1+1,2,none⟩) (show w.heap.size≤w.heap.size+1+1 by omega) (.int .i64 (M2:Int)));have HOs:=hid (HO2.out.kp hset (by rcases HP2.out with h | h;exact .inl (fun e=>h.2 (List.mem_cons_of_mem _ (List.mem_singleton.2 e)));exact .inr h));have HBs:=hid (set_at (k:=2) (.int .i64 (M2:Int)) HB2.out);have HXs:=hid ((hset.block w.heap.size (HLT2.out _ (by simp)) (by omega) (by omega)).trans HX2.out);have HLs:=hid fun k hk=>Nat.lt_of_lt_of_le (HLT2.out k hk) hset.size
 clear hset HN2 HO2 HB2 HX2 HLT2;go_wp2_with fail;clear ca cf;generalize W2.setCell ⟨w.heap.size+1+1,2,none⟩ (.int .i64 (M2:Int))=X2 at *;refine (HS2.out X2 HNs.out _ _ _ _ _ HOs.out (by omega)).mono ?_;rintro e W3 hA;have HA:=hid hA;clear hA;obtain ⟨b3',A3',c3',rfl,hO,hp,hN,hK,hlt⟩:=HA.out.own [w.heap.size,w.heap.size+1+1] HNs.out HP2.out HLs.out;have HB3:=hid ((hK (w.heap.size+1+1) (by simp)).trans HBs.out);have HX3:=hid ((hK w.heap.size (by simp)).trans HXs.out);have HLT3:=hid hlt;have HN3:=hid hN;have HP3:=hid hp;obtain ⟨M3,hM⟩:∃ M,M2+F2.length=M:=⟨_,rfl⟩;have hM3:M3≤300000065:=by omega
 have HM3:=hid hM;rw [hM] at hO ⊢;have HO3:=hid (show Apx W3 b3' 5 A3' M3 c3' (cN .u8 (hd0++F0++F1++F2)) from .inl hO);clear hO hN hp hK hlt hM HA;go_wp2_with fail;rw [rounds_succ];have hf:=HF3.out;have ca:W3.cell? ⟨w.heap.size+1+1,3,none⟩=some (.int .i64 0):=by simp [World.cell?,HB3.out]
 have cf:W3.frozen? ⟨w.heap.size+1+1,3,none⟩=false:=at_freeL HB3.out;have hset:Kp (w.heap.size+1+1) (w.heap.size+1+1) W3 (W3.setCell ⟨w.heap.size+1+1,3,none⟩ (.int .i64 (M3:Int))):=(Kp.refl _ _ _).setCell' (p:=⟨w.heap.size+1+1,3,none⟩) (.inl rfl) _;have HNs:=hid (HN3.out.setCell' (p:=⟨w.heap.size+1+1,3,none⟩) (show w.heap.size≤w.heap.size+1+1 by omega) (.int .i64 (M3:Int)));have HOs:=hid (HO3.out.kp hset (by rcases HP3.out with h | h;exact .inl (fun e=>h.2 (List.mem_cons_of_mem _ (List.mem_singleton.2 e)));exact .inr h));have HBs:=hid (set_at (k:=3) (.int .i64 (M3:Int)) HB3.out);have HXs:=hid ((hset.block w.heap.size (HLT3.out _ (by simp)) (by omega) (by omega)).trans HX3.out);have HLs:=hid fun k hk=>Nat.lt_of_lt_of_le (HLT3.out k hk) hset.size
 clear hset HN3 HO3 HB3 HX3 HLT3;go_wp2_with fail;clear ca cf;generalize W3.setCell ⟨w.heap.size+1+1,3,none⟩ (.int .i64 (M3:Int))=X3 at *;refine (HS3.out X3 HNs.out _ _ _ _ _ HOs.out (by omega)).mono ?_;rintro e W4 hA;have HA:=hid hA;clear hA;obtain ⟨b4',A4',c4',rfl,hO,hp,hN,hK,hlt⟩:=HA.out.own [w.heap.size,w.heap.size+1+1] HNs.out HP3.out HLs.out;have HB4:=hid ((hK (w.heap.size+1+1) (by simp)).trans HBs.out);have HX4:=hid ((hK w.heap.size (by simp)).trans HXs.out);have HLT4:=hid hlt;have HN4:=hid hN;have HP4:=hid hp;obtain ⟨M4,hM⟩:∃ M,M3+F3.length=M:=⟨_,rfl⟩;have hM4:M4≤400000085:=by omega
 have HM4:=hid hM;rw [hM] at hO ⊢;have HO4:=hid (show Apx W4 b4' 5 A4' M4 c4' (cN .u8 (hd0++F0++F1++F2++F3)) from .inl hO);clear hO hN hp hK hlt hM HA;go_wp2_with fail;rw [rounds_succ];have z0:W4.cell? ⟨w.heap.size+1+1,0,none⟩=some (.int .i64 5):=by simp [World.cell?,HB4.out]
 have z1:W4.cell? ⟨w.heap.size+1+1,1,none⟩=some (.int .i64 (M1:Int)):=by simp [World.cell?,HB4.out]
 have z2:W4.cell? ⟨w.heap.size+1+1,2,none⟩=some (.int .i64 (M2:Int)):=by simp [World.cell?,HB4.out]
 have z3:W4.cell? ⟨w.heap.size+1+1,3,none⟩=some (.int .i64 (M3:Int)):=by simp [World.cell?,HB4.out]
 have z4:W4.cell? ⟨w.heap.size+1+1,4,none⟩=some (.int .i64 0):=by simp [World.cell?,HB4.out]
 have HC:Hid (Calls Tryz.prog 121 #[.agg #[.int .i64 5,.int .i64 (M1:Int),.int .i64 (M2:Int),.int .i64 (M3:Int),.int .i64 0]] W4 (NewB W4 (toc 5 M1 M2 M3))):=hid (contents_any W4 5 M1 M2 M3 0 (by omega) (by omega) (by omega) (by omega));have hTl:=toc_len (a0:=5) (a1:=M1) (a2:=M2) (a3:=M3) (by omega) (by omega) (by omega) (by omega);have HTb:=hid (toc_lt 5 M1 M2 M3);have HE2:Hid (fileOf l0 l1 l2 l3=addCrc (hd0++F0++F1++F2++F3++frame 5 (toc 5 M1 M2 M3))++[75,66,83,84]):=by
  have h:=HE.out;have e1:=HM1.out;have e2:=HM2.out;have e3:=HM3.out;rw [← e1] at e2;rw [← e2] at e3;rw [e1] at h;rw [e1] at e2 e3;rw [e2] at h;rw [e2] at e3;rw [e3] at h;exact hid h
 obtain ⟨T,hT⟩:∃ T,toc 5 M1 M2 M3=T:=⟨_,rfl⟩;rw [hT] at HC hTl HTb HE2;clear hT HE HM1 HM2 HM3 HM4;go_wp2_with fail;refine HC.out.mono ?_;rintro e W5 ⟨b5,A5,c5,rfl,hO5,hb5,hN5⟩;clear z0 z1 z2 z3 z4;have HO5:=hid hO5.rd;have HOk:=hid (HO4.out.nw hN5);have HNk:=hid (HN4.out.trans hN5);have HLk:=hid fun k hk=>Nat.lt_of_lt_of_le (HLT4.out k hk) hN5.size
 have hFl:=frame_len (id:=5) (l:=T) (by omega);clear hO5;have HS5:=hid (AppendSection_any W5 _ _ _ _ _ 5 b5 A5 T.length c5 T HOk.out (by omega) (by omega) HO5.out rfl (by omega) HTb.out (HG.out.nw HNk.out));have HBy5:=hid (lt_append HBy.out (frame_lt (id:=5) (by omega) HTb.out));obtain ⟨F5,hF5⟩:∃ F,frame 5 T=F:=⟨_,rfl⟩;rw [hF5] at HS5 hFl HE2 HBy5;clear hF5;go_wp2_with fail;refine HS5.out.mono ?_;rintro e W6 hA;obtain ⟨b6,A6,c6,rfl,hO,hp,hN,_,_⟩:=hA.own [w.heap.size,w.heap.size+1+1] HNk.out HP4.out HLk.out;clear hA;obtain ⟨M6,hM6⟩:∃ M,M4+F5.length=M:=⟨_,rfl⟩;have hM6l:M6≤1000000000:=by omega
 have hlen:(hd0++F0++F1++F2++F3++F5).length=M6:=by
  have:=hO.len;rw [List.length_map] at this;omega
 rw [hM6] at hO ⊢;have HCA:=hid (CrcAppend_any W6 _ _ M6 _ _ hlen.symm (by omega) hO.rd hO.nilc HBy5.out (HG.out.nw hN));have hCl:(addCrc (hd0++F0++F1++F2++F3++F5)).length=M6+4:=by rw [addCrc_length,hlen]
 have HN6:=hid hN;obtain ⟨Z,hZ⟩:∃ Z,addCrc (hd0++F0++F1++F2++F3++F5)=Z:=⟨_,rfl⟩;rw [hZ] at HCA hCl HE2;clear hZ hO hp hN hM6 hlen;go_wp2_with fail;refine HCA.out.mono ?_;rintro e W7 ⟨b7,A7,c7,rfl,hO7,hb7,hN7⟩;obtain ⟨ZL,hZL⟩:∃ L,Z.length=L:=⟨_,rfl⟩;rw [hZL] at hO7 ⊢;have hZl:ZL≤1000000004:=by omega
 have HZL:=hid hZL;have HO7:=hid hO7;have HN7:=hid (HN6.out.trans hN7);have hb7':w.heap.size≤b7:=by have:=HN6.out.size;omega
 clear hZL hCl hO7 hN7;go_wp2_with (at_builtin;refine wpList_appS E_u8 Tryz.underlying9 rfl (.tmp 32) (.const (.string ⟨#[75,66,83,84]⟩)) rfl rfl HO7.out rfl (by show ZL+4≤_;omega) ?_;intro b8 A8 c8 W8 q1 q2 q3 q4;have Q1:=hid q1;have Q2:=hid q2;have Q3:=hid q3;have Q4:=hid q4;clear q1 q2 q3 q4)
 go_ret;have hl:(fileOf l0 l1 l2 l3).length=ZL+4:=by rw [HE2.out,List.length_append,HZL.out];rfl
 have hN8:Nw w W8:=Kp.nw HN7.out Q3.out hb7' hb7';have h:Ow W8 b8 5 1 A8 (ZL+4) c8 (cN .u8 (fileOf l0 l1 l2 l3)):=by
  rw [HE2.out];have h:=Q1.out;unfold cN at h ⊢;rw [List.map_append];exact h
 rcases Q2.out with ⟨h',_⟩ | h' | h'
 ·exact ⟨b8,A8,c8,by rw [hl];rfl,by rw [hl];exact h,by omega,hN8⟩
 ·exact ⟨b8,A8,c8,by rw [hl];rfl,by rw [hl];exact h,by have:=HN7.out.size;omega,hN8⟩
 ·refine ⟨w.heap.size,A8,c8,by rw [hl];rfl,?_,Nat.le_refl _,hN8⟩;rw [hl];rcases h with ⟨p,q⟩ | ⟨p,_⟩
  ·exact .inl ⟨p,q⟩
  ·rw [h'] at p;cases p
end
section
open Go Go.RowKit Go.Lib Go.Sort Go.Shelf
attribute [local go_sem] Oper.semAt_some
def Kty (e:TypeId) (W W':World):Prop:=∀ (k:Nat) (o:Obj),W.heap[k]? = some o→(∀ cs fr,o≠.cells cs e fr)→W'.heap[k]? = some o
theorem Nw.kty {W W':World} (h:Nw W W') (e:TypeId):Kty e W W':=fun k _ ho _=>(h.block k (lt_of_block ho)).trans ho
theorem Kp.kty {g:Nat} {e:TypeId} {W W':World} (h:Kp g g W W') {cs:Array Value} {fr:Nat × Nat} (hg:W.heap[g]? = some (.cells cs e fr)):Kty e W W':=fun k o ho hne=>by
 refine (h.block k (lt_of_block ho) ?_ ?_).trans ho
 ·rintro rfl;rw [hg] at ho;cases ho;exact hne _ _ rfl
 ·rintro rfl;rw [hg] at ho;cases ho;exact hne _ _ rfl
theorem Kty.get {e e':TypeId} {W W':World} (h:Kty e W W') {k:Nat} {cs:Array Value} {fr:Nat × Nat} (hk:W.heap[k]? = some (.cells cs e' fr)) (hne:e'≠e):W'.heap[k]? = some (.cells cs e' fr) :=
 h k _ hk (fun _ _ q=>by cases q;exact hne rfl)
def KeepC (A B:World):Prop:=(∀ (k:Nat) (cs:Array Value) (e:TypeId) (fr:Nat × Nat),A.heap[k]? = some (.cells cs e fr)→B.heap[k]? = some (.cells cs e fr))∧A.heap.size≤B.heap.size
theorem KeepC.nw {A B:World} (h:Nw A B):KeepC A B:=⟨fun k _ _ _ hk=>(h.block k (lt_of_block hk)).trans hk,h.size⟩
theorem KeepC.turn {A B:World} {g:Nat} (h:Kp g g A B) {o:Obj} (ho:A.heap[g]? = some o) (hc:o.isCells=false):KeepC A B:=by
 refine ⟨fun k cs e fr hk=>?_,h.size⟩;refine (h.block k (lt_of_block hk) ?_ ?_).trans hk
 ·rintro rfl;rw [ho] at hk;cases hk;cases hc
 ·rintro rfl;rw [ho] at hk;cases hk;cases hc
theorem Ow.keepT {w w':World} {b n c:Nat} {e:TypeId} {size:Nat} {A:Option Addr} {xs:List Value} (h:Ow w b e size A n c xs) (hk:∀ (k:Nat) (cs:Array Value) (fr:Nat × Nat),w.heap[k]? = some (.cells cs e fr)→k=b→w'.heap[k]? = some (.cells cs e fr)) (hs:w.heap.size≤w'.heap.size):Ow w' b e size A n c xs:=by
 rcases h with ⟨rfl,rfl,rfl,rfl⟩ | ⟨rfl,hlt,h⟩
 ·exact Ow.nil _ _ _ _
 ·refine .inr ⟨rfl,Nat.lt_of_lt_of_le hlt hs,h.1,?_⟩;rcases h.2 with ⟨hv,_⟩ | ⟨g0,cap,cur,hv,hbg,hh,r⟩
  ·cases hv
  ·have hg:b=g0:=by injection hv with x;injection x with x;injection x
   subst hg;exact .inr ⟨b,cap,cur,hv,hbg,hk _ _ _ hh rfl,r⟩
theorem Ow.keepC {w w':World} {b n c:Nat} {e:TypeId} {size:Nat} {A:Option Addr} {xs:List Value} (h:Ow w b e size A n c xs) (hk:KeepC w w'):Ow w' b e size A n c xs:=h.keepT (fun k cs fr hh _=>hk.1 k cs e fr hh) hk.2
theorem Ow.kty {w w':World} {b n c:Nat} {e e':TypeId} {size:Nat} {A:Option Addr} {xs:List Value} (h:Ow w b e size A n c xs) (hk:Kty e' w w') (hne:e≠e') (hs:w.heap.size≤w'.heap.size):Ow w' b e size A n c xs:=h.keepT (fun _ _ _ hh _=>hk.get hh hne) hs
abbrev RowP:=Nat × Option Addr × Nat
def RowsAt (l:List Ser) (ls:Nat→List Nat) (R:Nat→RowP) (cs:Array Value):Prop :=
 cs.size=l.length*2∧∀ j (h:j < l.length),cs[j*2]? = some (.slice l[j].al l[j].labs.length l[j].cl)∧cs[j*2+1]? = some (.slice (R j).2.1 (ls j).length (R j).2.2)
structure RowsOw (w W:World) (n:Nat) (ls:Nat→List Nat) (R:Nat→RowP):Prop where
 ow:∀ j,j < n→Ow W (R j).1 3 1 (R j).2.1 (ls j).length (R j).2.2 (cN .i64 (ls j))∧((R j).2.1=none∨w.heap.size≤(R j).1)
 ne:∀ j k,j < n→k < n→j≠k→(R j).2.1=none∨(R k).2.1=none∨(R j).1≠(R k).1
def DatI (w W:World) (D:Nat) (dat:List Nat):Prop :=
 ∃ (bd:Nat) (Ad:Option Addr) (cd:Nat),W.heap[D]? = some (.cells #[.slice Ad dat.length cd] 25 (0,0))∧Ow W bd 5 1 Ad dat.length cd (cN .u8 dat)∧(Ad=none∨w.heap.size≤bd)
def RowI (w W:World) (LR:Nat) (l:List Ser) (ls:Nat→List Nat):Prop :=
 ∃ (R:Nat→RowP) (cs:Array Value),W.heap[LR]? = some (.cells cs 88 (0,0))∧RowsAt l ls R cs∧RowsOw w W l.length ls R
structure SecI (w W:World) (D LB LR:Nat) (l:List Ser) (dat:List Nat) (ls:Nat→List Nat):Prop where
 nw:Nw w W
 hD:w.heap.size≤D
 hLB:w.heap.size≤LB
 hLR:w.heap.size≤LR
 box:W.heap[LB]? = some (.cells #[.slice (some ⟨LR,0,none⟩) l.length l.length] 85 (0,0))
 dat:DatI w W D dat
 row:RowI w W LR l ls
section
variable {w W W':World} {D LB LR:Nat} {l:List Ser} {dat:List Nat} {ls:Nat→List Nat}
theorem DatI.keep (h:DatI w W D dat) (hk:KeepC W W'):DatI w W' D dat:=by
 obtain ⟨bd,Ad,cd,h1,h2,h3⟩:=h;exact ⟨bd,Ad,cd,hk.1 _ _ _ _ h1,h2.keepC hk,h3⟩
theorem RowI.keep (h:RowI w W LR l ls) (hk:KeepC W W'):RowI w W' LR l ls:=by
 obtain ⟨R,cs,h1,h2,h3⟩:=h;exact ⟨R,cs,hk.1 _ _ _ _ h1,h2,fun j hj=>⟨(h3.ow j hj).1.keepC hk,(h3.ow j hj).2⟩,h3.ne⟩
theorem SecI.keep (h:SecI w W D LB LR l dat ls) (hk:KeepC W W') (hN:Nw w W'):SecI w W' D LB LR l dat ls :=
 ⟨hN,h.hD,h.hLB,h.hLR,hk.1 _ _ _ _ h.box,h.dat.keep hk,h.row.keep hk⟩
theorem RowI.kty (h:RowI w W LR l ls) {e:TypeId} (hk:Kty e W W') (h1:88≠e) (h2:3≠e) (hs:W.heap.size≤W'.heap.size):RowI w W' LR l ls:=by
 obtain ⟨R,cs,q1,q2,q3⟩:=h;exact ⟨R,cs,hk.get q1 h1,q2,fun j hj=>⟨(q3.ow j hj).1.kty hk h2 hs,(q3.ow j hj).2⟩,q3.ne⟩
theorem SecI.data (h:SecI w W D LB LR l dat ls) {bd b' cd c':Nat} {Ad A':Option Addr} {ch:List Nat} {W1:World}
  (hO:Ow W bd 5 1 Ad dat.length cd (cN .u8 dat)) (hb:Ad=none∨w.heap.size≤bd) (hD:W.heap[D]? = some (.cells #[.slice Ad dat.length cd] 25 (0,0)))
  (r1:Ow W1 b' 5 1 A' (dat.length+ch.length) c' (cN .u8 dat++cN .u8 ch)) (r2:b'=bd∨W.heap.size≤b') (r3:Kp bd bd W W1) (r4:Ad=none→Nw W W1∧(W.heap.size≤b'∨A'=none)) :
  SecI w (W1.setCell ⟨D,0,none⟩ (.slice A' (dat.length+ch.length) c')) D LB LR l (dat++ch) ls:=by
 have hs:=h.nw.size;have hs1:=r3.size;have hkt:Kty 5 W W1:=by
  cases Ad with
  | none=>exact (r4 rfl).1.kty _
  | some a =>
   obtain ⟨cs,fr,hbk⟩:=hO.blk;exact r3.kty hbk
 have hN1:Nw w W1:=by
  by_cases hA:Ad=none
  ·exact h.nw.trans (r4 hA).1
  ·have:=hb.resolve_left hA;exact Kp.nw h.nw r3 this this
 have hD1:W1.heap[D]? = _:=hkt.get hD (by decide);have hKD:Kp D D W1 (W1.setCell ⟨D,0,none⟩ (.slice A' (dat.length+ch.length) c')):=(Kp.refl D D W1).setCell' (p:=⟨D,0,none⟩) (.inl rfl) _;have hkt2:Kty 25 W1 (W1.setCell ⟨D,0,none⟩ (.slice A' (dat.length+ch.length) c')):=hKD.kty hD1;have e:dat.length+ch.length=(dat++ch).length:=by rw [List.length_append]
 refine ⟨hN1.setCell' h.hD _,h.hD,h.hLB,h.hLR,hkt2.get (hkt.get h.box (by decide)) (by decide),⟨b',A',c',?_,?_,?_⟩,(h.row.kty hkt (by decide) (by decide) hs1).kty hkt2 (by decide) (by decide) hKD.size⟩
 ·rw [← e];have:=box_set (v:=.slice A' (dat.length+ch.length) c') hD1;exact this
 ·rw [← e];unfold cN;rw [List.map_append];exact r1.kty hkt2 (by decide) hKD.size
 ·by_cases hA:Ad=none
  ·rcases (r4 hA).2 with q | q
   ·right;omega
   ·exact .inl q
  ·right
   have:=hb.resolve_left hA;rcases r2 with rfl | q<;>omega
theorem SecI.rowStep (h:SecI w W D LB LR l dat ls) {R:Nat→RowP} {cs:Array Value} (h1:W.heap[LR]? = some (.cells cs 88 (0,0))) (h2:RowsAt l ls R cs) (h3:RowsOw w W l.length ls R)
  {i m b' c':Nat} {A':Option Addr} {W1:World} (hi:i < l.length) (r1:Ow W1 b' 3 1 A' ((ls i).length+1) c' (cN .i64 (ls i++[m]))) (r2:b'=(R i).1∧(R i).2.1≠none∨W.heap.size≤b') (r3:Kp (R i).1 (R i).1 W W1) (r4:(R i).2.1=none→Nw W W1) :
  SecI w (W1.setCell ⟨LR,i*2+1,none⟩ (.slice A' ((ls i).length+1) c')) D LB LR l dat (fun j=>if j=i then ls j++[m] else ls j):=by
 have hs:=h.nw.size;have hs1:=r3.size;have hb:=(h3.ow i hi).2;have hOi:=(h3.ow i hi).1;have hkt:Kty 3 W W1:=by
  by_cases hA:(R i).2.1=none
  ·exact (r4 hA).kty _
  ·obtain ⟨a,ha⟩:=Option.ne_none_iff_exists'.1 hA;rw [ha] at hOi;obtain ⟨cs',fr,hbk⟩:=hOi.blk;exact r3.kty hbk
 have hN1:Nw w W1:=by
  by_cases hA:(R i).2.1=none
  ·exact h.nw.trans (r4 hA)
  ·have:=hb.resolve_left hA;exact Kp.nw h.nw r3 this this
 have hR1:=hkt.get h1 (by decide);have hKD:Kp LR LR W1 (W1.setCell ⟨LR,i*2+1,none⟩ (.slice A' ((ls i).length+1) c')):=(Kp.refl LR LR W1).setCell' (p:=⟨LR,i*2+1,none⟩) (.inl rfl) _;have hkt2:Kty 88 W1 (W1.setCell ⟨LR,i*2+1,none⟩ (.slice A' ((ls i).length+1) c')):=hKD.kty hR1;have hd:DatI w (W1.setCell ⟨LR,i*2+1,none⟩ (.slice A' ((ls i).length+1) c')) D dat:=by
  obtain ⟨bd,Ad,cd,q1,q2,q3⟩:=h.dat;exact ⟨bd,Ad,cd,hkt2.get (hkt.get q1 (by decide)) (by decide),(q2.kty hkt (by decide) hs1).kty hkt2 (by decide) hKD.size,q3⟩
 refine ⟨hN1.setCell' h.hLR _,h.hD,h.hLB,h.hLR,hkt2.get (hkt.get h.box (by decide)) (by decide),hd,?_⟩;refine ⟨fun j=>if j=i then (b',A',c') else R j,cs.setIfInBounds (i*2+1) (.slice A' ((ls i).length+1) c'),?_,⟨by rw [Array.size_setIfInBounds];exact h2.1,fun j hj=>?_⟩,⟨fun j hj=>?_,fun j k hj hk hjk=>?_⟩⟩
 ·exact set_at _ hR1
 ·have hj':=h2.2 j hj;have h2s:=h2.1;by_cases hji:j=i
  ·subst hji;refine ⟨?_,?_⟩
   ·rw [Array.getElem?_setIfInBounds_ne (by omega)];exact hj'.1
   ·rw [Array.getElem?_setIfInBounds_self_of_lt (by omega)];simp
  ·refine ⟨?_,?_⟩
   ·rw [Array.getElem?_setIfInBounds_ne (by omega)];exact hj'.1
   ·rw [Array.getElem?_setIfInBounds_ne (by omega)];simp [hji,hj'.2]
 ·by_cases hji:j=i
  ·subst hji;simp only [if_true];refine ⟨?_,?_⟩
   ·rw [List.length_append,List.length_singleton];exact r1.kty hkt2 (by decide) hKD.size
   ·rcases r2 with ⟨rfl,hA⟩ | q
    ·exact .inr (hb.resolve_left hA)
    ·right;omega
  ·simp only [hji,if_false];refine ⟨?_,(h3.ow j hj).2⟩;refine Ow.kty ?_ hkt2 (by decide) hKD.size;by_cases hA:(R i).2.1=none
   ·exact (h3.ow j hj).1.nw (r4 hA)
   ·refine (h3.ow j hj).1.kpo r3 ?_;rcases h3.ne j i hj hi hji with q | q | q
    ·exact .inr q
    ·exact (hA q).elim
    ·exact .inl q
 ·have fresh:∀ k,k < l.length→k≠i→(R k).2.1=none∨A'=none∨(R k).1≠b':=fun k hk hki=>by
   by_cases hRk:(R k).2.1=none
   ·exact .inl hRk
   ·right;right
    rcases r2 with ⟨rfl,hA⟩ | q
    ·rcases h3.ne k i hk hi hki with q | q | q
     ·exact (hRk q).elim
     ·exact (hA q).elim
     ·exact q
    ·have:=(h3.ow k hk).1.lt_some hRk;omega
  by_cases hji:j=i
  ·subst hji;have hki:k≠j:=Ne.symm hjk;simp only [if_true,hki,if_false];rcases fresh k hk hki with q | q | q
   ·exact .inr (.inl q)
   ·exact .inl q
   ·exact .inr (.inr (Ne.symm q))
  ·by_cases hki:k=i
   ·subst hki;simp only [if_true,hji,if_false];exact fresh j hj hji
   ·simp only [hji,hki,if_false];exact h3.ne j k hj hk hjk
end
theorem app_kty {W W1:World} {bd n cd:Nat} {e:TypeId} {size:Nat} {Ad:Option Addr} {xs:List Value} (hO:Ow W bd e size Ad n cd xs) (r3:Kp bd bd W W1) (r4:Ad=none→Nw W W1):Kty e W W1:=by
 cases Ad with
 | none=>exact (r4 rfl).kty _
 | some a =>
  obtain ⟨cs,fr,hbk⟩:=hO.blk;exact r3.kty hbk
theorem Kty.toL {T:List TypeId} {e:TypeId} {W W':World} (h:Kty e W W') (hs:W.heap.size≤W'.heap.size) (he:e∈T):KtyL T W W':=⟨fun k o ho hne=>h k o ho (fun cs fr=>hne cs e fr he),hs⟩
def tyW:List TypeId:=[5,25,3,88]
theorem SecI.data2 {w W:World} {D LB LR:Nat} {l:List Ser} {dat:List Nat} {ls:Nat→List Nat} (h:SecI w W D LB LR l dat ls) {bd b' cd c' m:Nat} {Ad A':Option Addr} {ch:List Nat} {W1:World} (hm:ch.length=m)
  (hO:Ow W bd 5 1 Ad dat.length cd (cN .u8 dat)) (hb:Ad=none∨w.heap.size≤bd) (hD:W.heap[D]? = some (.cells #[.slice Ad dat.length cd] 25 (0,0)))
  (r1:Ow W1 b' 5 1 A' (dat.length+m) c' (cN .u8 dat++cN .u8 ch)) (r2:b'=bd∨W.heap.size≤b') (r3:Kp bd bd W W1) (r4:Ad=none→Nw W W1∧(W.heap.size≤b'∨A'=none)) :
  W1.frozen? ⟨D,0,none⟩=false∧W1.cell? ⟨D,0,none⟩=some (.slice Ad dat.length cd)∧Hid (SecI w (W1.setCell ⟨D,0,none⟩ (.slice A' (dat.length+m) c')) D LB LR l (dat++ch) ls)∧Hid (KtyL tyW W (W1.setCell ⟨D,0,none⟩ (.slice A' (dat.length+m) c'))):=by
 have e1:=(app_kty hO r3 (fun e=>(r4 e).1)).get hD (by decide);subst hm;exact ⟨at_free e1,cell_at (k:=0) e1,hid (h.data hO hb hD r1 r2 r3 r4),hid (((app_kty hO r3 (fun e=>(r4 e).1)).toL r3.size (by decide)).trans (KtyL.set (p:=⟨D,0,none⟩) e1 (by decide)))⟩
set_option maxRecDepth 100000 in
set_option maxHeartbeats 2000000 in
theorem add_any (w W:World) (D LB LR:Nat) (l:List Ser) (dat:List Nat) (ls:Nat→List Nat) (i:Nat) (ch:List Nat) (xb:Nat) (xA:Option Addr) (xc:Nat) (hi:i < l.length) (h:SecI w W D LB LR l dat ls) (hx:Rd W xb xA (cN .u8 ch)) (hxn:xA=none→xc=0) (hs:dat.length≤100000000) (hc:ch.length≤10000) (hli:(ls i).length≤10000) :
  Calls Tryz.prog 53 #[.int .i64 (i:Int),.slice xA ch.length xc,.pointer (some ⟨D,0,none⟩),.pointer (some ⟨LB,0,none⟩)] W fun e W'=>e=.returned (.tuple #[])∧SecI w W' D LB LR l (dat++ch) (fun j=>if j=i then ls j++[ch.length] else ls j)∧KtyL tyW W W':=by
 obtain ⟨i0,hi0,hz0,hz1,hz2⟩:=E_int.info;obtain ⟨bd,Ad,cd,hD,hO,hb⟩:=h.dat;have H:=hid h;have HO:=hid hO;have HD:=hid hD;have HX:=hid hx;obtain ⟨m,hm⟩:∃ m,ch.length=m:=⟨_,rfl⟩;have d0:W.cell? ⟨D,0,none⟩=some (.slice Ad dat.length cd):=cell_at (k:=0) hD;have HM:=hid hm;have HXL:Hid ((cN .u8 ch).length=m*1):=hid (by rw [List.length_map,Nat.mul_one];exact hm);rw [hm] at hc ⊢;clear h hO hD hx hm;go_enter Tryz.func53,Tryz.ntmps53
 go_wp2_with (first
  | (at_builtin;refine wpList_app E_u8 rfl (.tmp 6) (.tmp 7) rfl rfl HO.out rfl HX.out HXL.out hxn (u8_lit _) (by simp only [maxLen];omega) (by omega) ?_;intro b1 A1 c1 W1 r1 r2 r3 r4;obtain ⟨f1,g1,H2,HT2⟩:=SecI.data2 H.out HM.out HO.out hb HD.out r1 r2 r3 r4;clear r1 r2 r3 r4)
  | fail)
 generalize W1.setCell ⟨D,0,none⟩ (.slice A1 (dat.length+m) c1)=W2 at *;obtain ⟨R,cs,g1,g2,g3⟩:=H2.out.row;have hri:=(g3.ow i hi).1;have HSt:=hid fun (b' c':Nat) (A':Option Addr) (W3:World) r1 r2 r3 r4=>H2.out.rowStep (m:=m) (b':=b') (c':=c') (A':=A') (W1:=W3) g1 g2 g3 hi r1 r2 r3 r4
 have HG1:=hid g1;obtain ⟨⟨rb,rA,rc⟩,hR⟩:∃ r,R i=r:=⟨_,rfl⟩;have hc2:=(g2.2 i hi).2;rw [hR] at hri hc2;simp only [hR] at HSt;obtain ⟨li,hli2⟩:∃ r,ls i=r:=⟨_,rfl⟩;rw [hli2] at hri hli hc2;simp only [hli2] at HSt;dsimp only at hri hc2;have hiI:(i:Int) < (l.length:Int):=by omega
 have q0:W2.drew.cell? ⟨LB,0,none⟩=some (.slice (some ⟨LR,0,none⟩) l.length l.length):=cell_at (k:=0) H2.out.box;have p0:W2.cell? ⟨LB,0,none⟩=some (.slice (some ⟨LR,0,none⟩) l.length l.length):=cell_at (k:=0) H2.out.box;have p1:W2.cell? ⟨LR,i*2+1,none⟩=some (.slice rA li.length rc):=by simp [World.cell?,g1,hc2]
 have q1:W2.drew.cell? ⟨LR,i*2+1,none⟩=some (.slice rA li.length rc):=p1;have HOW:=hid fun W (hN:Nw W2 W)=>(hri.nw hN).row
 have HOWB:Hid (∀ j,(Value.slice rA li.length rc).ownBlock=some j→j=rb∧rA≠none):=hid fun j e=>hri.ownBlock j e
 have hrb:rA≠none→rb < W2.heap.size:=fun h=>hri.lt_some h
 have HK5:Hid (∀ W5,(W2.drew.alloc (.cells #[.int .i64 (m:Int)] 3)).grownBy W5 (Value.slice rA li.length rc).ownBlock→Kp rb rb W2 W5∧(rA=none→Nw W2 W5)):=hid fun W5 hg =>
  ⟨(((Nw.drewO W2).alloc' _).kp _ _).grown hg (fun j e=>.inl (HOWB.out j e).1),fun e=>((Nw.drewO W2).alloc' _).grown' hg (fun j e'=>((HOWB.out j e').2 e).elim)⟩
 have HF:Hid (∀ W5,Kp rb rb W2 W5→(rA=none→Nw W2 W5)→W5.frozen? ⟨LR,i*2+1,none⟩=false∧W5.cell? ⟨LR,i*2+1,none⟩=some (.slice rA li.length rc)∧W5.cell? ⟨LB,0,none⟩=some (.slice (some ⟨LR,0,none⟩) l.length l.length)):=hid fun W5 r3 r4=>by
  have e:=(app_kty hri r3 r4).get g1 (by decide);have e2:=(app_kty hri r3 r4).get H2.out.box (by decide);exact ⟨at_free e,by simp [World.cell?,e,hc2],cell_at (k:=0) e2⟩
 have HL5:Hid (∀ W5 v,Kp rb rb W2 W5→(rA=none→Nw W2 W5)→KtyL tyW W2 (W5.setCell ⟨LR,i*2+1,none⟩ v)):=hid fun W5 v r3 r4 =>
  ((app_kty hri r3 r4).toL r3.size (by decide)).trans (KtyL.set (p:=⟨LR,i*2+1,none⟩) ((app_kty hri r3 r4).get g1 (by decide)) (by decide))
 have hLRs:LR < W2.heap.size:=lt_of_block g1;have hLBs:LB < W2.heap.size:=lt_of_block H2.out.box;clear g1 g2 g3 hc2 d0 H HO HD HX hb HXL hri H2;go_region_law (refine step_append_lies _ rfl (.tmp 15) (.tmp 18) 63 rfl 0 3 i0 (.int .i64 0) 1 8 E_int.und hi0 hz0 hz1 hz2 rfl (by omega) _ li.length (cN .i64 li) rfl (HOW.out _ (Nw.alloc' (Nw.drewO _) _)) ⟨_,0,none⟩ 1 1 [.int .i64 (m:Int)] rfl rfl (World.news_of_block (heap_alloc_new _ _)) (by intro u hu;simp at hu;subst hu;rfl) (by omega) (by simp only [maxLen];omega) (by omega) (Nat.zero_le _) _ rfl ?_;intro g5 cap5 w5 q1 q2 q3 q4;obtain ⟨k5,n5⟩:=HK5.out w5 q2;obtain ⟨f5,c5,c6⟩:=HF.out w5 k5 n5;have Q1:=hid q1;have Q3:=hid q3;have Q4:=hid q4;have K5:=hid k5;have N5:=hid n5;clear q1 q2 q3 q4 k5 n5)
 all_goals
  go_wp2_with fail;go_end0
  refine ⟨rfl,HSt.out g5 cap5 (some ⟨g5,0,none⟩) w5 ?_ ?_ K5.out N5.out,HT2.out.trans (HL5.out w5 _ K5.out N5.out)⟩
  ·unfold cN;rw [List.map_append];exact .inr ⟨rfl,Q4.out,Q1.out⟩
  ·rcases Q3.out with h | h
   ·exact .inl (HOWB.out g5 h)
   ·exact .inr (by rw [h];simp)
end
section
open Go Go.RowKit Go.Lib Go.Sort Go.Shelf
attribute [local go_sem] Oper.semAt_some
structure ChY where
 i:Nat
 z:List Smpl
 b:Nat
 A:Option Addr
 c:Nat
abbrev ChY.key (x:ChY):Nat × List Smpl:=(x.i,x.z)
abbrev chEnc (x:ChY):Array Value:=#[.int .i64 (x.i:Int),.slice x.A (chunkB x.z).length x.c]
def chKeys (b:List BVal):List (Nat × List Smpl):=(b.mapIdx fun i s=>(partsL s.2).map fun z=>(i,z)).flatten
def ChV (b:List BVal) (x:ChY) (W:World):Prop:=x.key∈chKeys b∧Rd W x.b x.A (cN .u8 (chunkB x.z))∧(x.A=none→x.c=0)
theorem chKeys_snoc {b:List BVal} {k:Nat} (h:k < b.length):chKeys (b.take (k+1))=chKeys (b.take k)++(partsL b[k].2).map fun z=>(k,z):=by
 unfold chKeys;rw [List.take_succ_eq_append_getElem h,List.mapIdx_append,List.flatten_append];simp [Nat.min_eq_left (Nat.le_of_lt h)]
theorem chKeys_mem {b:List BVal} {k:Nat} (h:k < b.length) {z:List Smpl} (hz:z∈partsL b[k].2):(k,z)∈chKeys b :=
 List.mem_flatten.2 ⟨_,List.mem_mapIdx.2 ⟨k,h,rfl⟩,List.mem_map.2 ⟨z,hz,rfl⟩⟩
theorem chKeys_of {b:List BVal} {p:Nat × List Smpl} (h:p∈chKeys b):∃ hk:p.1 < b.length,p.2∈partsL b[p.1].2:=by
 obtain ⟨L,hL,hx⟩:=List.mem_flatten.1 h;obtain ⟨j,hj,rfl⟩:=List.mem_mapIdx.1 hL;obtain ⟨y,hy,rfl⟩:=List.mem_map.1 hx;exact ⟨hj,hy⟩
theorem chKeys_pre {b:List BVal} (k:Nat):(chKeys (b.take k)).length≤(chKeys b).length:=by
 conv=>rhs;rw [← List.take_append_drop k b]
 unfold chKeys;rw [List.mapIdx_append,List.flatten_append,List.length_append];omega
theorem chunks_any (w:World) (A:Option Addr) (n c:Nat):Calls Tryz.prog 54 #[.slice A n c] w fun e w'=>e=.returned (.func (.func 104) #[] #[.pointer (some ⟨w.heap.size,0,none⟩)])∧w'=w.alloc (.cells #[.slice A n c] 22):=by
 go_enter Tryz.func54,Tryz.ntmps54
 go_wp2;go_ret;exact ⟨rfl,rfl⟩
def KeepE (T:List TypeId) (w0 A C:World):Prop:=(Nw w0 A→Nw w0 C)∧KtyC T A C∧A.heap.size≤C.heap.size
theorem Ow.kl {T:List TypeId} {A C:World} {b n c:Nat} {e:TypeId} {size:Nat} {P:Option Addr} {xs:List Value} (h:Ow A b e size P n c xs) (hk:KtyC T A C) (hs:A.heap.size≤C.heap.size) (he:e ∉ T):Ow C b e size P n c xs :=
 h.keepT (fun _ _ _ hh _=>hk _ _ _ _ hh he) hs
theorem part_rd {w:World} {bs n c:Nat} {e:TypeId} {A:Option Addr} {zs:List Smpl} (h:Ow w bs e 2 A n c (cS zs)) (k:Nat) (hk:k < (partsL zs).length):Rd w bs (some ⟨bs,120*k*2,none⟩) (cS (partsL zs)[k]):=by
 have hl:=partsL_len zs;have hn:=h.len;rw [cS_length] at hn;obtain ⟨_,hlt,_⟩:=h.at_ (j:=0) (by omega);refine .inr ⟨120*k*2,rfl,hlt,fun j u hu=>?_⟩;obtain ⟨hj,rfl⟩:=c2_of _ j u hu;have e:=partsL_get zs k hk;have hj2:j / 2 < zs.length - 120*k:=by
  rw [e,List.length_take,List.length_drop] at hj;omega
 have e2:(partsL zs)[k][j / 2]=zs[120*k+j / 2]'(by omega):=by
  simp only [e,List.getElem_take,List.getElem_drop]
 obtain ⟨g0,g1⟩:=cS_at zs (120*k+j / 2) (by omega);obtain ⟨_,_,h2,_⟩:=h.at_ (j:=120*k*2+j) (by omega);rw [h2,e2];rcases Nat.mod_two_eq_zero_or_one j with q | q
 ·rw [if_pos q,show 120*k*2+j=(120*k+j / 2)*2 by omega];exact g0
 ·rw [if_neg (by omega),show 120*k*2+j=(120*k+j / 2)*2+1 by omega];exact g1
set_option maxRecDepth 100000 in
set_option maxHeartbeats 4000000 in
theorem chunks_seq (q:Nat) (hq:1≤q) (w0 w:World) (B b n c:Nat) (A:Option Addr) (l:List Ser) (hI:InSer w0 b A n c l) (hN0:Nw w0 w) (hB:w.heap[B]? = some (.cells #[.slice A n c] 22 (0,0))) (hf:Fits l) (hG:Gl w0) :
  SeqV Fence.wide q Tryz.prog 104 #[.pointer (some ⟨B,0,none⟩)] chEnc (ChV (l.map valB)) (KeepE tyW w0) (fun xs=>xs.map ChY.key=chKeys (l.map valB)) (chKeys (l.map valB)).length w:=by
 intro lp J W hW hJ hY h0;have hl:=hI.len;subst hl;have hBW:=(hW.block B (lt_of_block hB)).trans hB;have HY:=hid hY;have HJ:=hid hJ;have HB0:=hid hBW;have HR:=hid hI.rd;have HOK:=hid hI.ok;have HN0:=hid (hN0.trans hW);have HG:=hid hG;have hfl:=hf.1;have hfs:=hf.2.1;clear hY hJ hB hBW hI hN0 hG;refine callsIn_of_wp Tryz.func104 rfl trivial ?_ rfl;simp only [Tryz.ntmps104,List.size_toArray,List.length_cons,List.length_nil,Nat.reduceAdd,Nat.reduceSub,Array.replicate_succ,Array.replicate_zero,List.push_toArray,List.append_toArray,List.nil_append,List.cons_append];have hb0:W.cell? ⟨B,0,none⟩=some (.slice A l.length c):=cell_at (k:=0) HB0.out
 gi_wp2_with fail
 gi_loopw [11] (fun v wr=>∃ (pre:List ChY) (k:Nat),k≤l.length∧v=.int .i64 (k:Int)∧Hid (J pre wr)∧Hid (Nw w0 wr)∧Hid (pre.map ChY.key=chKeys ((l.map valB).take k))) (fun v _=>l.length - (intOf v).toNat)
 case atStart=>exact ⟨[],0,by omega,rfl,hid h0,HN0,hid (by simp [chKeys])⟩
 case round =>
  obtain ⟨pre,k,hk,rfl,HJp,HN,HP⟩:=hrel;by_cases hlt:k < l.length
  ·have hltI:(k:Int) < (l.length:Int):=by omega
   obtain ⟨o,rfl,hbw,hc0,hc1⟩:=two_at (HR.out.nw HN.out) hlt;have HOx:=hid (HOK.out l[k] (List.getElem_mem hlt));have hkb:k < (l.map valB).length:=by rw [List.length_map];exact hlt
   have HS:=hid (chKeys_snoc hkb);have HM:=hid fun z hz=>chKeys_mem (b:=l.map valB) hkb (z:=z) hz
   have HL:=hid (show (l.map valB)[k]=valB l[k] from by rw [List.getElem_map]);have hsm:=le_sum (List.getElem_mem hlt);have HPr:=hid (chKeys_pre (b:=l.map valB) (k+1));generalize l[k]=x at *;generalize (l.map valB)[k]=xv at *;obtain rfl:xv=valB x:=HL.out;obtain ⟨labs,smps,bl,al,cl,bs,as_,cs⟩:=x;dsimp only at hc0 hc1 hsm;have hIx:InSmp w0 bs as_ smps.length cs smps:=HOx.out.2;have HIx:=hid hIx;have HSp:Hid (∀ W,Nw w0 W→Calls Tryz.prog 105 #[.slice as_ smps.length cs] W fun e w'=>∃ bs' bp A2 c2 Ap cp,e=.returned (.slice Ap (partsL smps).length cp)∧Ow w' bp 70 1 Ap (partsL smps).length cp ((parts smps.length 0).map (partV bs'))∧W.heap.size≤bp ∧
     Ow w' bs' 126 2 A2 smps.length c2 (cS smps)∧W.heap.size≤bs'∧Nw W w'):=hid fun W hW=>by
    have h:=Split_any W bs as_ smps.length cs smps rfl (by omega) ((HIx.out.nw hW).rd) HIx.out.nil;have e:(partsL smps).length=(parts smps.length 0).length:=by unfold partsL;rw [List.length_map]
    rw [e];exact h
   clear HL HOx hIx
   gi_wp2_with fail
   refine ⟨trivial,?_⟩;refine (callsIn_wide.2 (HSp.out _ (HN.out.alloc' _))).mono ?_;rintro e w2 ⟨bs',bp,A2,c2,Ap,cp,rfl,hOp,hbp,hOs,hbs,hN2⟩;have HOp:=hid hOp;have HOs:=hid hOs;have HN2:=hid ((HN.out.alloc' _).trans hN2);have HJ2:=hid (HJ.out _ _ _ HJp.out (((Nw.refl wr).alloc' _).trans hN2));have HS2:Hid (chKeys ((l.map valB).take (k+1))=pre.map ChY.key++(partsL smps).map fun z=>(k,z)):=hid (by rw [HP.out];exact HS.out);have HM2:Hid (∀ z∈partsL smps,(k,z)∈chKeys (l.map valB)):=hid HM.out;have hml:=partsL_len smps;obtain ⟨M,hM⟩:∃ M,(partsL smps).length=M:=⟨_,rfl⟩;rw [hM] at HOp hml;have HMM:=hid hM;rw [hM];have hMle:M≤1000:=by omega
   clear hOp hOs hN2 hbp hbs hM hml HJp HN HSp hc0 hc1 HP HS HM HOK
   gi_wp2_with fail
   gi_loopw [20] (fun v wr=>∃ (p2:List ChY) (j:Nat),j≤M∧v=.int .i64 (j:Int)∧Hid (J p2 wr)∧Hid (Nw w0 wr)∧Hid (p2.map ChY.key=pre.map ChY.key++((partsL smps).take j).map fun z=>(k,z))∧Hid (Ow wr bp 70 1 Ap M cp ((parts smps.length 0).map (partV bs')))∧Hid (Ow wr bs' 126 2 A2 smps.length c2 (cS smps))) (fun v _=>M - (intOf v).toNat)
   case atStart=>exact ⟨pre,0,by omega,rfl,HJ2,HN2,hid (by simp),HOp,HOs⟩
   case round =>
    clear HJ2 HN2 HOp HOs;obtain ⟨p2,j,hj,rfl,HJp,HN,HP,HOp,HOs⟩:=hrel;by_cases hjt:j < M
    ·have hjI:(j:Int) < (M:Int):=by omega
     have hjp:j < (partsL smps).length:=by rw [HMM.out];exact hjt
     have hjq:j < (parts smps.length 0).length:=by have:=hjp;unfold partsL at this;rwa [List.length_map] at this
     obtain ⟨o2,hAp,hbpw,hcp⟩:=HOp.out.rd.get (k:=j) (by rw [List.length_map];exact hjq);subst hAp;rw [List.getElem_map,parts_at smps.length smps.length 0 (by omega) j hjq,Nat.zero_add] at hcp;dsimp only [partV] at hcp;have hrd:=part_rd HOs.out j hjp;have hmem:=List.getElem_mem hjp;have hz:=partsL_mem hmem;have e3:=partsL_get smps j hjp;have hzl:min 120 (smps.length - 120*j)=(partsL smps)[j].length:=by
      rw [e3,List.length_take,List.length_drop];omega
     have HNX:Hid (((partsL smps).take (j+1)).map (fun z=>(k,z))=((partsL smps).take j).map (fun z=>(k,z))++[(k,(partsL smps)[j])]):=hid (by
      rw [List.take_succ_eq_append_getElem hjp,List.map_append];rfl)
     have HMx:=hid (HM2.out _ hmem);have HIp:=hid (InS.part HIx.out.wf hmem);have HJL:Hid (p2.length < (chKeys (l.map valB)).length):=hid (by
      have h1:=congrArg List.length HP.out;have h2:=congrArg List.length HS2.out;have h3:=HPr.out;simp only [List.length_map,List.length_append,List.length_take] at h1 h2;omega)
     generalize (partsL smps)[j]=z at *;rw [hzl] at hcp;obtain ⟨N,hN⟩:∃ N,z.length=N:=⟨_,rfl⟩;have HNN:=hid hN;rw [hN] at hcp hz;have HE:Hid (∀ W,Nw wr W→Calls Tryz.prog 106 #[.slice (some ⟨bs',120*j*2,none⟩) N N] W fun e w'=>∃ b' A' c',e=.returned (.tuple #[.slice A' (chunkB z).length c',.int .i64 0]) ∧
       Ow w' b' 5 1 A' (chunkB z).length c' (cN .u8 (chunkB z))∧W.heap.size≤b'∧Nw W w'):=hid fun W hW=>Encode_ok W bs' _ N N z HNN.out.symm hz.1 hz.2.1 (hrd.nw hW) HIp.out (HG.out.nw (HN.out.trans hW))
     clear hmem hz e3 hzl hN hrd hjp hjq
     gi_wp2_with fail
     refine ⟨trivial,?_⟩;refine (callsIn_wide.2 (HE.out _ (Nw.refl _))).mono ?_;rintro e w3 ⟨b3,A3,c3,rfl,hO3,hb3,hN3⟩;have HJ3:=hid (HJ.out _ _ _ HJp.out hN3);have HO3:=hid hO3;have HY3:=hid (HY.out p2 ⟨k,z,b3,A3,c3⟩ w3 HJ3.out ⟨HMx.out,hO3.rd,hO3.nilc⟩ HJL.out);have HN3:=hid hN3;clear hO3 hN3 HE hb3;obtain ⟨fn,tmps,assign,body,hy,hR⟩:=HY3.out;dsimp only [chEnc] at hy;have HR3:=hid hR;clear hR HY3
     gi_wp2_with fail
     refine HR3.out.mono ?_;rintro e W3 ⟨rfl,hJ4,hK4⟩;have HJ4:=hid hJ4;have HN4:=hid (hK4.1 (HN.out.trans HN3.out));have HOp4:=hid ((HOp.out.nw HN3.out).kl hK4.2.1 hK4.2.2 (by decide));have HOs4:=hid ((HOs.out.nw HN3.out).kl hK4.2.1 hK4.2.2 (by decide));have HP4:Hid ((p2++[(⟨k,z,b3,A3,c3⟩:ChY)]).map ChY.key=pre.map ChY.key++((partsL smps).take (j+1)).map fun z=>(k,z)):=hid (by
      rw [List.map_append,HP.out,HNX.out,List.append_assoc];rfl)
     clear hJ4 hK4 HR3 HO3 hcp hy HOp HOs HP HNX HJp HJ3 HN HN3
     gi_wp2_with fail
     go_roundw
     case rel=>exact ⟨_,j+1,by omega,by go_num,HJ4,HN4,HP4,HOp4,HOs4⟩
     case measure=>simp [intOf];omega
    ·obtain rfl:j=M:=by omega
     gi_wp2_with fail
     go_roundw
     case rel=>exact ⟨p2,k+1,by omega,by go_num,HJp,HN,hid (by rw [HS2.out,HP.out,← HMM.out,List.take_length])⟩
     case measure=>simp [intOf];omega
  ·obtain rfl:k=l.length:=by omega
   gi_wp2_with fail
   go_end0
   refine ⟨⟨_,rfl⟩,pre,?_,HJp.out⟩;rw [HP.out,List.take_of_length_le (by rw [List.length_map];exact Nat.le_refl _)]
end
section
open Go Go.RowKit Go.Lib Go.Sort Go.Shelf
attribute [local go_sem] Oper.semAt_some
theorem cmp_nodup {ks:List Lab} (h:ks.Pairwise fun x y=>cmpL x y = -1):ks.Nodup:=h.imp fun {a b} k e=>by
 subst e;rw [(cmp3_L.zero _ _).2 rfl] at k;omega
theorem IsIdx.len {done:List (Lab × Nat)} {E:List EntV} (h:IsIdx done E):E.length≤done.length:=by
 have:=nodup_sub_len (m:=done.map (·.1)) (cmp_nodup h.asc) (fun x hx=>by
  obtain ⟨i,hi⟩:=(h.mem x).1 hx;exact List.mem_map.2 ⟨_,hi,rfl⟩)
 simpa using this
end
section
open Go Go.RowKit Go.Lib Go.Sort Go.Shelf
def datK (l:List (Nat × List Smpl)):List Nat:=l.flatMap fun p=>chunkB p.2
def lsK (l:List (Nat × List Smpl)) (j:Nat):List Nat:=(l.filter fun p=>p.1 == j).map fun p=>(chunkB p.2).length
theorem datK_snoc (l:List (Nat × List Smpl)) (p:Nat × List Smpl):datK (l++[p])=datK l++chunkB p.2:=by unfold datK;simp
theorem lsK_snoc (l:List (Nat × List Smpl)) (p:Nat × List Smpl):lsK (l++[p])=fun j=>if j=p.1 then lsK l j++[(chunkB p.2).length] else lsK l j:=by
 funext j
 unfold lsK;rw [List.filter_append,List.map_append];by_cases h:j=p.1
 ·subst h;simp
 ·have:(p.1 == j)=false:=by rw [beq_eq_false_iff_ne];exact fun e=>h e.symm
  simp [h,this]
theorem lsK_len (l:List (Nat × List Smpl)) (j:Nat):(lsK l j).length≤l.length:=by unfold lsK;rw [List.length_map];exact List.length_filter_le _ _
theorem datK_len {l:List (Nat × List Smpl)} (h:∀ p∈l,(chunkB p.2).length≤10000):(datK l).length≤10000*l.length:=by
 induction l with
 | nil=>simp [datK]
 | cons p l ih =>
  have h1:=h p List.mem_cons_self;have h2:=ih (fun q hq=>h q (List.mem_cons_of_mem _ hq));have e:datK (p::l)=chunkB p.2++datK l:=rfl;rw [e,List.length_append,List.length_cons];omega
theorem datK_keys (b:List BVal):∀ k,k≤b.length→datK (chKeys (b.take k))=datS (b.take k):=by
 intro k;induction k with
 | zero=>intro _;simp [chKeys,datK,datS]
 | succ k ih =>
  intro hk;have e:datS (b.take (k+1))=datS (b.take k)++(chunksL b[k].2).flatten:=by
   unfold datS;rw [List.take_succ_eq_append_getElem (show k < b.length by omega),List.flatMap_append];simp
  rw [chKeys_snoc (show k < b.length by omega),e,← ih (by omega)];unfold datK chunksL;rw [List.flatMap_append,List.flatMap_map];simp only [List.flatMap]
theorem datK_all (b:List BVal):datK (chKeys b)=datS b:=by
 have:=datK_keys b b.length (Nat.le_refl _)
 rwa [List.take_length] at this
theorem lsK_keys (b:List BVal):∀ (k:Nat) (hk:k≤b.length) (j:Nat) (hj:j < k),lsK (chKeys (b.take k)) j=lensL (b[j]'(by omega)).2:=by
 intro k;induction k with
 | zero=>intro _ j hj;omega
 | succ k ih =>
  intro hk j hj;have none:∀ m,m≤k→lsK (chKeys (b.take m)) k=[]:=by
   intro m hm;unfold lsK;rw [List.map_eq_nil_iff,List.filter_eq_nil_iff];intro p hp e;obtain ⟨h1,_⟩:=chKeys_of hp;rw [List.length_take] at h1;have:p.1=k:=by simpa using e
   omega
  have e0:lsK (chKeys (b.take (k+1))) j=lsK (chKeys (b.take k)) j++lsK ((partsL b[k].2).map fun z=>(k,z)) j:=by
   rw [chKeys_snoc (show k < b.length by omega)];unfold lsK;rw [List.filter_append,List.map_append]
  rw [e0];by_cases hjk:j=k
  ·subst hjk;rw [none _ (Nat.le_refl _),List.nil_append];unfold lsK lensL chunksL;rw [List.filter_map,List.map_map,List.map_map];rw [List.filter_eq_self.2 (by intro a _;simp)];rfl
  ·rw [ih (by omega) j (by omega)];have:lsK ((partsL b[k].2).map fun z=>(k,z)) j=[]:=by
    unfold lsK;rw [List.map_eq_nil_iff,List.filter_eq_nil_iff];intro p hp e;obtain ⟨z,_,rfl⟩:=List.mem_map.1 hp;simp at e;omega
   rw [this,List.append_nil]
theorem lsK_all (b:List BVal) {j:Nat} (hj:j < b.length):lsK (chKeys b) j=lensL b[j].2:=by
 have:=lsK_keys b b.length (Nat.le_refl _) j hj
 rwa [List.take_length] at this
theorem chKeys_len (b:List BVal):(chKeys b).length=(b.map fun s=>(partsL s.2).length).sum:=by
 unfold chKeys;rw [List.length_flatten];congr 1
 apply List.ext_getElem
 ·simp
 ·intro i h1 h2;simp
theorem chKeys_le (b:List BVal):(chKeys b).length≤(b.map fun s=>s.2.length).sum:=by
 rw [chKeys_len];induction b with
 | nil=>simp
 | cons x b ih =>
  have:=partsL_len x.2;simp only [List.map_cons,List.sum_cons];omega
theorem chKeys_chunk {b:List BVal} (hb:BlkV b) {p:Nat × List Smpl} (h:p∈chKeys b):p.1 < b.length∧1≤(chunkB p.2).length∧(chunkB p.2).length≤10000:=by
 obtain ⟨hk,hz⟩:=chKeys_of h;have:=partsL_mem hz;exact ⟨hk,chunkB_len this.1 this.2.1 ((hb.ok _ (List.getElem_mem hk)).part hz)⟩
def sec0 (b:List BVal):List Nat:=symEnc (symT (labsV b))
def sec1 (b:List BVal):List Nat:=recEnc (symT (labsV b)) (b.map recV)
def sec3 (b:List BVal):List Nat:=posEnc (symT (labsV b)) (posV b)
theorem SecI.recs {w W:World} {D LB LR:Nat} {l:List Ser} {dat:List Nat} {ls:Nat→List Nat} (h:SecI w W D LB LR l dat ls) (hok:∀ s∈l,SerOk w s) (hls:∀ j (hj:j < l.length),ls j=lensL l[j].smps) :
  ∃ recs:List RecS,l.length=recs.length∧Rd W LR (some ⟨LR,0,none⟩) (cRec recs)∧(∀ s∈recs,InRec W s)∧recs.map valR=(l.map valB).map recV:=by
 obtain ⟨R,cs,h1,h2,h3⟩:=h.row;refine ⟨l.mapIdx fun j s=>⟨s.labs,lensL s.smps,s.bl,s.al,s.cl,(R j).1,(R j).2.1,(R j).2.2⟩,by simp,?_,?_,?_⟩
 ·refine .inr ⟨0,rfl,lt_of_block h1,fun j u hu=>?_⟩;obtain ⟨hj,rfl⟩:=c2_of _ j u hu;have hj':j / 2 < l.length:=by simpa using hj
  obtain ⟨q1,q2⟩:=h2.2 (j / 2) hj';rw [hls _ hj'] at q2;simp only [List.getElem_mapIdx,Nat.zero_add,World.cell?,h1];rcases Nat.mod_two_eq_zero_or_one j with q | q
  ·rw [if_pos q];have:j / 2*2=j:=by omega
   rw [this] at q1;simpa using q1
  ·have q':¬ j % 2=0:=by omega
   rw [if_neg q'];have:j / 2*2+1=j:=by omega
   rw [this] at q2;simpa [q'] using q2
 ·intro s hs;obtain ⟨j,hj,rfl⟩:=List.mem_mapIdx.1 hs;refine ⟨(hok _ (List.getElem_mem hj)).1.rd.nw h.nw,?_⟩;have:=(h3.ow j hj).1.rd;rw [hls j hj] at this;exact this
 ·apply List.ext_getElem
  ·simp
  ·intro j h1 h2;simp [valR,recV,valB]
end
end Go.Proofs.YticphebaflnedaaGreatDoor
