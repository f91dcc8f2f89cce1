/- Laws that the last text builds on. -/
import Derived.Test.YtmmonehfnfbpbaaGreatDoorR8
import Derived.Test.YtmmonehfnfbpbaaGreatDoorChecked
namespace Go.Proofs.YtmmonehfnfbpbaaGreatDoor
open Go.Lib(hid)
section
open Go Go.RowKit Go.Sort
def repP {α:Type} (f:List α→List Nat→Except Nat (α × List Nat)):Nat→List α→List Nat→Except Nat (List α × List Nat)
 | 0,acc,bs=>.ok (acc,bs)
 | n+1,acc,bs=>xb (f acc bs) fun p=>repP f n (acc++[p.1]) p.2
def encL {α:Type} (e:List α→α→List Nat):List α→List α→List Nat
 | _,[]=>[]
 | acc,x::l=>e acc x++encL e (acc++[x]) l
theorem encL_flat {α:Type} (e:α→List Nat):∀ (l acc:List α),encL (fun _=>e) acc l=l.flatMap e
 | [],_=>rfl
 | x::l,acc=>by rw [encL,encL_flat e l,List.flatMap_cons]
theorem repP_inv {α:Type} {f:List α→List Nat→Except Nat (α × List Nat)} {e:List α→α→List Nat} {P:List α→α→Prop} (hf:∀ acc bs x r,(∀ y∈bs,y < 256)→f acc bs=.ok (x,r)→bs=e acc x++r∧P acc x) :
  ∀ (n:Nat) {acc bs out r},(∀ y∈bs,y < 256)→repP f n acc bs=.ok (out,r)→∃ l,out=acc++l∧l.length=n∧bs=encL e acc l++r∧∀ (k:Nat) (h:k < l.length),P (acc++l.take k) l[k]
 | 0,acc,bs,out,r,hb,h=>by
  rw [repP] at h;injection h with h
  injection h with h1 h2
  exact ⟨[],by simp [h1],rfl,by simp [encL,h2],fun k hk=>by simp at hk⟩
 | n+1,acc,bs,out,r,hb,h=>by
  rw [repP] at h;obtain ⟨⟨x,q⟩,h1,h2⟩:=xb_inv h;dsimp only at h2;obtain ⟨e1,p1⟩:=hf _ _ _ _ hb h1;obtain ⟨l,e2,e3,e4,e5⟩:=repP_inv hf n (fun y hy=>hb y (by rw [e1];exact List.mem_append.2 (.inr hy))) h2;refine ⟨x::l,by rw [e2];simp,by simp [e3],by rw [encL,e1,e4,List.append_assoc],fun k hk=>?_⟩;cases k with
  | zero=>simpa using p1
  | succ k =>
   have:=e5 k (by simpa using hk);simp only [List.take_succ_cons,List.getElem_cons_succ];rw [List.append_assoc] at this;exact this
theorem repP_len {α:Type} {f:List α→List Nat→Except Nat (α × List Nat)}:∀ (n:Nat) {acc bs out r},repP f n acc bs=.ok (out,r)→out.length=acc.length+n
 | 0,acc,bs,out,r,h=>by
  rw [repP] at h;injection h with h
  injection h with h1 h2
  rw [h1];rfl
 | n+1,acc,bs,out,r,h=>by
  rw [repP] at h;obtain ⟨⟨x,q⟩,h1,h2⟩:=xb_inv h;have:=repP_len n h2;rw [List.length_append,List.length_singleton] at this;omega
def endL {α:Type} (z:α × List Nat):Except Nat α:=if z.2=[] then .ok z.1 else .error 4
theorem endL_ok {α:Type} {z:α × List Nat} {a:α} (h:endL z=.ok a):z=(a,[]):=by
 unfold endL at h;split at h
 ·rename_i h1
  injection h with h
  exact Prod.ext h h1
 ·cases h
def lisP {α:Type} (f:List α→List Nat→Except Nat (α × List Nat)) (bs:List Nat):Except Nat (List α):=xb (countP bs) fun c=>xb (repP f c.1 [] c.2) endL
theorem countP_ok {bs r:List Nat} {n:Nat} (h:countP bs=.ok (n,r)):vget0 bs=.ok (n,r)∧n≤r.length:=by
 unfold countP at h;cases hv:vget0 bs with
 | error k=>rw [hv] at h;cases h
 | ok p =>
  obtain ⟨x,q⟩:=p;rw [hv] at h;dsimp only at h;split at h
  ·cases h
  ·injection h with h
   injection h with h1 h2
   subst h1 h2;exact ⟨rfl,by omega⟩
theorem countP_inv {bs r:List Nat} {n:Nat} (hb:∀ x∈bs,x < 256) (h:countP bs=.ok (n,r)):bs=vint n++r∧n≤r.length∧n < 18446744073709551616:=by
 obtain ⟨h1,h2⟩:=countP_ok h;obtain ⟨h3,h4⟩:=varget_inv hb h1;exact ⟨h3,h2,h4⟩
theorem lisP_inv {α:Type} {f:List α→List Nat→Except Nat (α × List Nat)} {e:List α→α→List Nat} {P:List α→α→Prop} (hf:∀ acc bs x r,(∀ y∈bs,y < 256)→f acc bs=.ok (x,r)→bs=e acc x++r∧P acc x)
  {bs:List Nat} {l:List α} (hb:∀ x∈bs,x < 256) (h:lisP f bs=.ok l):bs=vint l.length++encL e [] l∧∀ (k:Nat) (h:k < l.length),P (l.take k) l[k]:=by
 unfold lisP at h;obtain ⟨⟨n,r⟩,h1,h⟩:=xb_inv h;obtain ⟨z,h2,h⟩:=xb_inv h;obtain rfl:=endL_ok h;obtain ⟨e1,_,_⟩:=countP_inv hb h1;dsimp only at h2;obtain ⟨m,e2,e3,e4,e5⟩:=repP_inv hf n (fun y hy=>hb y (by rw [e1];exact List.mem_append.2 (.inr hy))) h2;rw [List.nil_append] at e2;subst e2;rw [List.append_nil] at e4;exact ⟨by rw [e1,e4,e3],by simpa using e5⟩
def ordB (acc:List ByteArray) (s:ByteArray):Bool:=acc.isEmpty || Op.bytesLess (acc.getLastD .empty).toList s.toList
def symF (acc:List ByteArray) (bs:List Nat):Except Nat (ByteArray × List Nat):=xb (strP bs) fun p=>if ordB acc p.1=true then .ok p else .error 16
def symsP (bs:List Nat):Except Nat (List ByteArray):=lisP symF bs
def labF (t:List ByteArray) (_:List Lab) (bs:List Nat):Except Nat (Lab × List Nat):=xb (symP t bs) fun a=>xb (symP t a.2) fun v=>.ok ((a.1,v.1),v.2)
def labsP (t:List ByteArray) (bs:List Nat):Except Nat (List Lab × List Nat):=xb (countP bs) fun c=>repP (labF t) c.1 [] c.2
def lenF (_:List Nat) (bs:List Nat):Except Nat (Nat × List Nat):=xb (vget0 bs) fun p=>if p.1 < 1∨2147483647 < p.1 then .error 23 else .ok p
def lensP (bs:List Nat):Except Nat (List Nat × List Nat):=xb (countP bs) fun c=>if c.1=0 then .error 23 else repP lenF c.1 [] c.2
def recF (t:List ByteArray) (_:List RecV) (bs:List Nat):Except Nat (RecV × List Nat):=xb (labsP t bs) fun l=>xb (lensP l.2) fun c=>.ok ((l.1,c.1),c.2)
def recsP (t:List ByteArray) (bs:List Nat):Except Nat (List RecV):=lisP (recF t) bs
def numF (bound:Nat) (acc:List Nat) (bs:List Nat):Except Nat (Nat × List Nat) :=
 xb (vget0 bs) fun p=>if p.1 < bound - acc.getLastD 0∧(acc=[]∨0 < p.1) then .ok (acc.getLastD 0+p.1,p.2) else .error 22
def numsP (bound:Nat) (bs:List Nat):Except Nat (List Nat × List Nat):=xb (countP bs) fun c=>if c.1=0 then .error 22 else repP (numF bound) c.1 [] c.2
def ordE (acc:List EntV) (x:Lab):Bool:=acc.isEmpty || decide (cmpL (acc.getLastD ((.empty,.empty),[])).1 x < 0)
def entF (t:List ByteArray) (bound:Nat) (acc:List EntV) (bs:List Nat):Except Nat (EntV × List Nat) :=
 xb (labF t [] bs) fun a=>if ordE acc a.1=true then xb (numsP bound a.2) fun z=>.ok ((a.1,z.1),z.2) else .error 16
def posP (t:List ByteArray) (bound:Nat) (bs:List Nat):Except Nat (List EntV):=lisP (entF t bound) bs
end
section
open Go Go.RowKit Go.Sort
theorem strP_inv {bs r:List Nat} {s:ByteArray} (hb:∀ y∈bs,y < 256) (h:strP bs=.ok (s,r)):bs=lenB (sB s)++r∧s.size≤65535:=by
 unfold strP at h;obtain ⟨⟨n,q⟩,h1,h⟩:=xb_inv h;dsimp only at h;split at h
 ·cases h
 ·split at h
  ·cases h
  ·rename_i h2 h3
   injection h with h
   injection h with e1 e2
   subst e1 e2;obtain ⟨rfl,_⟩:=varget_inv hb h1;have hq:∀ y∈q.take n,y < 256:=fun y hy=>hb y (List.mem_append.2 (.inr (List.mem_of_mem_take hy)))
   have hl:(q.take n).length=n:=by rw [List.length_take];omega
   rw [sB_bS hq,bS_size,hl];unfold lenB;rw [hl,List.append_assoc,List.take_append_drop];exact ⟨rfl,by omega⟩
theorem getLastD_take {α:Type} {l:List α} {k:Nat} (d:α) (h:k < l.length) (h0:0 < k):(l.take k).getLastD d=l[k - 1]:=by
 rw [List.getLastD_eq_getLast?,List.getLast?_eq_getElem?,List.length_take,show min k l.length=k by omega,List.getElem?_take];rw [if_pos (by omega),List.getElem?_eq_getElem (show k - 1 < l.length by omega)];rfl
theorem isEmpty_take {α:Type} {l:List α} {k:Nat} (h:k < l.length) (h0:0 < k):(l.take k).isEmpty=false:=by
 cases e:l.take k with
 | nil=>have:=congrArg List.length e;rw [List.length_take,List.length_nil] at this;omega
 | cons _ _=>rfl
theorem ordB_take {t:List ByteArray} {k:Nat} (h:k < t.length):ordB (t.take k) t[k]=true↔(∀ h0:0 < k,LtB t[k - 1] t[k]):=by
 by_cases h0:0 < k
 ·unfold ordB;rw [isEmpty_take h h0,getLastD_take _ h h0,Bool.false_or];exact ⟨fun x _=>x,fun x=>x h0⟩
 ·obtain rfl:k=0:=by omega
  exact ⟨fun _ h=>(h0 h).elim,fun _=>rfl⟩
theorem pairwise_of_next {α:Type} {R:α→α→Prop} (tr:∀ a b c,R a b→R b c→R a c) {l:List α} (h:∀ (k:Nat) (hk:k < l.length) (_:0 < k),R l[k - 1] l[k]):l.Pairwise R:=by
 rw [List.pairwise_iff_getElem];intro i j hi hj hij;obtain ⟨d,rfl⟩:∃ d,j=i+1+d:=⟨j - i - 1,by omega⟩;induction d with
 | zero=>exact h (i+1) hj (by omega)
 | succ d ih =>
  have h1:=ih (by omega) (by omega);have h2:=h (i+1+(d+1)) hj (by omega);exact tr _ _ _ h1 h2
theorem ltB_trans (a b c:ByteArray) (h:LtB a b) (k:LtB b c):LtB a c:=bl_trans _ _ _ h k
theorem symsP_inv {bs:List Nat} {t:List ByteArray} (hb:∀ y∈bs,y < 256) (h:symsP bs=.ok t):bs=symEnc t∧(∀ s∈t,s.size≤65535)∧t.Pairwise LtB:=by
 obtain ⟨h1,h2⟩:=lisP_inv (e:=fun _ s=>lenB (sB s)) (P:=fun acc s=>s.size≤65535∧ordB acc s=true) (fun acc bs x r hb h=>by
  unfold symF at h;obtain ⟨p,h1,h⟩:=xb_inv h;split at h
  ·rename_i h2
   injection h with h
   subst h;obtain ⟨e1,e2⟩:=strP_inv hb h1;exact ⟨e1,e2,h2⟩
  ·cases h) hb h
 refine ⟨?_,fun s hs=>?_,pairwise_of_next ltB_trans fun k hk h0=>(ordB_take hk).1 (h2 k hk).2 h0⟩
 ·unfold symEnc;rw [← encL_flat (fun s=>lenB (sB s)) t []];exact h1
 ·obtain ⟨k,hk,rfl⟩:=List.getElem_of_mem hs;exact (h2 k hk).1
theorem ltB_ne {a b:ByteArray} (h:LtB a b):a≠b:=fun e=>by
 subst e;have h:Op.bytesLess a.toList a.toList=true:=h;rw [bl_irrefl] at h;cases h
theorem ltB_nodup {t:List ByteArray} (h:t.Pairwise LtB):t.Nodup:=h.imp ltB_ne
theorem nodup_at {α:Type} {l:List α} (h:l.Nodup) {i j:Nat} (hi:i < l.length) (hj:j < l.length) (e:l[i]=l[j]):i=j:=by
 have h:=List.pairwise_iff_getElem.1 h;rcases Nat.lt_trichotomy i j with q | q | q
 ·exact (h i j hi hj q e).elim
 ·exact q
 ·exact (h j i hj hi q e.symm).elim
theorem symP_inv {t:List ByteArray} (ht:t.Nodup) {bs r:List Nat} {s:ByteArray} (hb:∀ y∈bs,y < 256) (h:symP t bs=.ok (s,r)):bs=vint (idxS t s)++r∧s∈t:=by
 unfold symP at h;cases hv:vget0 bs with
 | error k=>rw [hv] at h;cases h
 | ok p =>
  obtain ⟨x,q⟩:=p;rw [hv] at h;dsimp only at h;split at h
  ·cases h
  ·rename_i h2
   injection h with h
   injection h with h3 h4
   have hx:x < t.length:=by omega
   have hs:s=t[x]:=by rw [← h3];simp [List.getD,hx]
   have hm:s∈t:=by rw [hs];exact List.getElem_mem hx
   obtain ⟨K,e1,hk,e2⟩:=idxS_spec hm;have:K=x:=nodup_at ht hk hx (by rw [e2,hs]);rw [e1,this,← h4];exact ⟨(varget_inv hb hv).1,hm⟩
def labEnc (t:List ByteArray) (x:Lab):List Nat:=vint (idxS t x.1)++vint (idxS t x.2)
theorem strs_enc (t:List ByteArray) (l:List Lab):((strsOf l).flatMap fun s=>vint (idxS t s))=l.flatMap (labEnc t):=by
 induction l with
 | nil=>rfl
 | cons x l ih =>
  have e:strsOf (x::l)=x.1::x.2::strsOf l:=rfl;rw [e,List.flatMap_cons,List.flatMap_cons,ih,List.flatMap_cons];unfold labEnc;rw [List.append_assoc]
theorem labF_inv {t:List ByteArray} (ht:t.Nodup) {acc:List Lab} {x:Lab} {bs r:List Nat} (hb:∀ y∈bs,y < 256) (h:labF t acc bs=.ok (x,r)):bs=labEnc t x++r∧x.1∈t∧x.2∈t:=by
 unfold labF at h;obtain ⟨⟨a,q⟩,h1,h⟩:=xb_inv h;obtain ⟨⟨v,q2⟩,h2,h⟩:=xb_inv h;injection h with h
 injection h with h3 h4
 dsimp only at h2 h3 h4;subst h3 h4;obtain ⟨e1,m1⟩:=symP_inv ht hb h1;obtain ⟨e2,m2⟩:=symP_inv ht (fun y hy=>hb y (by rw [e1];exact List.mem_append.2 (.inr hy))) h2;unfold labEnc;exact ⟨by rw [e1,e2,List.append_assoc],m1,m2⟩
theorem labsP_inv {t:List ByteArray} (ht:t.Nodup) {l:List Lab} {bs r:List Nat} (hb:∀ y∈bs,y < 256) (h:labsP t bs=.ok (l,r)):bs=vint l.length++(l.flatMap (labEnc t)++r)∧∀ s∈strsOf l,s∈t:=by
 unfold labsP at h;obtain ⟨⟨n,q⟩,h1,h⟩:=xb_inv h;obtain ⟨e1,_,_⟩:=countP_inv hb h1;dsimp only at h;obtain ⟨m,e2,e3,e4,e5⟩:=repP_inv (e:=fun _=>labEnc t) (P:=fun _ x=>x.1∈t∧x.2∈t) (fun acc bs x r hb h=>labF_inv ht hb h) n (fun y hy=>hb y (by rw [e1];exact List.mem_append.2 (.inr hy))) h;rw [List.nil_append] at e2;subst e2;rw [encL_flat] at e4;refine ⟨by rw [e1,e4,e3],fun s hs=>?_⟩;obtain ⟨x,hx,hs⟩:=strs_mem.1 hs;obtain ⟨k,hk,rfl⟩:=List.getElem_of_mem hx;rcases hs with rfl | rfl
 ·exact (e5 k hk).1
 ·exact (e5 k hk).2
theorem lensP_inv {l:List Nat} {bs r:List Nat} (hb:∀ y∈bs,y < 256) (h:lensP bs=.ok (l,r)):bs=vint l.length++(l.flatMap vint++r)∧l≠[]∧∀ n∈l,1≤n∧n≤2147483647:=by
 unfold lensP at h;obtain ⟨⟨n,q⟩,h1,h⟩:=xb_inv h;obtain ⟨e1,_,_⟩:=countP_inv hb h1;dsimp only at h;split at h
 ·cases h
 ·rename_i h0
  obtain ⟨m,e2,e3,e4,e5⟩:=repP_inv (e:=fun _=>vint) (P:=fun _ x=>1≤x∧x≤2147483647) (fun acc bs x r hb h=>by
   unfold lenF at h;obtain ⟨⟨y,q⟩,h1,h⟩:=xb_inv h;dsimp only at h;split at h
   ·cases h
   ·injection h with h
    injection h with h3 h4
    subst h3 h4;exact ⟨(varget_inv hb h1).1,by omega,by omega⟩) n (fun y hy=>hb y (by rw [e1];exact List.mem_append.2 (.inr hy))) h
  rw [List.nil_append] at e2;subst e2;rw [encL_flat] at e4;refine ⟨by rw [e1,e4,e3],fun e=>h0 (by rw [← e3,e];rfl),fun n hn=>?_⟩;obtain ⟨k,hk,rfl⟩:=List.getElem_of_mem hn;exact e5 k hk
def RecIn (t:List ByteArray) (x:RecV):Prop:=(∀ s∈strsOf x.1,s∈t)∧x.2≠[]∧∀ n∈x.2,1≤n∧n≤2147483647
theorem recEnc1_eq (t:List ByteArray) (x:RecV):recEnc1 t x=vint x.1.length++(x.1.flatMap (labEnc t)++(vint x.2.length++x.2.flatMap vint)):=by
 unfold recEnc1;rw [strs_enc];simp only [List.append_assoc]
theorem recF_inv {t:List ByteArray} (ht:t.Nodup) {acc:List RecV} {x:RecV} {bs r:List Nat} (hb:∀ y∈bs,y < 256) (h:recF t acc bs=.ok (x,r)):bs=recEnc1 t x++r∧RecIn t x:=by
 unfold recF at h;obtain ⟨⟨l,q⟩,h1,h⟩:=xb_inv h;obtain ⟨⟨c,q2⟩,h2,h⟩:=xb_inv h;injection h with h
 injection h with h3 h4
 dsimp only at h2 h3 h4;subst h3 h4;obtain ⟨e1,m1⟩:=labsP_inv ht hb h1;obtain ⟨e2,m2,m3⟩:=lensP_inv (fun y hy=>hb y (by rw [e1];exact List.mem_append.2 (.inr (List.mem_append.2 (.inr hy))))) h2;rw [recEnc1_eq];exact ⟨by rw [e1,e2];simp only [List.append_assoc],m1,m2,m3⟩
theorem recsP_inv {t:List ByteArray} (ht:t.Nodup) {bs:List Nat} {l:List RecV} (hb:∀ y∈bs,y < 256) (h:recsP t bs=.ok l):bs=recEnc t l∧∀ x∈l,RecIn t x:=by
 obtain ⟨h1,h2⟩:=lisP_inv (e:=fun _=>recEnc1 t) (P:=fun _ x=>RecIn t x) (fun acc bs x r hb h=>recF_inv ht hb h) hb h;refine ⟨?_,fun x hx=>?_⟩
 ·unfold recEnc;rw [← encL_flat (recEnc1 t) l []];exact h1
 ·obtain ⟨k,hk,rfl⟩:=List.getElem_of_mem hx;exact h2 k hk
theorem encL_difs:∀ (l acc:List Nat),encL (fun acc x=>vint (x - acc.getLastD 0)) acc l=(List.zipWith (fun a b=>b - a) (acc.getLastD 0::l) l).flatMap vint
 | [],_=>rfl
 | x::l,acc=>by
  rw [encL,encL_difs l (acc++[x])];simp
theorem numsP_inv {bound:Nat} {l:List Nat} {bs r:List Nat} (hb:∀ y∈bs,y < 256) (h:numsP bound bs=.ok (l,r)):bs=vint l.length++((difs l).flatMap vint++r)∧l≠[]∧l.Pairwise (· < ·)∧∀ n∈l,n < bound:=by
 unfold numsP at h;obtain ⟨⟨n,q⟩,h1,h⟩:=xb_inv h;obtain ⟨e1,_,_⟩:=countP_inv hb h1;dsimp only at h;split at h
 ·cases h
 ·rename_i h0
  obtain ⟨m,e2,e3,e4,e5⟩:=repP_inv (e:=fun acc x=>vint (x - acc.getLastD 0)) (P:=fun acc x=>x < bound∧(acc=[]∨acc.getLastD 0 < x)) (fun acc bs x r hb h=>by
   unfold numF at h;obtain ⟨⟨y,q⟩,h1,h⟩:=xb_inv h;dsimp only at h;split at h
   ·rename_i h2
    injection h with h
    injection h with h3 h4
    subst h3 h4;refine ⟨?_,by omega,?_⟩
    ·rw [show acc.getLastD 0+y - acc.getLastD 0=y by omega];exact (varget_inv hb h1).1
    ·rcases h2.2 with h2 | h2
     ·exact .inl h2
     ·exact .inr (by omega)
   ·cases h) n (fun y hy=>hb y (by rw [e1];exact List.mem_append.2 (.inr hy))) h
  rw [List.nil_append] at e2;subst e2;rw [encL_difs] at e4;refine ⟨?_,fun e=>h0 (by rw [← e3,e];rfl),pairwise_of_next (R:=(· < ·)) (fun _ _ _ h k=>Nat.lt_trans h k) fun k hk hk0=>?_,fun n hn=>?_⟩
  ·rw [e1,e4,e3];rfl
  ·have:=(e5 k hk).2;rw [List.nil_append,getLastD_take _ hk hk0] at this;rcases this with h | h
   ·have:=congrArg List.length h;rw [List.length_take,List.length_nil] at this;omega
   ·exact h
  ·obtain ⟨k,hk,rfl⟩:=List.getElem_of_mem hn;exact (e5 k hk).1
theorem ordE_take {l:List EntV} {k:Nat} (h:k < l.length):ordE (l.take k) l[k].1=true↔(∀ h0:0 < k,cmpL l[k - 1].1 l[k].1 = -1):=by
 by_cases h0:0 < k
 ·unfold ordE;rw [isEmpty_take h h0,getLastD_take _ h h0,Bool.false_or,decide_eq_true_eq];have:=cmp3_L.inn l[k - 1].1 l[k].1;exact ⟨fun x _=>by omega,fun x=>by have:=x h0;omega⟩
 ·obtain rfl:k=0:=by omega
  exact ⟨fun _ h=>(h0 h).elim,fun _=>rfl⟩
def EntIn (t:List ByteArray) (bound:Nat) (x:EntV):Prop:=x.1.1∈t∧x.1.2∈t∧x.2≠[]∧x.2.Pairwise (· < ·)∧∀ n∈x.2,n < bound
theorem entEnc_eq (t:List ByteArray) (x:EntV):entEnc t x=labEnc t x.1++(vint x.2.length++(difs x.2).flatMap vint):=by
 unfold entEnc labEnc;simp only [List.flatMap_cons,List.flatMap_nil,List.append_nil,List.append_assoc]
theorem entF_inv {t:List ByteArray} (ht:t.Nodup) {bound:Nat} {acc:List EntV} {x:EntV} {bs r:List Nat} (hb:∀ y∈bs,y < 256) (h:entF t bound acc bs=.ok (x,r)):bs=entEnc t x++r∧EntIn t bound x∧ordE acc x.1=true:=by
 unfold entF at h;obtain ⟨⟨a,q⟩,h1,h⟩:=xb_inv h;dsimp only at h;split at h
 ·rename_i ho
  obtain ⟨⟨z,q2⟩,h2,h⟩:=xb_inv h;injection h with h
  injection h with h3 h4
  dsimp only at h3 h4;subst h3 h4;obtain ⟨e1,m1,m2⟩:=labF_inv ht hb h1;obtain ⟨e2,m3,m4,m5⟩:=numsP_inv (fun y hy=>hb y (by rw [e1];exact List.mem_append.2 (.inr hy))) h2;rw [entEnc_eq];exact ⟨by rw [e1,e2];simp only [List.append_assoc],⟨m1,m2,m3,m4,m5⟩,ho⟩
 ·cases h
theorem posP_inv {t:List ByteArray} (ht:t.Nodup) {bound:Nat} {bs:List Nat} {l:List EntV} (hb:∀ y∈bs,y < 256) (h:posP t bound bs=.ok l):bs=posEnc t l∧(∀ x∈l,EntIn t bound x)∧(l.map (·.1)).Pairwise fun x y=>cmpL x y = -1:=by
 obtain ⟨h1,h2⟩:=lisP_inv (e:=fun _=>entEnc t) (P:=fun acc x=>EntIn t bound x∧ordE acc x.1=true) (fun acc bs x r hb h=>entF_inv ht hb h) hb h;refine ⟨?_,fun x hx=>?_,?_⟩
 ·unfold posEnc;rw [← encL_flat (entEnc t) l []];exact h1
 ·obtain ⟨k,hk,rfl⟩:=List.getElem_of_mem hx;exact (h2 k hk).1
 ·rw [List.pairwise_map];exact pairwise_of_next (R:=fun a b:EntV=>cmpL a.1 b.1 = -1) (fun a b c=>cmp3_L.trans _ _ _) fun k hk h0=>(ordE_take hk).1 (h2 k hk).2 h0
end
section
open Go Go.RowKit Go.Sort
def smpP (bs:List Nat):Except Nat (List Smpl):=xb (cget bs) fun p=>.ok (p.1.zip p.2)
def serC:List Nat→List Nat→Except Nat (List Smpl × List Nat)
 | [],d=>.ok ([],d)
 | n::ls,d=>xb (smpP (d.take n)) fun c=>if ls≠[]∧c.length≠120 then .error 23 else xb (serC ls (d.drop n)) fun z=>.ok (c++z.1,z.2)
def blkC:List (List Nat)→List Nat→Except Nat (List (List Smpl))
 | [],_=>.ok []
 | l::L,d=>xb (serC l d) fun z=>xb (blkC L z.2) fun Z=>.ok (z.1::Z)
def fitsZ:Nat→List Int→Bool
 | n,[]=>n == 0
 | n,c::l=>if c < 0∨(n:Int) < c then false else fitsZ (n - c.toNat) l
def chunksP (d:List Nat) (L:List (List Int)):Except Nat (List (List Smpl)):=if fitsZ d.length L.flatten=true then blkC (L.map fun l=>l.map Int.toNat) d else .error 23
def usedB (t:List ByteArray) (l:List Lab):Bool:=t.all fun s=>(strsOf l).any fun x=>decide (x.toList=s.toList)
def serW (s:BVal):Nat:=if chkL s.1≠0 then chkL s.1 else if s.2.length=0 then 21 else tmE s.2
def chkW:Option (List Lab)→List BVal→Nat
 | _,[]=>0
 | none,x::l=>if serW x≠0 then serW x else chkW (some x.1) l
 | some p,x::l=>if serW x≠0 then serW x else if cmpLs p x.1=0 then 19 else if cmpLs p x.1=1 then 16 else chkW (some x.1) l
def blkW (b:List BVal):Nat:=chkW none b
theorem chkB_val:∀ (l:List Ser) (p:Option Ser),chkB p l=chkW (p.map (·.labs)) (l.map valB)
 | [],p=>by cases p<;>rfl
 | x::l,none=>by
  show (if serE x≠0 then serE x else chkB (some x) l)=_
  rw [chkB_val l (some x)];rfl
 | x::l,some p=>by
  show (if serE x≠0 then serE x else if cmpLs p.labs x.labs=0 then 19 else if cmpLs p.labs x.labs=1 then 16 else chkB (some x) l)=_
  rw [chkB_val l (some x)];rfl
theorem blkE_val (l:List Ser):blkE l=blkW (l.map valB):=chkB_val l none
def blkOf (l:List RecV) (c:List (List Smpl)):List BVal:=List.zipWith (fun x y=>(x.1,y)) l c
def secsP (s:Secs):Except Nat (List BVal) :=
 xb (symsP s.1) fun t=>xb (recsP t s.2.1) fun l =>
  if usedB t (l.flatMap (·.1))=true then
   xb (chunksP s.2.2.1 (l.map fun x=>x.2.map fun n:Nat=>(n:Int))) fun c =>
    if blkW (blkOf l c)=0 then xb (posP t l.length s.2.2.2) fun x=>if x=posV (blkOf l c) then .ok (blkOf l c) else .error 22
    else .error (blkW (blkOf l c))
  else .error 15
def decP (bs:List Nat):Except Nat (List BVal):=xb (parseP bs) secsP
theorem partsL_nil:partsL []=[]:=List.eq_nil_of_length_eq_zero (by rw [partsL_len];rfl)
theorem partsL_cons {zs:List Smpl} (h:zs≠[]):partsL zs=zs.take 120::partsL (zs.drop 120):=by
 have hp:0 < zs.length:=List.length_pos_iff.2 h;have hl:=partsL_len zs;have hl2:=partsL_len (zs.drop 120);rw [List.length_drop] at hl2;apply List.ext_getElem
 ·rw [List.length_cons,hl,hl2];omega
 ·intro k h1 h2;rw [partsL_get];cases k with
  | zero =>
   rw [List.getElem_cons_zero,Nat.mul_zero,List.drop_zero,Nat.sub_zero];by_cases h3:zs.length≤120
   ·rw [Nat.min_eq_right h3,List.take_of_length_le (by omega),List.take_of_length_le h3]
   ·rw [Nat.min_eq_left (by omega)]
  | succ k =>
   rw [List.getElem_cons_succ,partsL_get,List.drop_drop,List.length_drop];rw [show 120+120*k=120*(k+1) by omega,show zs.length - 120 - 120*k=zs.length - 120*(k+1) by omega]
theorem chunksL_cons {zs:List Smpl} (h:zs≠[]):chunksL zs=chunkB (zs.take 120)::chunksL (zs.drop 120):=by unfold chunksL;rw [partsL_cons h];rfl
theorem chunksL_nil:chunksL []=[]:=by unfold chunksL;rw [partsL_nil];rfl
theorem smpP_inv {bs:List Nat} {z:List Smpl} (hb:∀ y∈bs,y < 256) (h:smpP bs=.ok z):bs=chunkB z∧z≠[]∧z.length≤120∧InS z:=by
 unfold smpP at h;obtain ⟨⟨ts,vs⟩,h1,h⟩:=xb_inv h;injection h with h
 obtain ⟨h2,h3,h4,h5,h6,h7⟩:=cget_inv hb h1;dsimp only at h;have e1:tsOf z=ts:=by rw [← h];exact List.map_fst_zip (by omega)
 have e2:vsOf z=vs:=by rw [← h];exact List.map_snd_zip (by omega)
 have hl:z.length=vs.length:=by rw [← e2,List.length_map]
 refine ⟨by unfold chunkB;rw [e1,e2];exact h7,fun e=>h2 (by rw [← e2,e];rfl),by omega,fun x hx=>⟨?_,?_⟩⟩
 ·exact h5 _ (by rw [← e1];exact List.mem_map.2 ⟨x,hx,rfl⟩)
 ·exact h6 _ (by rw [← e2];exact List.mem_map.2 ⟨x,hx,rfl⟩)
theorem lensL_cons {zs:List Smpl} (h:zs≠[]):lensL zs=(chunkB (zs.take 120)).length::lensL (zs.drop 120):=by unfold lensL;rw [chunksL_cons h];rfl
theorem serC_inv:∀ (ls:List Nat) {d r:List Nat} {zs:List Smpl},(∀ y∈d,y < 256)→ls.sum≤d.length→serC ls d=.ok (zs,r)→lensL zs=ls∧d=(chunksL zs).flatten++r∧InS zs∧(ls≠[]→zs≠[])∧r.length=d.length - ls.sum
 | [],d,r,zs,_,_,h=>by
  rw [serC] at h;injection h with h
  injection h with h1 h2
  subst h1 h2;unfold lensL;rw [chunksL_nil];exact ⟨rfl,rfl,fun z hz=>(by cases hz),fun h=>(h rfl).elim,by simp⟩
 | n::ls,d,r,zs,hb,hs,h=>by
  rw [List.sum_cons] at hs;rw [serC] at h;obtain ⟨c,h1,h⟩:=xb_inv h;split at h
  ·cases h
  ·rename_i h2
   obtain ⟨⟨z,r'⟩,h3,h⟩:=xb_inv h;injection h with h
   injection h with h4 h5
   dsimp only at h4 h5;subst h4 h5;obtain ⟨e1,e2,e3,e4⟩:=smpP_inv (fun y hy=>hb y (List.mem_of_mem_take hy)) h1;obtain ⟨f1,f2,f3,f4,f5⟩:=serC_inv ls (fun y hy=>hb y (List.mem_of_mem_drop hy)) (by rw [List.length_drop];omega) h3;have hcp:0 < c.length:=List.length_pos_iff.2 e2;have hne:c++z≠[]:=fun e=>by simp [List.length_pos_iff] at hcp;simp at e;exact hcp e.1
   have hz:ls=[]→z=[]:=fun e=>by
    subst e;rw [serC] at h3;injection h3 with h3
    injection h3 with h3 _
    exact h3.symm
   have hT:(c++z).take 120=c∧(c++z).drop 120=z:=by
    by_cases hl:ls=[]
    ·rw [hz hl,List.append_nil];exact ⟨List.take_of_length_le e3,List.drop_of_length_le e3⟩
    ·have:c.length=120:=Classical.byContradiction fun k=>h2 ⟨hl,k⟩
     rw [← this];exact ⟨List.take_left,List.drop_left⟩
   have hlen:(d.take n).length=n:=by rw [List.length_take];omega
   refine ⟨?_,?_,fun x hx=>?_,fun _=>hne,?_⟩
   ·rw [lensL_cons hne,hT.1,hT.2,f1,← e1,hlen]
   ·rw [chunksL_cons hne,hT.1,hT.2,List.flatten_cons,List.append_assoc,← f2,← e1,List.take_append_drop]
   ·rcases List.mem_append.1 hx with hx | hx
    ·exact e4 x hx
    ·exact f3 x hx
   ·rw [f5,List.length_drop,List.sum_cons];omega
theorem fitsZ_nat:∀ (l:List Nat) (n:Nat),fitsZ n (l.map fun x:Nat=>(x:Int))=true↔l.sum=n
 | [],n=>by
  show (n == 0)=true↔0=n
  rw [beq_iff_eq];exact ⟨Eq.symm,Eq.symm⟩
 | c::l,n=>by
  rw [List.map_cons,fitsZ,List.sum_cons];by_cases h:n < c
  ·rw [if_pos (by omega)];constructor
   ·intro h;cases h
   ·intro h;omega
  ·rw [if_neg (by omega),Int.toNat_natCast,fitsZ_nat l];omega
theorem blkC_inv:∀ (L:List (List Nat)) {d:List Nat} {Z:List (List Smpl)},(∀ y∈d,y < 256)→L.flatten.sum=d.length→blkC L d=.ok Z→L=Z.map lensL∧d=Z.flatMap (fun z=>(chunksL z).flatten)∧(∀ z∈Z,InS z)∧((∀ l∈L,l≠[])→∀ z∈Z,z≠[])
 | [],d,Z,_,hs,h=>by
  rw [blkC] at h;injection h with h
  subst h;have:d=[]:=List.eq_nil_of_length_eq_zero hs.symm;exact ⟨rfl,this,fun z hz=>(by cases hz),fun _ z hz=>(by cases hz)⟩
 | l::L,d,Z,hb,hs,h=>by
  rw [List.flatten_cons,List.sum_append] at hs;rw [blkC] at h;obtain ⟨⟨z,r⟩,h1,h⟩:=xb_inv h;obtain ⟨Z',h2,h⟩:=xb_inv h;injection h with h
  subst h;dsimp only at h2 ⊢;obtain ⟨e1,e2,e3,e4,e5⟩:=serC_inv l hb (by omega) h1;obtain ⟨f1,f2,f3,f4⟩:=blkC_inv L (fun y hy=>hb y (by rw [e2];exact List.mem_append.2 (.inr hy))) (by rw [e5];omega) h2;refine ⟨by rw [List.map_cons,e1,← f1],by rw [List.flatMap_cons,← f2,← e2],fun x hx=>?_,fun hl x hx=>?_⟩
  ·rcases List.mem_cons.1 hx with rfl | hx
   ·exact e3
   ·exact f3 x hx
  ·rcases List.mem_cons.1 hx with rfl | hx
   ·exact e4 (hl l List.mem_cons_self)
   ·exact f4 (fun m hm=>hl m (List.mem_cons_of_mem _ hm)) x hx
theorem toNat_map (l:List Nat):(l.map fun x:Nat=>(x:Int)).map Int.toNat=l:=by
 rw [List.map_map];exact (List.map_congr_left fun x _=>rfl).trans (List.map_id l)
theorem toNat_mapL (L:List (List Nat)):(L.map fun l=>l.map fun x:Nat=>(x:Int)).map (fun l=>l.map Int.toNat)=L:=by
 rw [List.map_map];exact (List.map_congr_left fun x _=>toNat_map x).trans (List.map_id L)
theorem flatten_mapL (L:List (List Nat)):(L.map fun l=>l.map fun x:Nat=>(x:Int)).flatten=L.flatten.map fun x:Nat=>(x:Int):=by rw [List.map_flatten]
theorem chunksP_nat (d:List Nat) (L:List (List Nat)):chunksP d (L.map fun l=>l.map fun x:Nat=>(x:Int))=if L.flatten.sum=d.length then blkC L d else .error 23:=by
 unfold chunksP;rw [flatten_mapL,toNat_mapL];by_cases h:L.flatten.sum=d.length
 ·rw [if_pos h,if_pos ((fitsZ_nat _ _).2 h)]
 ·rw [if_neg h,if_neg (fun e=>h ((fitsZ_nat _ _).1 e))]
end
section
open Go Go.RowKit Go.Lib Go.Sort Go.Shelf
def growI_ren:Go.Shelf.Ren:=⟨fun | 4=>196 | n=>n,fun | 22=>56 | 25=>3 | 3=>3 | 4=>4 | 9=>9 | 20=>20 | 0=>0 | n=>n,fun | n=>n⟩
theorem growI:Go.Proofs.Lays8.n4 Tryz.prog growI_ren:={
 mixed:=by kernel_rfl
 f4:=⟨Tryz.f196.name,by decide,Tryz.func196.trans (congrArg some (by kernel_rfl))⟩
 t0:=Tryz.underlying0
 a0:=Tryz.isAgg0
 z0:=Tryz.sizeOf0
 v0:=Tryz.zeroValue0
 t3:=Tryz.underlying3
 a3:=Tryz.isAgg3
 z3:=Tryz.sizeOf3
 v3:=Tryz.zeroValue3
 t4:=Tryz.underlying4
 a4:=Tryz.isAgg4
 z4:=Tryz.sizeOf4
 v4:=Tryz.zeroValue4
 t9:=Tryz.underlying9
 a9:=Tryz.isAgg9
 z9:=Tryz.sizeOf9
 v9:=Tryz.zeroValue9
 t20:=Tryz.underlying20
 a20:=Tryz.isAgg20
 z20:=Tryz.sizeOf20
 v20:=Tryz.zeroValue20
 t22:=Tryz.underlying56
 a22:=Tryz.isAgg56
 z22:=Tryz.sizeOf56
 v22:=Tryz.zeroValue56 }
theorem GrowI_nil (w:World) (n:Nat) (hm:n≤1000000) :
  Calls Tryz.prog 196 #[.slice none 0 0,.int .i64 (n:Int)] w fun e w'=>∃ b' A' c',e=.returned (.slice A' 0 c')∧Ow w' b' 3 1 A' 0 c' []∧w.heap.size≤b'∧Nw w w':=by
 by_cases h0:n=0
 ·subst h0;refine (Any8.slices_Grow_room growI none 0 0 0 w (by omega) (by omega) (by omega) (by omega)).mono ?_;rintro e w' ⟨rfl,rfl⟩;exact ⟨w'.heap.size,none,0,rfl,Ow.nil _ _ _ _,Nat.le_refl _,Nw.refl _⟩
 ·obtain ⟨i0,hi,hz0,hz1,hz2⟩:=E_int.info;refine (Any8.slices_Grow_grow growI i0 (.int .i64 0) hi hz0 (by omega) none 0 0 n [] w (by omega) (by omega) (by rw [hz2];omega) (by omega) (by simp) (fun _=>rfl) (by intro a h;cases h)).mono ?_;rintro e w' ⟨rfl,rfl⟩;refine ⟨w.heap.size,_,_,rfl,.inr ⟨rfl,by simp,rfl,.inr ⟨w.heap.size,_,_,rfl,Nat.zero_le _,heap_alloc_new _ _,by omega,?_,?_,by simp⟩⟩,Nat.le_refl _,(Nw.drewN' (Nw.refl w) 1).alloc' _⟩
  ·exact grownCap_le_maxLen w (0+n) 0 _ (by unfold maxLen;omega)
  ·have hge:=grownCap_ge w (0+n) 0 (growI_ren.t 25);have e:(Value.int .i64 0).cells.size=1:=rfl;simp only [Array.size_append,size_zeroCells,e,List.size_toArray,List.length_nil];omega
structure IntS where
 zs:List Int
 b:Nat
 A:Option Addr
 c:Nat
def cLen (l:List IntS):List Value:=l.map fun s=>.slice s.A s.zs.length s.c
def InInt (w:World) (s:IntS):Prop:=Rd w s.b s.A (cI .i64 s.zs)∧(s.A=none→s.c=0)
def flatI (L:List IntS) (k:Nat):List Int:=((L.take k).map (·.zs)).flatten
theorem flatI_snoc {L:List IntS} {k:Nat} (h:k < L.length):flatI L (k+1)=flatI L k++L[k].zs:=by
 unfold flatI;rw [List.take_succ_eq_append_getElem h,List.map_append,List.flatten_append];simp
theorem flatI_le (L:List IntS) (k:Nat):(flatI L k).length≤((L.map (·.zs)).flatten).length:=by
 unfold flatI;have h:L=L.take k++L.drop k:=(List.take_append_drop k L).symm;rw [show (L.map (·.zs)).flatten=((L.take k).map (·.zs)).flatten++((L.drop k).map (·.zs)).flatten by rw [← List.flatten_append,← List.map_append,List.take_append_drop],List.length_append];omega
set_option maxRecDepth 100000 in
set_option maxHeartbeats 1000000 in
theorem ConcatI_any (w:World) (b m c:Nat) (A:Option Addr) (L:List IntS) (hm:m=L.length) (hm1:m≤1000000) (hr:Rd w b A (cLen L)) (hI:∀ s∈L,InInt w s) (hF:((L.map (·.zs)).flatten).length≤1000000) :
  Calls Tryz.prog 136 #[.slice A m c] w fun e w'=>∃ b' A' c',e=.returned (.slice A' ((L.map (·.zs)).flatten).length c')∧Ow w' b' 3 1 A' ((L.map (·.zs)).flatten).length c' (cI .i64 (L.map (·.zs)).flatten)∧w.heap.size≤b'∧Nw w w':=by
 have hall:flatI L m=(L.map (·.zs)).flatten:=by unfold flatI;rw [List.take_of_length_le (by omega)]
 have HLe:=hid fun k=>Nat.le_trans (flatI_le L k) hF
 rw [← hall] at hF ⊢;have HG:=hid (GrowI_nil w _ hF);have HR:=hid hr;have HI:=hid hI;have HM:=hid hm;clear hr hI hm hall hF;go_enter Tryz.func136,Tryz.ntmps136
 go_wp2;go_loopw [3,11] (fun s i wr=>∃ k:Nat,k≤m∧i=.int .i64 k∧s=.int .i64 ((flatI L k).length:Int)∧w=wr) (fun _ i _=>m - (intOf i).toNat)
 case atStart=>exact ⟨0,by omega,rfl,rfl,rfl⟩
 case round =>
  obtain ⟨k,hk,rfl,rfl,rfl⟩:=hrel;by_cases hlt:k < m
  ·have hkl:k < L.length:=by rw [← HM.out];exact hlt
   obtain ⟨o,rfl,hob,hc⟩:=HR.out.get (k:=k) (by unfold cLen;rw [List.length_map];exact hkl);unfold cLen at hc;rw [List.getElem_map] at hc;have h1:=HLe.out (k+1);have h2:=flatI_snoc hkl;generalize L[k]=s at *;obtain ⟨e,he⟩:∃ e,s.zs.length=e:=⟨_,rfl⟩;obtain ⟨u,hu⟩:∃ u,(flatI L k).length=u:=⟨_,rfl⟩;rw [h2,List.length_append,he,hu] at h1;rw [he] at hc;rw [hu];have HU2:Hid ((flatI L (k+1)).length=u+e):=hid (by rw [h2,List.length_append,he,hu]);have hub:u≤1000000:=by omega
   have heb:e≤1000000:=by omega
   clear h1 h2 he hu hkl;go_wp2;go_roundw
   case rel=>exact ⟨k+1,by omega,by go_num,by rw [HU2.out];simp,by first | rfl | trivial⟩
   case measure=>simp [intOf];omega
  ·obtain rfl:k=m:=by omega
   go_wp2_with (go_at_call 196;refine HG.out.mono ?_;rintro e w1 ⟨bg,Ag,cg,rfl,hO,hbg,hN⟩)
   have HO:=hid hO;clear hO;go_loopw [6,27] (fun s i wr=>∃ (j b':Nat) (A':Option Addr) (c':Nat),j≤k∧i=.int .i64 j∧s=.slice A' (flatI L j).length c'∧Hid (Ow wr b' 3 1 A' (flatI L j).length c' (cI .i64 (flatI L j)))∧w.heap.size≤b'∧Hid (Nw w wr)) (fun _ i _=>k - (intOf i).toNat)
   case atStart=>exact ⟨0,bg,Ag,cg,by omega,rfl,rfl,HO,hbg,hid hN⟩
   case round =>
    obtain ⟨j,b',A',c',hj,rfl,rfl,HO',hb',HN'⟩:=hrel;by_cases hlt:j < k
    ·have hkl:j < L.length:=by rw [← HM.out];exact hlt
     obtain ⟨o,rfl,hob,hc⟩:=(HR.out.nw HN'.out).get (k:=j) (by unfold cLen;rw [List.length_map];exact hkl);unfold cLen at hc;rw [List.getElem_map] at hc;have h1:=HLe.out (j+1);have h2:=flatI_snoc hkl;have HS:=hid (HI.out L[j] (List.getElem_mem hkl));generalize L[j]=s at *;obtain ⟨e,he⟩:∃ e,s.zs.length=e:=⟨_,rfl⟩;obtain ⟨u,hu⟩:∃ u,(flatI L j).length=u:=⟨_,rfl⟩;rw [h2,List.length_append,he,hu] at h1;rw [he] at hc;rw [hu] at HO';rw [hu];have HU2:Hid ((flatI L (j+1)).length=u+e∧flatI L (j+1)=flatI L j++s.zs):=hid ⟨by rw [h2,List.length_append,he,hu],h2⟩;have hub:u≤1000000:=by omega
     have heb:e≤1000000:=by omega
     have HE:=hid he;have hnil:=HS.out.2;clear h1 h2 he hu hkl hN hbg;go_wp2_with (at_builtin;refine wpList_app E_int rfl (.tmp 31) (.tmp 32) rfl rfl HO'.out rfl (HS.out.1.nw HN'.out) (by unfold cI;rw [List.length_map,HE.out,Nat.mul_one]) hnil (by intro v hv;obtain ⟨z,_,rfl⟩:=List.mem_map.1 hv;rfl) (by simp only [maxLen];omega) (by omega) ?_;intro b3 A3 c3 w3 h7 h8 h9 h10;have H7:=hid h7;have H8:=hid h8;have H9:=hid h9;clear h7 h8 h9 h10)
     go_roundw
     case rel =>
      have hs:=HN'.out.size;refine ⟨j+1,b3,A3,c3,by omega,by go_num,by rw [HU2.out.1],?_,by rcases H8.out with h | h<;>omega,hid (Kp.nw HN'.out H9.out hb' hb')⟩;refine hid ?_;have:=H7.out;rw [HU2.out.1,HU2.out.2];unfold cI at this ⊢;rw [List.map_append];exact this
     case measure=>simp [intOf];omega
    ·obtain rfl:j=k:=by omega
     go_wp2;go_ret;exact ⟨b',A',c',rfl,HO'.out,hb',HN'.out⟩
set_option maxRecDepth 100000 in
set_option maxHeartbeats 1000000 in
theorem dfits_any (w:World) (n b m c:Nat) (A:Option Addr) (L:List IntS) (hn:n≤1000000000) (hm:m=L.length) (hm1:m≤1000000) (hr:Rd w b A (cLen L)) (hI:∀ s∈L,InInt w s) (hF:((L.map (·.zs)).flatten).length≤1000000) :
  Calls Tryz.prog 75 #[.int .i64 (n:Int),.slice A m c] w fun e w'=>e=.returned (.bool (fitsZ n (L.map (·.zs)).flatten))∧Nw w w':=by
 have HC:=hid (ConcatI_any w b m c A L hm hm1 hr hI hF);generalize (L.map (·.zs)).flatten=F at *;obtain ⟨R,hR⟩:∃ R,fitsZ n F=R:=⟨_,rfl⟩;rw [hR];have HR:=hid hR;obtain ⟨N,hN⟩:∃ N,F.length=N:=⟨_,rfl⟩;rw [hN] at HC hF;have HN:=hid hN;clear hr hI hm hR hN;go_enter Tryz.func75,Tryz.ntmps75
 go_wp2_with fail;refine HC.out.mono ?_;rintro e w1 ⟨b1,A1,c1,rfl,hO,_,hN1⟩;have HO:=hid hO;have HN1:=hid hN1;clear hO hN1 HC;go_wp2_with fail
 go_loop [0,10] (fun v i=>∃ (k q:Nat),k≤N∧i=.int .i64 (k:Int)∧v=.int .i64 (q:Int)∧q≤n∧Hid (fitsZ q (F.drop k)=R)) (fun _ i=>N - (intOf i).toNat)
 case atStart=>exact ⟨0,n,Nat.zero_le _,rfl,rfl,Nat.le_refl _,HR⟩
 case round =>
  obtain ⟨k,q,hk,rfl,rfl,hq,HB⟩:=hrel;by_cases hlt:k < N
  ·have hltI:(k:Int) < (N:Int):=by omega
   have hkF:k < F.length:=by rw [HN.out];exact hlt
   obtain ⟨o,rfl,_,hc⟩:=HO.out.rd.get (k:=k) (by unfold cI;rw [List.length_map];exact hkF);unfold cI at hc;rw [List.getElem_map] at hc;have hd:=HB.out;rw [List.drop_eq_getElem_cons hkF,fitsZ] at hd;generalize F[k]=z at *;have HD:=hid hd;clear hd hkF HB;by_cases hz:z < 0∨(q:Int) < z
   ·have HE:Hid (R=false):=hid (by have:=HD.out;rw [if_pos hz] at this;exact this.symm);by_cases h0:z < 0
    case' pos=>clear hz
    case' neg =>
     have hz2:(q:Int) < z:=hz.resolve_left h0;clear hz
    all_goals
     go_wp2_with fail;go_ret;exact ⟨by rw [HE.out];rfl,HN1.out⟩
   ·have h1:¬ z < 0:=fun h=>hz (.inl h)
    have h2:¬ (q:Int) < z:=fun h=>hz (.inr h)
    have HE:Hid (fitsZ (q - z.toNat) (F.drop (k+1))=R):=hid (by have:=HD.out;rw [if_neg hz] at this;exact this);obtain ⟨y,rfl⟩:∃ y:Nat,z=(y:Int):=⟨z.toNat,by omega⟩;obtain ⟨S,hS⟩:∃ S,q - y=S:=⟨_,rfl⟩;have hSI:(q:Int) - (y:Int)=(S:Int):=by omega
    have HS:Hid (q - (y:Int).toNat=S):=hid (by rw [Int.toNat_natCast];exact hS);have h2N:¬ q < y:=by omega
    have h2D:decide (q < y)=false:=decide_eq_false h2N;have hSn:S≤n:=by omega
    clear hz hS HD;go_wp2_with fail
    go_round
    case rel=>exact ⟨k+1,S,by omega,by go_num,rfl,hSn,hid (by rw [← HS.out];exact HE.out)⟩
    case measure=>simp [intOf];omega
  ·have hltI:¬ (k:Int) < (N:Int):=by omega
   have hd:=HB.out;rw [List.drop_of_length_le (by have:=HN.out;omega)] at hd;have hd:(q == 0)=R:=hd;have HD:=hid hd;clear hd hlt HB;by_cases hq0:q=0
   ·have hqI:((q:Int) == 0)=true:=by rw [beq_iff_eq];omega
    have HQ:=hid hq0;clear hq0;go_wp2_with fail;go_ret;refine ⟨?_,HN1.out⟩;rw [← HD.out,HQ.out];rfl
   ·have hqI:((q:Int) == 0)=false:=by rw [beq_eq_false_iff_ne];omega
    have HQ:=hid hq0;clear hq0;go_wp2_with fail;go_ret;refine ⟨?_,HN1.out⟩;rw [← HD.out,show (q == 0)=false by rw [beq_eq_false_iff_ne];exact HQ.out];rfl
end
section
open Go Go.RowKit Go.Lib Go.Sort Go.Shelf
abbrev Rest:=Except Nat (List Nat)
def eOf {α:Type} (x:Except Nat α):Nat:=match x with | .ok _=>0 | .error k=>k
def vOf {α:Type} (d:α) (X:Except Nat (α × List Nat)):α:=match X with | .ok p=>p.1 | .error _=>d
def sOf {α:Type} (X:Except Nat (α × List Nat)):Rest:=match X with | .ok p=>.ok p.2 | .error k=>.error k
def failX (E:Nat) (x:Rest):Rest:=match x with | .ok _=>.error E | .error k=>.error k
structure TIn (W:World) (g bt:Nat) (At:Option Addr) (nt:Nat) (t:List ByteArray):Prop where
 rd:Rd W bt At (cT t)
 len:nt=t.length
 max:nt≤1000000000
 ne:bt≠g
section
variable {W W':World} {g b n c bt nt:Nat} {A At:Option Addr} {xs:List Nat} {x:Rest} {t:List ByteArray}
theorem TIn.kp (h:TIn W g bt At nt t) (hk:Kp g g W W'):TIn W' g bt At nt t:=⟨h.rd.kp hk h.ne h.ne,h.len,h.max,h.ne⟩
theorem TIn.nw (h:TIn W g bt At nt t) (hN:Nw W W'):TIn W' g bt At nt t:=⟨h.rd.nw hN,h.len,h.max,h.ne⟩
end
theorem countP_sfx {bs r:List Nat} {v:Nat} (h:countP bs=.ok (v,r)):∃ u,bs=u++r:=vget_ext.sfx (countP_ok h).1
section
variable (w:World) (g b n c bt nt ct:Nat) (A At:Option Addr) (xs:List Nat) (x:Rest) (t:List ByteArray)
def endX (x:Rest):Except Nat Unit:=xb x fun r=>if r=[] then .ok () else .error 4
end
end
section
open Go Go.RowKit Go.Lib Go.Sort Go.Shelf
theorem labs_eq (t:List ByteArray) (x:Rest):xb x (labsP t)=xb (sOf (xb x countP)) fun r=>repP (labF t) (vOf 0 (xb x countP)) [] r:=by
 cases x with
 | error k=>rfl
 | ok r =>
  show labsP t r=xb (sOf (countP r)) _
  unfold labsP;cases h:countP r with
  | error k=>rfl
  | ok p=>simp only [xb,sOf,vOf,h]
theorem vOf_le {bs:Rest} {n:Nat} (h:∀ r,bs=.ok r→r.length≤n):vOf 0 (xb bs countP)≤n:=by
 cases bs with
 | error k=>exact Nat.zero_le _
 | ok r =>
  show vOf 0 (countP r)≤n
  cases hc:countP r with
  | error k=>exact Nat.zero_le _
  | ok p =>
   obtain ⟨v,q⟩:=p;obtain ⟨u,hu⟩:=countP_sfx hc;have h1:=(countP_ok hc).2;have h2:=h r rfl;have h3:=congrArg List.length hu;rw [List.length_append] at h3;show v≤n
   omega
end
section
open Go Go.RowKit Go.Lib Go.Sort Go.Shelf
def SmpGot (w:World) (X:Except Nat (List Smpl)) (e:Ending) (w':World):Prop :=
 (match X with
  | .ok z=>∃ b' A c,e=.returned (.tuple #[.slice A z.length c,.int .i64 0])∧Ow w' b' 99 2 A z.length c (cS z)∧w.heap.size≤b'
  | .error k=>e=.returned (.tuple #[.slice none 0 0,.int .i64 (k:Int)])∧k≠0)∧Nw w w'
theorem smp_got {w w':World} {e:Ending} {bs:List Nat} (hb:∀ y∈bs,y < 256) (h:DcGot w (cget bs) e w'):SmpGot w (smpP bs) e w':=by
 unfold smpP;cases hc:cget bs with
 | error k=>rw [hc] at h;exact h
 | ok p =>
  obtain ⟨ts,vs⟩:=p;rw [hc] at h;have hl:=(cget_inv hb hc).2;obtain ⟨⟨b',A,c,h1,h2,h3⟩,h4⟩:=h;have e:(ts.zip vs).length=ts.length:=by rw [List.length_zip];omega
  refine ⟨⟨b',A,c,?_,?_,h3⟩,h4⟩
  ·dsimp only;rw [e];exact h1
  ·dsimp only;rw [e];exact h2
theorem smpP_len {bs:List Nat} {z:List Smpl} (hb:∀ y∈bs,y < 256) (h:smpP bs=.ok z):z.length≤120:=(smpP_inv hb h).2.2.1
structure DatS (w:World) (b:Nat) (A:Option Addr) (q c:Nat) (d:List Nat):Prop where
 rd:Rd w b A (cN .u8 d)
 len:q=d.length
 cap:q≤c
 max:q≤1000000
 byt:∀ y∈d,y < 256
theorem DatS.cut {w:World} {b q c:Nat} {A:Option Addr} {d:List Nat} (h:DatS w b A q c d) (n:Nat) (hn:n≤q):DatS w b (if c=n then A else A.map (·.add n)) (q - n) (c - n) (d.drop n):=by
 have h1:=h.rd.cut (k:=n) (cap:=c) (size:=1) (by rw [List.length_map,← h.len,Nat.mul_one];exact h.cap);refine ⟨?_,by rw [List.length_drop,← h.len],by have:=h.cap;omega,by have:=h.max;omega,fun y hy=>h.byt y (List.mem_of_mem_drop hy)⟩;rw [Nat.mul_one] at h1;unfold cN at h1 ⊢;rw [List.map_drop];exact h1
structure SmS where
 zs:List Smpl
 b:Nat
 A:Option Addr
 c:Nat
def SmS.cell (s:SmS):Value:=.slice s.A s.zs.length s.c
def nilSm:SmS:=⟨[],0,none,0⟩
def OwS (w W:World) (r:SmS):Prop:=OwN w W r.b 99 2 r.A r.zs.length r.c (cS r.zs)
theorem OwS.nilSm (w W:World):OwS w W nilSm:=OwN.nil _ _ _ _ _
def outC (rows:List SmS) (cur:SmS) (m:Nat):Array Value:=(rows.map SmS.cell++cur.cell::List.replicate (m - rows.length - 1) (.slice none 0 0)).toArray
theorem outC_get (rows:List SmS) (cur:SmS) (m:Nat):(outC rows cur m)[rows.length]? = some cur.cell:=by simp [outC]
theorem outC_set (rows:List SmS) (cur cur':SmS) (m:Nat):(outC rows cur m).setIfInBounds rows.length cur'.cell=outC rows cur' m:=by
 unfold outC;apply Array.ext'
 simp [List.set_append_right]
structure ChI (wx W:World) (OB:Nat) (rows:List SmS) (cur:SmS) (m:Nat):Prop where
 kp:Kp OB OB wx W
 ob:W.heap[OB]? = some (.cells (outC rows cur m) 63 (0,0))
 cu:OwS wx W cur
theorem ChI.nw {wx W W':World} {OB m:Nat} {rows:List SmS} {cur:SmS} (h:ChI wx W OB rows cur m) (hN:Nw W W'):ChI wx W' OB rows cur m :=
 ⟨h.kp.nw' hN,(hN.block _ (lt_of_block h.ob)).trans h.ob,h.cu.nw hN⟩
theorem ChI.add {wx W W9:World} {OB m b5 c5:Nat} {A5:Option Addr} {rows:List SmS} {cur:SmS} {z:List Smpl} (h:ChI wx W OB rows cur m) (q1:OwN wx W9 b5 99 2 A5 (cur.zs.length+z.length) c5 (cS cur.zs++cS z)) (q2:Up wx W W9) (q3:KtyL [99] W W9) :
  W9.frozen? ⟨OB,rows.length,none⟩=false∧W9.cell? ⟨OB,rows.length,none⟩=some cur.cell∧Hid (ChI wx (W9.setCell ⟨OB,rows.length,none⟩ (.slice A5 (cur.zs.length+z.length) c5)) OB rows ⟨cur.zs++z,b5,A5,c5⟩ m):=by
 have hz:=q3.get h.ob (by decide);have hks:Kp OB OB W9 (W9.setCell ⟨OB,rows.length,none⟩ (.slice A5 (cur.zs.length+z.length) c5)):=(Kp.refl _ _ _).setCell' (p:=⟨OB,rows.length,none⟩) (.inl rfl) _;have hkl:=hks.ktl hz;have e:(.slice A5 (cur.zs.length+z.length) c5:Value)=(⟨cur.zs++z,b5,A5,c5⟩:SmS).cell:=by unfold SmS.cell;rw [List.length_append]
 refine ⟨at_free hz,(cell_at (k:=rows.length) hz).trans (outC_get rows cur m),hid ⟨(h.kp.up q2).trans hks (.inl rfl) (.inl rfl),?_,?_⟩⟩
 ·have:=set_at (k:=rows.length) (.slice A5 (cur.zs.length+z.length) c5) hz;rw [e,outC_set] at this;rw [e];exact this
 ·unfold OwS;have:=q1.keep hkl (by decide);rw [List.length_append];unfold cS at this ⊢;rw [c2_append];exact this
def ChOut (w:World) (X:Except Nat (List (List Smpl))) (e:Ending) (w':World):Prop :=
 Nw w w'∧match X with
  | .ok Z=>∃ (rows:List SmS) (bo:Nat) (Ao:Option Addr) (co:Nat),e=.returned (.tuple #[.slice Ao Z.length co,.int .i64 0])∧OwN w w' bo 63 1 Ao Z.length co (rows.map SmS.cell)∧rows.map (·.zs)=Z∧∀ r∈rows,OwS w w' r
  | .error k=>e=.returned (.tuple #[.slice none 0 0,.int .i64 (k:Int)])∧k≠0
theorem make_rows (W:World) (n:Nat) (h:n≤1000000):(Instr.makeSlice 57 (.int .i64 (n:Int)) (.int .i64 (n:Int))).run Tryz.prog W=.ok (.slice (some ⟨W.heap.size,0,none⟩) n n) (W.alloc (.cells (madeCells #[.slice none 0 0] n) 63)):=by
 obtain ⟨i0,hi,hz0,hz1,hz2⟩:=E_rows.info;have:=run_make (P:=Tryz.prog) (w:=W) 57 63 i0 (.slice none 0 0) Tryz.underlying57 hi hz0 .i64 .i64 n n (by omega) (by omega) (by rw [hz2];omega) (by omega);rw [hz1] at this;simpa [Value.cells] using this
theorem made_rows (m:Nat):(madeCells #[(.slice none 0 0:Value)] m).toList=List.replicate m (.slice none 0 0):=by
 apply List.ext_getElem?
 intro j;by_cases h:j < m
 ·rw [List.getElem?_eq_getElem (by simpa [madeCells] using h)];simp [madeCells,h,Nat.mod_one]
 ·rw [List.getElem?_eq_none (by simp [madeCells];omega),List.getElem?_eq_none (by simp;omega)]
theorem serC_step (n:Nat) (ls d:List Nat):serC (n::ls) d=xb (smpP (d.take n)) fun c=>if ls≠[]∧c.length≠120 then .error 23 else xb (serC ls (d.drop n)) fun z=>.ok (c++z.1,z.2):=rfl
theorem blkC_step (l:List Nat) (L:List (List Nat)) (d:List Nat):blkC (l::L) d=xb (serC l d) fun z=>xb (blkC L z.2) fun Z=>.ok (z.1::Z):=rfl
def serA (cur:List Smpl) (X:Except Nat (List Smpl × List Nat)):Except Nat (List Smpl × List Nat):=xb X fun z=>.ok (cur++z.1,z.2)
def blkA (done:List (List Smpl)) (X:Except Nat (List (List Smpl))):Except Nat (List (List Smpl)):=xb X fun Z=>.ok (done++Z)
theorem serA_ok {cur c:List Smpl} {n:Nat} {ls d:List Nat} {S:Except Nat (List Smpl × List Nat)} (h:serA cur (serC (n::ls) d)=S) (hc:smpP (d.take n)=.ok c) (h1:¬ (ls≠[]∧c.length≠120)):serA (cur++c) (serC ls (d.drop n))=S:=by
 rw [serC_step,hc,xb_ok,if_neg h1] at h;rw [← h];unfold serA;cases serC ls (d.drop n) with
 | error k=>rfl
 | ok z=>simp [xb]
theorem serA_bad {cur c:List Smpl} {n:Nat} {ls d:List Nat} {S:Except Nat (List Smpl × List Nat)} (h:serA cur (serC (n::ls) d)=S) (hc:smpP (d.take n)=.ok c) (h1:ls≠[]∧c.length≠120):S=.error 23:=by
 rw [serC_step,hc,xb_ok,if_pos h1] at h;exact h.symm
theorem serA_er {cur:List Smpl} {n k:Nat} {ls d:List Nat} {S:Except Nat (List Smpl × List Nat)} (h:serA cur (serC (n::ls) d)=S) (hc:smpP (d.take n)=.error k):S=.error k:=by
 rw [serC_step,hc] at h;exact h.symm
theorem blkA_ok {done:List (List Smpl)} {l:List Nat} {L:List (List Nat)} {d d':List Nat} {z:List Smpl} {B:Except Nat (List (List Smpl))} (h:blkA done (blkC (l::L) d)=B) (hz:serC l d=.ok (z,d')):blkA (done++[z]) (blkC L d')=B:=by
 rw [blkC_step,hz,xb_ok] at h;rw [← h];unfold blkA;cases blkC L d' with
 | error k=>rfl
 | ok Z=>simp [xb]
theorem blkA_er {done:List (List Smpl)} {l:List Nat} {L:List (List Nat)} {d:List Nat} {k:Nat} {B:Except Nat (List (List Smpl))} (h:blkA done (blkC (l::L) d)=B) (hz:serC l d=.error k):B=.error k:=by
 rw [blkC_step,hz] at h;exact h.symm
theorem fitsZ_pos:∀ (l:List Int) (n:Nat),fitsZ n l=true→(∀ z∈l,0≤z)∧(l.map Int.toNat).sum=n
 | [],n,h=>⟨fun z hz=>(by cases hz),by have:=beq_iff_eq.1 (show (n == 0)=true from h);rw [this];rfl⟩
 | c::l,n,h=>by
  rw [fitsZ] at h;split at h
  ·cases h
  ·rename_i h0
   obtain ⟨h1,h2⟩:=fitsZ_pos l _ h;refine ⟨fun z hz=>?_,?_⟩
   ·rcases List.mem_cons.1 hz with rfl | hz
    ·omega
    ·exact h1 z hz
   ·rw [List.map_cons,List.sum_cons,h2];omega
end
section
open Go Go.RowKit Go.Lib Go.Sort Go.Shelf
def outR (rows:List SmS) (m:Nat):Array Value:=(rows.map SmS.cell++List.replicate (m - rows.length) (.slice none 0 0:Value)).toArray
theorem outR_cur {rows:List SmS} {m:Nat} (h:rows.length < m):outR rows m=outC rows nilSm m:=by
 unfold outR outC;rw [show m - rows.length=(m - rows.length - 1)+1 by omega,List.replicate_succ];rfl
theorem outR_fin {rows:List SmS} {cur:SmS} {m:Nat}:outC rows cur m=outR (rows++[cur]) m:=by
 unfold outR outC;rw [List.map_append,List.append_assoc,List.length_append,show m - rows.length - 1=m - (rows.length+[cur].length) by simp;omega];rfl
theorem outR_end {rows:List SmS} {m:Nat} (h:rows.length=m):(outR rows m).toList=rows.map SmS.cell:=by
 unfold outR;rw [h,Nat.sub_self];simp
theorem blkA_nil (X:Except Nat (List (List Smpl))):blkA [] X=X:=by cases X<;>rfl
theorem serA_nil (X:Except Nat (List Smpl × List Nat)):serA [] X=X:=by cases X<;>rfl
set_option maxRecDepth 100000 in
set_option maxHeartbeats 4000000 in
theorem PChunks_any (w:World) (b n c bL m cL:Nat) (A AL:Option Addr) (xs:List Nat) (L:List IntS) (hn:n=xs.length) (hnc:n≤c) (hm:n≤1000000) (hr:Rd w b A (cN .u8 xs)) (hx:∀ x∈xs,x < 256)
  (hmL:m=L.length) (hm1:m≤1000000) (hrL:Rd w bL AL (cLen L)) (hI:∀ s∈L,InInt w s) (hF:((L.map (·.zs)).flatten).length≤1000000) (hG:Gl w) :
  Calls Tryz.prog 36 #[.slice A n c,.slice AL m cL] w (ChOut w (chunksP xs (L.map (·.zs)))):=by
 have HFt:=hid (dfits_any w n bL m cL AL L (by omega) hmL hm1 hrL hI hF);unfold chunksP;rw [← hn];obtain ⟨R,hR⟩:∃ R,fitsZ n (L.map (·.zs)).flatten=R:=⟨_,rfl⟩;rw [hR] at HFt ⊢;cases R with
 | false =>
  rw [if_neg (by decide)];clear hR hn hr hx hmL hrL hI hF hG;go_enter Tryz.func36,Tryz.ntmps36
  go_wp2_with fail;refine HFt.out.mono ?_;rintro e w1 ⟨rfl,hN1⟩;have HN1:=hid hN1;clear hN1;go_wp2_with fail;go_ret2;exact ⟨HN1.out,rfl,by omega⟩
 | true =>
  rw [if_pos rfl];obtain ⟨hpos,hsum⟩:=fitsZ_pos _ _ hR;obtain ⟨LN,hLN⟩:∃ LN,(L.map (·.zs)).map (fun l=>l.map Int.toNat)=LN:=⟨_,rfl⟩;rw [hLN];have hLl:LN.length=m:=by rw [← hLN,List.length_map,List.length_map,hmL]
  have hsm:LN.flatten.sum=n:=by rw [← hLN,← hsum,← List.map_flatten]
  have HLG:Hid (∀ i (h:i < L.length) (h':i < LN.length),LN[i]=L[i].zs.map Int.toNat):=hid fun i h h'=>by simp [← hLN]
  have HPs:Hid (∀ i (h:i < L.length),∀ z∈L[i].zs,0≤z):=hid fun i h z hz=>hpos z (List.mem_flatten.2 ⟨_,List.mem_map.2 ⟨_,List.getElem_mem h,rfl⟩,hz⟩)
  have HFl:Hid (∀ i (h:i < L.length),L[i].zs.length≤1000000):=hid fun i h=>by
   have h1:=flatI_snoc h;have h2:=flatI_le L (i+1);rw [h1,List.length_append] at h2;omega
  obtain ⟨B,hB⟩:∃ B,blkC LN xs=B:=⟨_,rfl⟩;rw [hB];have HB:Hid (blkA [] (blkC LN xs)=B):=hid (by rw [blkA_nil];exact hB);have HD:Hid (DatS w b A n c xs):=hid ⟨hr,hn,hnc,hm,hx⟩;have HRL:=hid hrL;have HI:=hid hI;have HG:=hid hG;have HML:=hid (And.intro hmL hLl);have HSm:Hid (LN.flatten.sum=xs.length):=hid (by rw [hsm,hn]);have Hn:=hid hn;have hmk:=fun W=>make_rows W m hm1
  clear hR hn hr hx hmL hrL hI hF hG hpos hsum hLN hLl hsm hB;go_enter Tryz.func36,Tryz.ntmps36
  go_wp2_with fail;refine HFt.out.mono ?_;rintro e w1 ⟨rfl,hN1⟩;have hn2:Nw w1 (w1.alloc (.cells (madeCells #[.slice none 0 0] m) 63)):=(Nw.refl w1).alloc' _;have hob:=heap_alloc_new w1 (.cells (madeCells #[.slice none 0 0] m) 63);obtain ⟨OB,hOB⟩:∃ OB,w1.heap.size=OB:=⟨_,rfl⟩;rw [hOB] at hob;have HOB:Hid ((w1.alloc (.cells (madeCells #[.slice none 0 0] m) 63)).heap[OB]? = some (.cells (outR [] m) 63 (0,0))):=hid (by
   have e:madeCells #[(.slice none 0 0:Value)] m=outR [] m:=by
    apply Array.ext'
    rw [made_rows];simp [outR]
   rw [← e];exact hob)
  have HN2:=hid (hN1.trans hn2);have HOs:=hid hOB;have HOw:Hid (w.heap.size≤OB):=hid (by rw [← hOB];exact hN1.size);clear hN1 hn2 hob hOB HFt;go_wp2_with fail;rw [HOs.out];generalize w1.alloc (.cells (madeCells #[.slice none 0 0] m) 63)=w2 at *;clear hmk;go_loopw [0,23] (fun dv iv wr=>∃ (i:Nat) (d:List Nat) (Ad:Option Addr) (q cq:Nat) (rows:List SmS),i≤m∧iv=.int .i64 (i:Int)∧dv=.slice Ad q cq∧Hid (rows.length=i)∧Hid (DatS w b Ad q cq d)∧Hid (Nw w wr)∧Hid (wr.heap[OB]? = some (.cells (outR rows m) 63 (0,0))) ∧
   Hid (∀ r∈rows,OwS w wr r)∧Hid (blkA (rows.map (·.zs)) (blkC (LN.drop i) d)=B)∧Hid ((LN.drop i).flatten.sum=d.length)) (fun _ iv _=>m - (intOf iv).toNat)
  case atStart=>exact ⟨0,xs,A,n,c,[],Nat.zero_le _,rfl,rfl,hid rfl,HD,HN2,HOB,hid (fun r hr=>(by cases hr)),HB,HSm⟩
  case round =>
   clear HOB HN2 HB HSm
   rename World=>wx
   obtain ⟨i,d,Ad,q,cq,rows,hi,rfl,rfl,HRn,HDt,HN,HOB,HRs,HBk,HSm⟩:=hrel;by_cases hlt:i < m
   ·have hltI:(i:Int) < (m:Int):=by omega
    have hiL:i < L.length:=by rw [← HML.out.1];exact hlt
    have hiN:i < LN.length:=by rw [HML.out.2];exact hlt
    obtain ⟨o,rfl,_,hc⟩:=(HRL.out.nw HN.out).get (k:=i) (by unfold cLen;rw [List.length_map];exact hiL);unfold cLen at hc;rw [List.getElem_map] at hc;have hLd:=List.drop_eq_getElem_cons hiN;have hLe:=HLG.out i hiL hiN;have hIs:=HI.out L[i] (List.getElem_mem hiL);have hps:=HPs.out i hiL;have hfl:=HFl.out i hiL;have hBk:=HBk.out;have hSm:=HSm.out;rw [hLd] at hBk hSm;rw [List.flatten_cons,List.sum_append] at hSm;generalize L[i]=s at *;generalize LN[i]=ls at *;obtain ⟨K,hK⟩:∃ K,s.zs.length=K:=⟨_,rfl⟩;have hlK:ls.length=K:=by rw [hLe,List.length_map,hK]
    obtain ⟨T,hT⟩:∃ T,(LN.drop (i+1)).flatten.sum=T:=⟨_,rfl⟩;rw [hT] at hSm;rw [hK] at hc hfl;obtain ⟨As,hAs⟩:∃ As,s.A=As:=⟨_,rfl⟩;rw [hAs] at hc;have HAs:=hid hAs;clear hAs;obtain ⟨S,hS⟩:∃ S,serC ls d=S:=⟨_,rfl⟩;have HB2:=hid hBk;have HS:=hid hS;have HS0:Hid (serA [] (serC ls d)=S):=hid (by rw [serA_nil];exact hS);have HSm0:Hid (ls.sum+T=d.length):=hid hSm;have HT:=hid hT;have HLe:=hid (And.intro hLe (And.intro hlK hK));have HIs:=hid hIs;have HPos:=hid hps;have HC0:Hid (ChI wx wx OB rows nilSm m):=hid ⟨Kp.refl _ _ _,by rw [← outR_cur (by rw [HRn.out];exact hlt)];exact HOB.out,OwS.nilSm _ _⟩;have HGx:=hid (HG.out.nw HN.out);have HDx:Hid (∀ W,Nw wx W→∀ {A q c d},DatS w b A q c d→DatS W b A q c d):=hid fun W hN A q c d h=>⟨(h.rd.nw HN.out).nw hN,h.len,h.cap,h.max,h.byt⟩
    clear hiL hiN hLd hLe hIs hps hBk hSm hlK hK hT hS hlt HBk HSm;go_wp2_with fail;go_loopw [0,30] (fun dv kv wr=>∃ (k:Nat) (d:List Nat) (Ad:Option Addr) (q cq:Nat) (cur:SmS),k≤K∧kv=.int .i64 (k:Int)∧dv=.slice Ad q cq∧Hid (DatS w b Ad q cq d)∧Hid (ChI wx wr OB rows cur m)∧Hid (serA cur.zs (serC (ls.drop k) d)=S)∧Hid ((ls.drop k).sum+T=d.length)∧cur.zs.length≤120*k) (fun _ kv _=>K - (intOf kv).toNat)
    case atStart=>exact ⟨0,d,Ad,q,cq,nilSm,Nat.zero_le _,rfl,rfl,HDt,HC0,HS0,HSm0,Nat.zero_le _⟩
    case round =>
     clear HC0 HS0 HSm0 HDt;obtain ⟨k,d,Ad,q,cq,cur,hk,rfl,rfl,HDt,HC,HSA,HSm,hcl⟩:=hrel;by_cases hlt:k < K
     ·have hltK:(k:Int) < (K:Int):=by omega
      have hkz:k < s.zs.length:=by rw [HLe.out.2.2];exact hlt
      have hkl:k < ls.length:=by rw [HLe.out.2.1];exact hlt
      have hNx:Nw w wr:=Kp.nw HN.out HC.out.kp HOw.out HOw.out;obtain ⟨o2,hA2,_,hc2⟩:=(HIs.out.1.nw hNx).get (k:=k) (by unfold cI;rw [List.length_map];exact hkz);unfold cI at hc2;rw [List.getElem_map] at hc2;have hyz:s.zs[k]=((ls[k]:Nat):Int):=by
       have e:ls[k]=(s.zs[k]).toNat:=by simp [HLe.out.1]
       have:=HPos.out s.zs[k] (List.getElem_mem hkz);rw [e];omega
      rw [hyz] at hc2;have hd:=List.drop_eq_getElem_cons hkl;have hSA:=HSA.out;have hSm:=HSm.out;rw [hd] at hSA hSm;rw [List.sum_cons] at hSm;have hdr:(ls.drop (k+1)≠[])↔k+1 < K:=by
       rw [← HLe.out.2.1,ne_eq,List.drop_eq_nil_iff];omega
      generalize ls[k]=y at *;have hyq:y≤q:=by have:=HDt.out.len;omega
      have hyc:y≤cq:=by have:=HDt.out.cap;omega
      have hq6:q≤1000000:=HDt.out.max;have hycI:(y:Int)≤(cq:Int):=by omega
      have hyqI:(y:Int)≤(q:Int):=by omega
      have HDc:=hid (HDt.out.cut y hyq);have hbt:∀ x∈d.take y,x < 256:=fun x hx=>HDt.out.byt x (List.mem_of_mem_take hx)
      have HDec:Hid (Calls Tryz.prog 76 #[.slice Ad y cq] wr (SmpGot wr (smpP (d.take y)))):=hid ((Decode_any wr b Ad y cq (d.take y) (by rw [List.length_take,← HDt.out.len];omega) hyc (by omega) (by
       have:=(HDt.out.rd.nw hNx).take y;unfold cN at this ⊢;rw [List.map_take];exact this) hbt (HG.out.nw hNx)).mono fun _ _ h=>smp_got hbt h)
      obtain ⟨X,hX⟩:∃ X,smpP (d.take y)=X:=⟨_,rfl⟩;rw [hX] at HDec;have HX:=hid (And.intro hX (And.intro hSA (And.intro hSm hdr)));have HBt:=hid hbt;have HNx:=hid hNx;rw [HAs.out] at hA2;subst hA2;have HRi:=HRn.out;clear hX hSA hSm hd hdr hyz hkz hkl hbt hNx HSA HSm;go_wp2_with fail;refine HDec.out.mono ?_;rintro e w9 ⟨hX9,hN9⟩;have HN9:=hid hN9;have HNw:=hid (HNx.out.trans hN9);clear hN9 HDec;cases X with
      | error ke =>
       obtain ⟨rfl,hke⟩:=hX9;have hkb:((ke:Int) != 0)=true:=by rw [bne_iff_ne];omega
       have hB:B=.error ke:=blkA_er HB2.out (HS.out.trans (serA_er HX.out.2.1 HX.out.1));subst hB;have HKe:=hid hke;clear hke;go_wp2_with fail;go_ret2;exact ⟨HNw.out,rfl,HKe.out⟩
      | ok z =>
       obtain ⟨b9,A9,c9,rfl,hO9,hb9⟩:=hX9;have HZ:=hid (smpP_len HBt.out HX.out.1);have HO9:=hid hO9;obtain ⟨Z,hZ⟩:∃ Z,z.length=Z:=⟨_,rfl⟩;rw [hZ] at HZ HO9;have HZl:=hid hZ;have h0b:((0:Int) != 0)=false:=rfl;clear hO9 hb9;by_cases hbad:k+1 < K∧Z≠120
       ·have hB:B=.error 23:=blkA_er HB2.out (HS.out.trans (serA_bad HX.out.2.1 HX.out.1 ⟨HX.out.2.2.2.2 hbad.1,by rw [hZ];exact hbad.2⟩));subst hB;have g1I:(k:Int) < (K:Int) - 1:=by omega
        have g1:decide ((k:Int) < (K:Int) - 1)=true:=decide_eq_true g1I;have g2:((Z:Int) != 120)=true:=by rw [bne_iff_ne];omega
        rw [hZ];clear hbad hZ hlt;go_wp2_with fail;go_ret2;exact ⟨HNw.out,rfl,by omega⟩
       ·have HG1:=hid (serA_ok HX.out.2.1 HX.out.1 (fun q=>hbad ⟨HX.out.2.2.2.1 q.1,by rw [← hZ];exact q.2⟩));have HC9:=hid (HC.out.nw HN9.out);have hcell:w9.cell? ⟨OB,i,none⟩=some cur.cell:=by
         rw [← HRi];exact (cell_at (k:=rows.length) HC9.out.ob).trans (outC_get rows cur m)
        unfold SmS.cell at hcell;have hOBm:i < m:=by omega
        have hiI:(i:Int) < (m:Int):=by omega
        have hZ1:=HZ.out;rw [hZ];have HCd:=hid (show (cS z).length=Z*2 from by rw [← hZ];unfold cS;rw [c2_length];omega);have HLt:=hid hlt;by_cases h1:k+1 < K
        ·have hz:Z=120:=Classical.byContradiction fun q=>hbad ⟨h1,q⟩
         have g1I:(k:Int) < (K:Int) - 1:=by omega
         have g1:decide ((k:Int) < (K:Int) - 1)=true:=decide_eq_true g1I;have g2:((Z:Int) != 120)=false:=by rw [bne_eq_false_iff_eq];omega
         clear hbad hZ hz h1 hlt;by_cases hcy:cq=y
         ·rw [if_pos hcy,show cq - y=0 by omega] at HDc;go_wp2_with (at_builtin;refine wpList_appN E_smp rfl (.tmp 62) (.tmp 63) rfl rfl HC9.out.cu HC9.out.kp.size rfl HO9.out.rd HCd.out HO9.out.nilc (oc_S _) (by simp only [maxLen];omega) (by omega) ?_;intro b5 A5 c5 w10 q1 q2 q3;obtain ⟨hf10,hc10,HC10⟩:=HC9.out.add (z:=z) (by rw [HZl.out];exact q1) q2 q3;rw [HRi] at hf10 hc10;clear q1 q2 q3)
          go_wp2_with fail;go_roundw
          case rel=>exact ⟨k+1,d.drop y,_,q - y,0,⟨cur.zs++z,b5,A5,c5⟩,by have:=HLt.out;omega,by go_num,rfl,HDc,by first | exact HC10 | (rw [HRi,HZl.out] at HC10;exact HC10),HG1,hid (by rw [List.length_drop];have:=HX.out.2.2.1;omega),by rw [List.length_append,HZl.out];have:=HZ.out;omega⟩
          case measure=>have:=HLt.out;simp [intOf];omega
         ·rw [if_neg hcy] at HDc;go_wp2_with (at_builtin;refine wpList_appN E_smp rfl (.tmp 62) (.tmp 63) rfl rfl HC9.out.cu HC9.out.kp.size rfl HO9.out.rd HCd.out HO9.out.nilc (oc_S _) (by simp only [maxLen];omega) (by omega) ?_;intro b5 A5 c5 w10 q1 q2 q3;obtain ⟨hf10,hc10,HC10⟩:=HC9.out.add (z:=z) (by rw [HZl.out];exact q1) q2 q3;rw [HRi] at hf10 hc10;clear q1 q2 q3)
          go_wp2_with fail;go_roundw
          case rel=>exact ⟨k+1,d.drop y,_,q - y,cq - y,⟨cur.zs++z,b5,A5,c5⟩,by have:=HLt.out;omega,by go_num,rfl,HDc,by first | exact HC10 | (rw [HRi,HZl.out] at HC10;exact HC10),HG1,hid (by rw [List.length_drop];have:=HX.out.2.2.1;omega),by rw [List.length_append,HZl.out];have:=HZ.out;omega⟩
          case measure=>have:=HLt.out;simp [intOf];omega
        ·have g1I:¬ (k:Int) < (K:Int) - 1:=by omega
         have g1:decide ((k:Int) < (K:Int) - 1)=false:=decide_eq_false g1I;clear hbad hZ h1 hlt;by_cases hcy:cq=y
         ·rw [if_pos hcy,show cq - y=0 by omega] at HDc;go_wp2_with (at_builtin;refine wpList_appN E_smp rfl (.tmp 62) (.tmp 63) rfl rfl HC9.out.cu HC9.out.kp.size rfl HO9.out.rd HCd.out HO9.out.nilc (oc_S _) (by simp only [maxLen];omega) (by omega) ?_;intro b5 A5 c5 w10 q1 q2 q3;obtain ⟨hf10,hc10,HC10⟩:=HC9.out.add (z:=z) (by rw [HZl.out];exact q1) q2 q3;rw [HRi] at hf10 hc10;clear q1 q2 q3)
          go_wp2_with fail;go_roundw
          case rel=>exact ⟨k+1,d.drop y,_,q - y,0,⟨cur.zs++z,b5,A5,c5⟩,by have:=HLt.out;omega,by go_num,rfl,HDc,by first | exact HC10 | (rw [HRi,HZl.out] at HC10;exact HC10),HG1,hid (by rw [List.length_drop];have:=HX.out.2.2.1;omega),by rw [List.length_append,HZl.out];have:=HZ.out;omega⟩
          case measure=>have:=HLt.out;simp [intOf];omega
         ·rw [if_neg hcy] at HDc;go_wp2_with (at_builtin;refine wpList_appN E_smp rfl (.tmp 62) (.tmp 63) rfl rfl HC9.out.cu HC9.out.kp.size rfl HO9.out.rd HCd.out HO9.out.nilc (oc_S _) (by simp only [maxLen];omega) (by omega) ?_;intro b5 A5 c5 w10 q1 q2 q3;obtain ⟨hf10,hc10,HC10⟩:=HC9.out.add (z:=z) (by rw [HZl.out];exact q1) q2 q3;rw [HRi] at hf10 hc10;clear q1 q2 q3)
          go_wp2_with fail;go_roundw
          case rel=>exact ⟨k+1,d.drop y,_,q - y,cq - y,⟨cur.zs++z,b5,A5,c5⟩,by have:=HLt.out;omega,by go_num,rfl,HDc,by first | exact HC10 | (rw [HRi,HZl.out] at HC10;exact HC10),HG1,hid (by rw [List.length_drop];have:=HX.out.2.2.1;omega),by rw [List.length_append,HZl.out];have:=HZ.out;omega⟩
          case measure=>have:=HLt.out;simp [intOf];omega
     ·obtain rfl:k=K:=by omega
      have hnl:¬ (k:Int) < (k:Int):=by omega
      have hdn:ls.drop k=[]:=List.drop_of_length_le (by rw [HLe.out.2.1];exact Nat.le_refl _);have hSA:=HSA.out;have hSm:=HSm.out;rw [hdn] at hSA hSm;have hSv:S=.ok (cur.zs,d):=by
       rw [← hSA];show Except.ok (cur.zs++[],d)=_
       rw [List.append_nil]
      have HB3:=hid (blkA_ok HB2.out (HS.out.trans hSv));have hTd:T=d.length:=by rw [← hSm];simp
      have HNw:Hid (Nw w wr):=hid (Kp.nw HN.out HC.out.kp HOw.out HOw.out);have hrl:=HRn.out;have HRs2:Hid (∀ r∈rows++[cur],OwS w wr r):=hid fun r hr=>by
       rcases List.mem_append.1 hr with hr | hr
       ·exact OwN.kp (HRs.out r hr) HC.out.kp HOB.out (by decide)
       ·rw [List.mem_singleton] at hr;rw [hr];exact OwN.mono HC.out.cu HN.out.size
      have HOB2:Hid (wr.heap[OB]? = some (.cells (outR (rows++[cur]) m) 63 (0,0))):=hid (by rw [← outR_fin];exact HC.out.ob);clear hdn hSA hSm hSv hlt;go_wp2_with fail;go_roundw
      case rel=>exact ⟨i+1,d,Ad,q,cq,rows++[cur],by omega,by go_num,rfl,hid (by rw [List.length_append,hrl];rfl),HDt,HNw,HOB2,HRs2,hid (by rw [List.map_append];exact HB3.out),hid (by rw [HT.out,hTd])⟩
      case measure=>simp [intOf];omega
   ·obtain rfl:i=m:=by omega
    have hnl:¬ (i:Int) < (i:Int):=by omega
    have hdn:LN.drop i=[]:=List.drop_of_length_le (by rw [HML.out.2];exact Nat.le_refl _);have hBk:=HBk.out;rw [hdn] at hBk;have hrl:=HRn.out;have hB:B=.ok (rows.map (·.zs)):=by
     rw [← hBk];show Except.ok (rows.map (·.zs)++[])=_
     rw [List.append_nil]
    subst hB;clear hBk hdn HBk HSm;go_wp2_with fail;go_ret2;have hO:=Ow.of_heap (size:=1) (n:=i) HOB.out (by rw [← Array.length_toList,outR_end hrl,List.length_map,hrl,Nat.mul_one]) (by omega);rw [outR_end hrl] at hO;refine ⟨HN.out,rows,OB,some ⟨OB,0,none⟩,i,?_,?_,rfl,HRs.out⟩
    ·rw [List.length_map,hrl];rfl
    ·rw [List.length_map,hrl];exact ⟨hO,.inr HOw.out⟩
end
section
open Go Go.RowKit Go.Lib Go.Sort Go.Shelf
theorem TIn.fresh {w W:World} {g b n:Nat} {A:Option Addr} {t:List ByteArray} (hr:Rd w b A (cT t)) (hn:n=t.length) (hm:n≤1000000000) (hN:Nw w W) (hg:w.heap.size≤g):∃ b',TIn W g b' A n t:=by
 rcases hr with h | ⟨o,rfl,hlt,hc⟩
 ·exact ⟨g+1,⟨.inl h,hn,hm,by omega⟩⟩
 ·exact ⟨b,⟨Rd.nw (.inr ⟨o,rfl,hlt,hc⟩) hN,hn,hm,by omega⟩⟩
def RowsD (w W:World) (rows:List RecS):Prop:=∀ r∈rows,OwN w W r.bl 96 2 r.al r.labs.length r.cl (cL r.labs)∧OwN w W r.bc 3 1 r.ac r.chks.length r.cc (cN .i64 r.chks)
theorem RowsD.keep {T:List TypeId} {w W W':World} {rows:List RecS} (h:RowsD w W rows) (hk:KtyL T W W') (h1:96 ∉ T) (h2:3 ∉ T):RowsD w W' rows:=fun r hr=>⟨(h r hr).1.keep hk h1,(h r hr).2.keep hk h2⟩
theorem RowsD.mono {w w1 W:World} {rows:List RecS} (h:RowsD w1 W rows) (hs:w.heap.size≤w1.heap.size):RowsD w W rows:=fun r hr=>⟨(h r hr).1.mono hs,(h r hr).2.mono hs⟩
theorem RowsD.nw {w W W':World} {rows:List RecS} (h:RowsD w W rows) (hN:Nw W W'):RowsD w W' rows:=fun r hr=>⟨(h r hr).1.nw hN,(h r hr).2.nw hN⟩
end
section
open Go Go.RowKit Go.Lib Go.Sort Go.Shelf
def hasS (t:List ByteArray) (s:ByteArray):Bool:=t.any fun x=>decide (x.toList=s.toList)
theorem usedB_has (t:List ByteArray) (l:List Lab):usedB t l=t.all (hasS (strsOf l)):=rfl
theorem flatL_snoc {rows:List RecS} {i:Nat} (h:i < rows.length):(rows.take (i+1)).flatMap (·.labs)=(rows.take i).flatMap (·.labs)++rows[i].labs:=by
 rw [List.take_succ_eq_append_getElem h,List.flatMap_append];simp
theorem flatL_le {rows:List RecS} (i:Nat):((rows.take i).flatMap (·.labs)).length≤(rows.flatMap (·.labs)).length:=by
 have:=congrArg List.length (congrArg (List.flatMap (·.labs)) (List.take_append_drop i rows));rw [List.flatMap_append,List.length_append] at this;omega
end
section
open Go Go.RowKit Go.Sort
theorem flatMap_ge {α:Type} (f:α→List Nat) (g:α→Nat):∀ (l:List α),(∀ x∈l,g x≤(f x).length)→(l.map g).sum≤(l.flatMap f).length
 | [],_=>Nat.le_refl _
 | x::l,h=>by
  rw [List.map_cons,List.sum_cons,List.flatMap_cons,List.length_append];have:=flatMap_ge f g l fun y hy=>h y (List.mem_cons_of_mem _ hy)
  have:=h x (by simp);omega
theorem sum_ones {α:Type} (l:List α):(l.map fun _=>1).sum=l.length:=by
 induction l with
 | nil=>rfl
 | cons x l ih=>rw [List.map_cons,List.sum_cons,ih,List.length_cons];omega
theorem syms_bnd {bs:List Nat} {t:List ByteArray} (hb:∀ y∈bs,y < 256) (h:symsP bs=.ok t):t.length≤bs.length∧(∀ s∈t,s.size≤65535)∧t.Nodup:=by
 obtain ⟨e,h1,h2⟩:=symsP_inv hb h;refine ⟨?_,h1,ltB_nodup h2⟩;have:=flatMap_ge (fun s=>lenB (sB s)) (fun _=>1) t fun s _=>by
  unfold lenB;rw [List.length_append];have:=vint_pos (sB s).length;omega
 rw [sum_ones] at this;rw [e];unfold symEnc;rw [List.length_append];omega
theorem recs_bnd {t:List ByteArray} (ht:t.Nodup) {bs:List Nat} {l:List RecV} (hb:∀ y∈bs,y < 256) (h:recsP t bs=.ok l) :
  l.length≤bs.length∧(l.flatMap (·.1)).length≤bs.length∧(l.flatMap (·.2)).length≤bs.length∧∀ s∈strsOf (l.flatMap (·.1)),s∈t:=by
 obtain ⟨e,h1⟩:=recsP_inv ht hb h;have hl:∀ x:RecV,1+x.1.length+x.2.length≤(recEnc1 t x).length:=fun x=>by
  rw [recEnc1_eq];have h1:=flatMap_ge (labEnc t) (fun _=>1) x.1 fun y _=>by
   unfold labEnc;rw [List.length_append];have:=vint_pos (idxS t y.1);omega
  have h2:=flatMap_ge vint (fun _=>1) x.2 fun y _=>vint_pos y
  rw [sum_ones] at h1 h2;simp only [List.length_append];have:=vint_pos x.1.length;omega
 have hr:(l.flatMap (recEnc1 t)).length≤bs.length:=by
  rw [e];unfold recEnc;rw [List.length_append];omega
 have k0:=flatMap_ge (recEnc1 t) (fun _=>1) l fun x _=>by have:=hl x;omega
 have k1:=flatMap_ge (recEnc1 t) (fun x=>x.1.length) l fun x _=>by have:=hl x;omega
 have k2:=flatMap_ge (recEnc1 t) (fun x=>x.2.length) l fun x _=>by have:=hl x;omega
 rw [sum_ones] at k0;refine ⟨by omega,?_,?_,fun s hs=>?_⟩
 ·rw [List.length_flatMap];omega
 ·rw [List.length_flatMap];omega
 ·obtain ⟨q,hq,k⟩:=strs_mem.1 hs;obtain ⟨x,hx,hq⟩:=List.mem_flatMap.1 hq;exact (h1 x hx).1 s (strs_mem.2 ⟨q,hq,k⟩)
theorem serC_bnd:∀ (ls:List Nat) {d r:List Nat} {z:List Smpl},(∀ y∈d,y < 256)→serC ls d=.ok (z,r)→z.length≤120*ls.length∧∀ y∈r,y < 256
 | [],d,r,z,hb,h=>by
  rw [serC] at h;injection h with h
  injection h with h1 h2
  subst h1 h2;exact ⟨by simp,hb⟩
 | n::ls,d,r,z,hb,h=>by
  rw [serC] at h;obtain ⟨c,h1,h⟩:=xb_inv h;split at h
  ·cases h
  ·obtain ⟨⟨z',r'⟩,h3,h⟩:=xb_inv h;injection h with h
   injection h with h4 h5
   dsimp only at h4 h5;subst h4 h5;have:=smpP_len (fun y hy=>hb y (List.mem_of_mem_take hy)) h1;obtain ⟨k1,k2⟩:=serC_bnd ls (fun y hy=>hb y (List.mem_of_mem_drop hy)) h3;exact ⟨by rw [List.length_append,List.length_cons];omega,k2⟩
theorem blkC_bnd:∀ (L:List (List Nat)) {d:List Nat} {Z:List (List Smpl)},(∀ y∈d,y < 256)→blkC L d=.ok Z→(Z.map List.length).sum≤120*L.flatten.length∧Z.length=L.length
 | [],d,Z,_,h=>by
  rw [blkC] at h;injection h with h
  subst h;exact ⟨by simp,rfl⟩
 | l::L,d,Z,hb,h=>by
  rw [blkC] at h;obtain ⟨⟨z,r⟩,h1,h⟩:=xb_inv h;obtain ⟨Z',h2,h⟩:=xb_inv h;injection h with h
  subst h;obtain ⟨k1,k2⟩:=serC_bnd l hb h1;obtain ⟨k3,k4⟩:=blkC_bnd L k2 h2;refine ⟨?_,by rw [List.length_cons,k4,List.length_cons]⟩;rw [List.map_cons,List.sum_cons,List.flatten_cons,List.length_append];dsimp only at k1 ⊢;omega
theorem sum_mem:∀ {l:List Nat} {x:Nat},x∈l→x≤l.sum
 | y::l,x,h=>by
  rw [List.sum_cons];rcases List.mem_cons.1 h with rfl | h
  ·omega
  ·have:=sum_mem h;omega
theorem pos_bnd {t:List ByteArray} (ht:t.Nodup) {bound:Nat} {bs:List Nat} {l:List EntV} (hb:∀ y∈bs,y < 256) (h:posP t bound bs=.ok l):l.length≤bs.length∧∀ x∈l,x.2.length≤bs.length:=by
 obtain ⟨e,_,_⟩:=posP_inv ht hb h;have hl:∀ x:EntV,1+x.2.length≤(entEnc t x).length:=fun x=>by
  unfold entEnc;have h2:=flatMap_ge vint (fun _=>1) (difs x.2) fun y _=>vint_pos y
  rw [sum_ones,difs_len] at h2;simp only [List.length_append];have:=vint_pos x.2.length;omega
 have hr:(l.flatMap (entEnc t)).length≤bs.length:=by
  rw [e];unfold posEnc;rw [List.length_append];omega
 have k0:=flatMap_ge (entEnc t) (fun _=>1) l fun x _=>by have:=hl x;omega
 have k1:=flatMap_ge (entEnc t) (fun x=>x.2.length) l fun x _=>by have:=hl x;omega
 rw [sum_ones] at k0;refine ⟨by omega,fun x hx=>?_⟩;have:x.2.length≤(l.map fun x=>x.2.length).sum:=sum_mem (List.mem_map.2 ⟨x,hx,rfl⟩);omega
def NumR (t:List ByteArray) (l:List RecV) (l3:List Nat):Prop:=l.length≤10000∧(l.flatMap (·.1)).length≤10000∧(l.flatMap (·.2)).length≤10000∧∀ x,posP t l.length l3=.ok x→x.length≤10000
def NumT (t:List ByteArray) (l1 l3:List Nat):Prop:=t.length≤10000∧∀ l,recsP t l1=.ok l→NumR t l l3
def SecNum (l0 l1 l3:List Nat):Prop:=∀ t,symsP l0=.ok t→NumT t l1 l3
theorem secNum_short {l0 l1 l3:List Nat} (h0:∀ y∈l0,y < 256) (h1:∀ y∈l1,y < 256) (h3:∀ y∈l3,y < 256) (k0:l0.length≤10000) (k1:l1.length≤10000) (k3:l3.length≤10000):SecNum l0 l1 l3:=by
 intro t ht;obtain ⟨a1,_,a3⟩:=syms_bnd h0 ht;refine ⟨by omega,fun l hl=>?_⟩;obtain ⟨b1,b2,b3,_⟩:=recs_bnd a3 h1 hl;refine ⟨by omega,by omega,by omega,fun x hx=>?_⟩;have:=(pos_bnd a3 h3 hx).1;omega
end
section
open Go Go.RowKit Go.Lib Go.Sort Go.Shelf
set_option maxRecDepth 100000 in
set_option maxHeartbeats 1000000 in
theorem EqualI_any (w:World) (b b':Nat) (A A':Option Addr) (n c n' c':Nat) (xs ys:List Nat) (hn:n=xs.length) (hn':n'=ys.length) (hm:n≤1000000000) (hm':n'≤1000000000)
  (hr:Rd w b A (cN .i64 xs)) (hr':Rd w b' A' (cN .i64 ys)) :
  Calls Tryz.prog 119 #[.slice A n c,.slice A' n' c'] w fun e w'=>e=.returned (.bool (decide (xs=ys)))∧Dr w w':=by
 subst hn hn';by_cases hl:xs.length=ys.length
 ·have hl1:(((xs.length:Nat):Int) != ((ys.length:Nat):Int))=false:=by rw [bne_eq_false_iff_eq];omega
  have HL:=hid hl;have hl2:xs.length≤ys.length:=by omega
  have hl3:ys.length≤xs.length:=by omega
  clear hl;go_enter Tryz.func119,Tryz.ntmps119
  go_wp2;go_loopw [13] (fun i wr=>∃ k:Nat,k≤xs.length∧i=.int .i64 k∧xs.take k=ys.take k∧Dr w wr) (fun i _=>xs.length - (intOf i).toNat)
  case atStart=>exact ⟨0,by omega,rfl,by simp,Dr.refl _⟩
  case round =>
   obtain ⟨k,hk,rfl,he,hd⟩:=hrel;have hr:=hr.nw hd.nw;have hr':=hr'.nw hd.nw;have HE:=hid he;clear he;by_cases hlt:k < xs.length
   ·have hlt':k < ys.length:=by omega
    obtain ⟨o,rfl,_,hc⟩:=hr.get (k:=k) (by simpa using hlt);obtain ⟨o',rfl,_,hc'⟩:=hr'.get (k:=k) (by simpa using hlt');rw [List.getElem_map] at hc hc';have hi0:(0:Int)≤(k:Int):=by omega
    have hi1:(k:Int) < (xs.length:Int):=by omega
    have hi2:(k:Int) < (ys.length:Int):=by omega
    by_cases hx:((xs[k]:Nat):Int)=((ys[k]:Nat):Int)
    ·have hx':(((xs[k]:Nat):Int) != ((ys[k]:Nat):Int))=false:=by rw [bne_eq_false_iff_eq];exact hx
     have HX:=hid hx;clear hx;go_wp2;go_quiet (fail)
     go_wp2;go_roundw
     case rel=>exact ⟨k+1,by omega,by go_num,take_eq_next xs ys k hlt hlt' (by have:=HX.out;omega) HE.out,hd.step _⟩
     case measure=>simp [intOf];omega
    ·have hx':(((xs[k]:Nat):Int) != ((ys[k]:Nat):Int))=true:=by rw [bne_iff_ne];exact hx
     have HX:=hid hx;clear hx;go_wp2;go_quiet (fail)
     go_wp2;go_ret;exact ⟨ret_bool (by rw [eq_comm,decide_eq_false_iff_not];exact ne_of_at xs ys k hlt hlt' (by have:=HX.out;omega)),hd.step _⟩
   ·go_wp2;go_ret;exact ⟨ret_bool (by rw [eq_comm,decide_eq_true_iff];exact take_eq_all xs ys k HL.out hlt HE.out),hd⟩
 ·have hl1:(((xs.length:Nat):Int) != ((ys.length:Nat):Int))=true:=by rw [bne_iff_ne];omega
  have HL:=hid hl;clear hl hr hr';go_enter Tryz.func119,Tryz.ntmps119
  go_wp2;go_ret;exact ⟨ret_bool (by rw [eq_comm,decide_eq_false_iff_not];exact fun h=>HL.out (by rw [h])),Dr.refl _⟩
theorem eqlLab (a b c d:ByteArray) (w:World):(binOp .eql 96 (.agg #[.string a,.string b]) (.agg #[.string c,.string d])).run Tryz.prog w=.ok (.bool (a.toList == c.toList && b.toList == d.toList)) w:=by
 have hf:(Tryz.prog.fieldsOf 96).toList.map (fun f=>(f.name,f.type,f.offset))=[("Name",9,0),("Value",9,1)]:=by kernel_rfl
 rw [run_eql_struct,run_equalIn_agg w 9999 _ _ _ (by kernel_rfl) (by kernel_rfl)];generalize (Tryz.prog.fieldsOf 96).toList=fs at *;obtain ⟨f1,f2,rfl,e1,e2⟩:=two_list hf;simp only [Prod.mk.injEq] at e1 e2;obtain ⟨h1,h2,h3⟩:=e1;obtain ⟨h4,h5,h6⟩:=e2;simp only [Op.eqFields,h1,h2,h3,h4,h5,h6];simp [run_part _ aggS,run_equalIn_string w 9998 9 _ _ Tryz.underlying9];by_cases h:a.toList=c.toList<;>by_cases g:b.toList=d.toList<;>simp [h,g]
abbrev vEnt (e:GR):Value:=.agg #[.string e.lab.1,.string e.lab.2,.slice e.A e.ns.length e.c]
theorem lab_eqB {x y:Lab}:(x.1.toList == y.1.toList && x.2.toList == y.2.toList)=decide (x=y):=by
 by_cases h:x=y
 ·subst h;simp
 ·rw [decide_eq_false h];by_cases h1:x.1.toList=y.1.toList
  ·by_cases h2:x.2.toList=y.2.toList
   ·exact (h (Prod.ext (bytes_ext h1) (bytes_ext h2))).elim
   ·simp [h2]
  ·simp [h1]
set_option maxRecDepth 100000 in
set_option maxHeartbeats 1000000 in
theorem Eq1E_any (w:World) (s t:GR) (hs:Rd w s.b s.A (cN .i64 s.ns)) (ht:Rd w t.b t.A (cN .i64 t.ns)) (h1:s.ns.length≤1000000000) (h2:t.ns.length≤1000000000) :
  Calls Tryz.prog 118 #[vEnt s,vEnt t] w fun e w'=>Says e (keyG s=keyG t)∧Nw w w':=by
 have HS:=hid fun W (hN:Nw w W)=>EqualI_any W s.b t.b s.A t.A s.ns.length s.c t.ns.length t.c s.ns t.ns rfl rfl h1 h2 (hs.nw hN) (ht.nw hN)
 have hN1:Nw w ((w.alloc (.cells #[.string s.lab.1,.string s.lab.2,.slice s.A s.ns.length s.c] 196)).alloc (.cells #[.string t.lab.1,.string t.lab.2,.slice t.A t.ns.length t.c] 196)):=((Nw.refl _).alloc' _).alloc' _;have heq:=eqlLab s.lab.1 s.lab.2 t.lab.1 t.lab.2;rw [lab_eqB] at heq;clear hs ht;by_cases hl:s.lab=t.lab
 ·rw [decide_eq_true hl] at heq;by_cases hm:s.ns=t.ns
  ·rw [decide_eq_true hm] at HS;have HY:=hid (show keyG s=keyG t from by unfold keyG;rw [hl,hm]);clear hl hm;go_enter Tryz.func118,Tryz.ntmps118
   go_wp2_with fail;refine (HS.out _ hN1).mono ?_;rintro e w1 ⟨rfl,hD⟩;have HN:=hid (hN1.trans hD.nw);clear hD;go_wp2_with fail;go_ret;exact ⟨Says.yes HY.out,HN.out⟩
  ·rw [decide_eq_false hm] at HS;have HY:=hid (show ¬ keyG s=keyG t from by unfold keyG;intro h;injection h with _ h;exact hm h);clear hl hm;go_enter Tryz.func118,Tryz.ntmps118
   go_wp2_with fail;refine (HS.out _ hN1).mono ?_;rintro e w1 ⟨rfl,hD⟩;have HN:=hid (hN1.trans hD.nw);clear hD;go_wp2_with fail;go_ret;exact ⟨Says.no HY.out,HN.out⟩
 ·rw [decide_eq_false hl] at heq;have HY:=hid (show ¬ keyG s=keyG t from by unfold keyG;intro h;injection h with h _;exact hl h);clear hl;go_enter Tryz.func118,Tryz.ntmps118
  go_wp2_with fail;go_ret;exact ⟨Says.no HY.out,hN1⟩
set_option maxRecDepth 100000 in
set_option maxHeartbeats 1600000 in
theorem EqualFuncE_any (w:World) (b1 b2:Nat) (A1 A2:Option Addr) (n1 c1 n2 c2:Nat) (l1 l2:List GR) (hn1:n1=l1.length) (hn2:n2=l2.length) (hm1:n1≤1000000) (hm2:n2≤1000000) (hr1:Rd w b1 A1 (cEnt l1)) (hr2:Rd w b2 A2 (cEnt l2)) (hk1:∀ s∈l1,Rd w s.b s.A (cN .i64 s.ns)∧s.ns.length≤1000000000) (hk2:∀ s∈l2,Rd w s.b s.A (cN .i64 s.ns)∧s.ns.length≤1000000000) :
  Calls Tryz.prog 117 #[.slice A1 n1 c1,.slice A2 n2 c2,.func (.func 118) #[] #[]] w fun e w'=>Says e (l1.map keyG=l2.map keyG)∧Nw w w':=by
 subst hn1 hn2;have HR1:=hid hr1;have HR2:=hid hr2;have HK1:=hid hk1;have HK2:=hid hk2;clear hr1 hr2 hk1 hk2;by_cases hlen:l1.length=l2.length
 ·have HLN:=hid hlen;have hlI:((l1.length:Int) != (l2.length:Int))=false:=by rw [bne_eq_false_iff_eq];omega
  go_enter Tryz.func117,Tryz.ntmps117
  go_wp2;go_loopw [17] (fun i wr=>∃ k:Nat,k≤l1.length∧i=.int .i64 k∧Hid (l1.map keyG=l2.map keyG↔(l1.drop k).map keyG=(l2.drop k).map keyG)∧Hid (Nw w wr)) (fun i _=>l1.length - (intOf i).toNat)
  case atStart=>exact ⟨0,by omega,rfl,hid (by simp),hid (Nw.refl _)⟩
  case round =>
   obtain ⟨k,hk,rfl,HX,HN⟩:=hrel;by_cases hlt:k < l1.length
   ·have hlt2:k < l2.length:=by omega
    have hltI:(k:Int) < (l1.length:Int):=by omega
    have hltJ:(k:Int) < (l2.length:Int):=by omega
    obtain ⟨o1,rfl,hb1,hc0,hc1,hc2⟩:=ent_at (HR1.out.nw HN.out) hlt;obtain ⟨o2,rfl,hb2,hd0,hd1,hd2⟩:=ent_at (HR2.out.nw HN.out) hlt2;have hX:=HX.out;rw [drop_cons hlt,drop_cons hlt2,List.map_cons,List.map_cons,List.cons.injEq] at hX;have HX2:=hid hX;have HOx:=hid (HK1.out l1[k] (List.getElem_mem hlt));have HOy:=hid (HK2.out l2[k] (List.getElem_mem hlt2));generalize l1[k]=x at *;generalize l2[k]=y at *;have HE:=hid fun W (hN:Nw wr W)=>Eq1E_any W x y ((HOx.out.1.nw HN.out).nw hN) ((HOy.out.1.nw HN.out).nw hN) HOx.out.2 HOy.out.2
    have hNa:Nw wr (wr.alloc (.cells #[.string x.lab.1,.string x.lab.2,.slice x.A x.ns.length x.c] 196)):=(Nw.refl wr).alloc' _;have hNb:Nw wr ((wr.alloc (.cells #[.string x.lab.1,.string x.lab.2,.slice x.A x.ns.length x.c] 196)).alloc (.cells #[.string y.lab.1,.string y.lab.2,.slice y.A y.ns.length y.c] 196)):=hNa.alloc' _;have he0:=cell_old hNa hb2 hd0;have he1:=cell_old hNa hb2 hd1;have he2:=cell_old hNa hb2 hd2;clear hX HX hlen;by_cases hv:keyG x=keyG y
    ·have HEQ:=hid (show l1.map keyG=l2.map keyG↔(l1.drop (k+1)).map keyG=(l2.drop (k+1)).map keyG from by rw [HX2.out];exact ⟨fun h=>h.2,fun h=>⟨hv,h⟩⟩);have HV:=hid hv;clear hv;go_wp2_with (go_at_call 118;refine (HE.out _ hNb).mono ?_;rintro e w1 ⟨he,hN1⟩;obtain rfl:=he.tt HV.out)
     go_roundw
     case rel=>exact ⟨k+1,by omega,by go_num,HEQ,hid (HN.out.trans (hNb.trans hN1))⟩
     case measure=>simp [intOf];omega
    ·have HNE:=hid (show ¬ l1.map keyG=l2.map keyG from fun h=>hv (HX2.out.1 h).1);have HV:=hid hv;clear hv;go_wp2_with (go_at_call 118;refine (HE.out _ hNb).mono ?_;rintro e w1 ⟨he,hN1⟩;obtain rfl:=he.ff HV.out)
     go_ret;exact ⟨Says.no HNE.out,HN.out.trans (hNb.trans hN1)⟩
   ·have HEQ:=hid (show l1.map keyG=l2.map keyG from HX.out.2 (by rw [List.drop_eq_nil_of_le (show l1.length≤k by omega),List.drop_eq_nil_of_le (show l2.length≤k by omega)]));have hltI:¬ (k:Int) < (l1.length:Int):=by omega
    have hltJ:¬ (k:Int) < (l2.length:Int):=by omega
    go_wp2;go_ret;exact ⟨Says.yes HEQ.out,HN.out⟩
 ·have HLN:=hid hlen;have hlI:((l1.length:Int) != (l2.length:Int))=true:=by rw [bne_iff_ne];omega
  go_enter Tryz.func117,Tryz.ntmps117
  go_wp2;go_ret;exact ⟨Says.no fun h=>HLN.out (by have:=congrArg List.length h;simpa using this),Nw.refl _⟩
theorem sameIndex_any (w:World) (b1 b2:Nat) (A1 A2:Option Addr) (n1 c1 n2 c2:Nat) (l1 l2:List GR) (hn1:n1=l1.length) (hn2:n2=l2.length) (hm1:n1≤1000000) (hm2:n2≤1000000) (hr1:Rd w b1 A1 (cEnt l1)) (hr2:Rd w b2 A2 (cEnt l2)) (hk1:∀ s∈l1,Rd w s.b s.A (cN .i64 s.ns)∧s.ns.length≤1000000000) (hk2:∀ s∈l2,Rd w s.b s.A (cN .i64 s.ns)∧s.ns.length≤1000000000) :
  Calls Tryz.prog 64 #[.slice A1 n1 c1,.slice A2 n2 c2] w fun e w'=>Says e (l1.map keyG=l2.map keyG)∧Nw w w':=by
 have HE:=hid (EqualFuncE_any w b1 b2 A1 A2 n1 c1 n2 c2 l1 l2 hn1 hn2 hm1 hm2 hr1 hr2 hk1 hk2);clear hr1 hr2 hk1 hk2 hn1 hn2;generalize (l1.map keyG=l2.map keyG)=P at *;go_enter Tryz.func64,Tryz.ntmps64
 go_wp2_with (go_at_call 117;refine HE.out.mono ?_;rintro e w1 ⟨he,hN⟩;obtain ⟨r,rfl,hr⟩:=he)
 go_ret;exact ⟨⟨r,rfl,hr⟩,hN⟩
end
section
open Go Go.RowKit Go.Lib
def WTook {α:Type} (W':World) (g:Nat) (A:Option Addr) (n c:Nat) (zero:Value) (f:α→Value) (x:Except Nat (α × List Nat)) (e:Ending):Prop :=
 match x with
 | .ok (v,r)=>e=.returned (f v)∧WSt W' g A n c (n - r.length) 0
 | .error k=>e=.returned zero∧k≠0∧∃ at_,at_≤n∧WSt W' g A n c at_ k
def WTookB (w W':World) (g:Nat) (A:Option Addr) (n c:Nat) (x:Except Nat (List Nat × List Nat)) (e:Ending):Prop :=
 match x with
 | .ok (l,r)=>(∃ b' A' c',e=.returned (.slice A' l.length c')∧Ow W' b' 5 1 A' l.length c' (cN .u8 l)∧w.heap.size≤b')∧WSt W' g A n c (n - r.length) 0
 | .error k=>e=.returned (.slice none 0 0)∧k≠0∧∃ at_,at_≤n∧WSt W' g A n c at_ k
theorem uintP_nz {most k:Nat} {bs:List Nat} (h:uintP most bs=.error k):k≠0:=by
 unfold uintP at h;cases hv:vget0 bs with
 | error j=>rw [hv] at h;injection h with h;subst h;exact vget_ext.nz hv
 | ok p =>
  rw [hv] at h;dsimp only at h;split at h
  ·injection h with h;omega
  ·cases h
theorem takeP_nz {m k:Nat} {bs:List Nat} (h:takeP m bs=.error k):k≠0:=by
 unfold takeP at h;split at h
 ·injection h with h;omega
 ·cases h
theorem strP_nz {k:Nat} {bs:List Nat} (h:strP bs=.error k):k≠0:=by
 unfold strP at h;rcases xb_err h with h | ⟨p,_,h⟩
 ·exact vget_ext.nz h
 ·split at h
  ·injection h with h;omega
  ·split at h
   ·injection h with h;omega
   ·cases h
set_option maxRecDepth 100000 in
theorem WUint_any (w:World) (g b n c at_ err most:Nat) (A:Option Addr) (xs:List Nat) (h:WSt w g A n c at_ err)
  (hn:n=xs.length) (hnc:n≤c) (hm:n≤1000000000) (hr:Rd w b A (cN .u8 xs)) (hx:∀ x∈xs,x < 256) (hat:at_≤n) :
  Calls Tryz.prog 189 #[.pointer (some ⟨g,0,none⟩),.int .u64 (most:Int)] w fun e w'=>WTook w' g A n c (.int .u64 0) (fun v:Nat=>.int .u64 (v:Int)) (if err=0 then uintP most (xs.drop at_) else .error err) e∧Kp g g w w':=by
 have hmf:∀ (fn:Fn) (first cap:Array Value) (w:World),(Instr.makeFunc fn first cap).run Tryz.prog w=.ok (.func fn first cap) w:=fun _ _ _ _=>rfl
 have hN:Nw w ((w.alloc (.cells #[.pointer (some ⟨g,0,none⟩)] 182)).alloc (.cells #[.int .u64 (most:Int)] 97)):=((Nw.refl w).alloc' _).alloc' _;have hs:=h.nw hN;have k1:((w.alloc (.cells #[.pointer (some ⟨g,0,none⟩)] 182)).alloc (.cells #[.int .u64 (most:Int)] 97)).cell? ⟨w.heap.size,0,none⟩=some (.pointer (some ⟨g,0,none⟩)):=by
  have:((w.alloc (.cells #[.pointer (some ⟨g,0,none⟩)] 182)).alloc (.cells #[.int .u64 (most:Int)] 97)).heap[w.heap.size]? = some (.cells #[.pointer (some ⟨g,0,none⟩)] 182):=(heap_alloc_old _ _ (by simp)).trans (heap_alloc_new w _);exact cell_at (k:=0) this
 have k2:((w.alloc (.cells #[.pointer (some ⟨g,0,none⟩)] 182)).alloc (.cells #[.int .u64 (most:Int)] 97)).cell? ⟨w.heap.size+1,0,none⟩=some (.int .u64 (most:Int)):=by
  have:((w.alloc (.cells #[.pointer (some ⟨g,0,none⟩)] 182)).alloc (.cells #[.int .u64 (most:Int)] 97)).heap[w.heap.size+1]? = some (.cells #[.int .u64 (most:Int)] 97):=by have:=heap_alloc_new (w.alloc (.cells #[.pointer (some ⟨g,0,none⟩)] 182)) (.cells #[.int .u64 (most:Int)] 97);simpa using this
  exact cell_at (k:=0) this
 have ent:∀ args W,(callFunc 250 args).run Tryz.prog W=.ok (.enter 250 args) W:=enters_of Tryz.func250 (by kernel_rfl) rfl;by_cases h0:err=0
 ·subst h0;have hC:=Uint1_any _ g w.heap.size (w.heap.size+1) b n c at_ most A xs hs k1 k2 hn hnc hm (hr.nw hN) hx hat;rw [if_pos rfl];generalize hX:uintP most (xs.drop at_)=X at *;cases X with
  | error k =>
   have hk:=uintP_nz hX;have HR:=hid (readU_bad _ g n c at_ k A 250 (.pointer (some ⟨w.heap.size,0,none⟩)) (.pointer (some ⟨w.heap.size+1,0,none⟩)) hs hk ent (hC.mono fun e w' h=>⟨h.1,by rw [h.2];exact Nw.refl _⟩));have HS:=hid hs;have HK:=hid hk;have HN:=hid hN;clear hC hX hs hN h hr hx hn k1 k2 ent hk;go_enter Tryz.func189,Tryz.ntmps189
   go_wp2_with fail;refine HR.out.mono ?_;rintro e w3 ⟨w1,rfl,hN3,rfl⟩;go_wp2_with fail;go_ret;exact ⟨⟨rfl,HK.out,at_,hat,(HS.out.nw hN3).s2 k⟩,((HN.out.trans hN3).kp g g).setCell' (.inl rfl) _⟩
  | ok q =>
   obtain ⟨v,r⟩:=q;obtain ⟨T,hT⟩:∃ T,n - r.length=T:=⟨_,rfl⟩;have HR:=hid (readU_ok _ g n c at_ T A 250 (.pointer (some ⟨w.heap.size,0,none⟩)) (.pointer (some ⟨w.heap.size+1,0,none⟩)) (fun v' _=>v'=.int .u64 (v:Int)) hs ent (hC.mono fun e w' h=>⟨_,by rw [h.1,hT],rfl,by rw [h.2];exact Nw.refl _⟩));have HS:=hid hs;have HG0:=hid h.lt;have HT:=hid hT;have HN:=hid hN;clear hC hX hs hN h hr hx hn k1 k2 ent hT;go_enter Tryz.func189,Tryz.ntmps189
   go_wp2_with fail;refine HR.out.mono ?_;rintro e w3 ⟨u,w1,rfl,hK,hN3,rfl⟩;have HK:=hid hK;clear hK;go_wp2_with fail;go_ret;refine ⟨?_,((HN.out.trans hN3).kp g g).setCell' (.inl rfl) _⟩;obtain rfl:=HK.out;refine ⟨rfl,?_⟩;rw [HT.out];exact (HS.out.nw hN3).s1 T
 ·have HR:=hid (readU_err _ g n c at_ err A (.func (.func 250) #[] #[(.pointer (some ⟨w.heap.size,0,none⟩)),(.pointer (some ⟨w.heap.size+1,0,none⟩))]) hs h0);rw [if_neg h0];have HS:=hid hs;have HK:=hid h0;have HN:=hid hN;clear hs hN h hr hx hn k1 k2 ent h0;go_enter Tryz.func189,Tryz.ntmps189
  go_wp2_with fail;refine HR.out.mono ?_;rintro e w3 ⟨rfl,rfl⟩;go_wp2_with fail;go_ret;exact ⟨⟨rfl,HK.out,at_,hat,HS.out⟩,HN.out.kp g g⟩
set_option maxRecDepth 100000 in
theorem WString_any (w:World) (g b n c at_ err:Nat) (A:Option Addr) (xs:List Nat) (h:WSt w g A n c at_ err)
  (hn:n=xs.length) (hnc:n≤c) (hm:n≤1000000000) (hr:Rd w b A (cN .u8 xs)) (hx:∀ x∈xs,x < 256) (hat:at_≤n) :
  Calls Tryz.prog 106 #[.pointer (some ⟨g,0,none⟩),.int .i64 65535] w fun e w'=>WTook w' g A n c (.string .empty) (fun v:ByteArray=>.string v) (if err=0 then strP (xs.drop at_) else .error err) e∧Kp g g w w':=by
 have hmf:∀ (fn:Fn) (first cap:Array Value) (w:World),(Instr.makeFunc fn first cap).run Tryz.prog w=.ok (.func fn first cap) w:=fun _ _ _ _=>rfl
 have hN:Nw w ((w.alloc (.cells #[.pointer (some ⟨g,0,none⟩)] 182)).alloc (.cells #[.int .i64 65535] 3)):=((Nw.refl w).alloc' _).alloc' _;have hs:=h.nw hN;have k1:((w.alloc (.cells #[.pointer (some ⟨g,0,none⟩)] 182)).alloc (.cells #[.int .i64 65535] 3)).cell? ⟨w.heap.size,0,none⟩=some (.pointer (some ⟨g,0,none⟩)):=by
  have:((w.alloc (.cells #[.pointer (some ⟨g,0,none⟩)] 182)).alloc (.cells #[.int .i64 65535] 3)).heap[w.heap.size]? = some (.cells #[.pointer (some ⟨g,0,none⟩)] 182):=(heap_alloc_old _ _ (by simp)).trans (heap_alloc_new w _);exact cell_at (k:=0) this
 have k2:((w.alloc (.cells #[.pointer (some ⟨g,0,none⟩)] 182)).alloc (.cells #[.int .i64 65535] 3)).cell? ⟨w.heap.size+1,0,none⟩=some (.int .i64 65535):=by
  have:((w.alloc (.cells #[.pointer (some ⟨g,0,none⟩)] 182)).alloc (.cells #[.int .i64 65535] 3)).heap[w.heap.size+1]? = some (.cells #[.int .i64 65535] 3):=by have:=heap_alloc_new (w.alloc (.cells #[.pointer (some ⟨g,0,none⟩)] 182)) (.cells #[.int .i64 65535] 3);simpa using this
  exact cell_at (k:=0) this
 have ent:∀ args W,(callFunc 176 args).run Tryz.prog W=.ok (.enter 176 args) W:=enters_of Tryz.func176 (by kernel_rfl) rfl;by_cases h0:err=0
 ·subst h0;have hC:=Str1_any _ g w.heap.size (w.heap.size+1) b n c at_ A xs hs k1 k2 hn hnc hm (hr.nw hN) hx hat;rw [if_pos rfl];generalize hX:strP (xs.drop at_)=X at *;cases X with
  | error k =>
   have hk:=strP_nz hX;have HR:=hid (readS_bad _ g n c at_ k A 176 (.pointer (some ⟨w.heap.size,0,none⟩)) (.pointer (some ⟨w.heap.size+1,0,none⟩)) hs hk ent (hC.mono fun e w' h=>⟨h.1,by rw [h.2];exact Nw.refl _⟩));have HS:=hid hs;have HK:=hid hk;have HN:=hid hN;clear hC hX hs hN h hr hx hn k1 k2 ent hk;go_enter Tryz.func106,Tryz.ntmps106
   go_wp2_with fail;refine HR.out.mono ?_;rintro e w3 ⟨w1,rfl,hN3,rfl⟩;go_wp2_with fail;go_ret;exact ⟨⟨rfl,HK.out,at_,hat,(HS.out.nw hN3).s2 k⟩,((HN.out.trans hN3).kp g g).setCell' (.inl rfl) _⟩
  | ok q =>
   obtain ⟨v,r⟩:=q;obtain ⟨T,hT⟩:∃ T,n - r.length=T:=⟨_,rfl⟩;have HR:=hid (readS_ok _ g n c at_ T A 176 (.pointer (some ⟨w.heap.size,0,none⟩)) (.pointer (some ⟨w.heap.size+1,0,none⟩)) (fun v' _=>v'=.string v) hs ent (hC.mono fun e w' h=>⟨_,by rw [h.1,hT],rfl,by rw [h.2];exact Nw.refl _⟩));have HS:=hid hs;have HG0:=hid h.lt;have HT:=hid hT;have HN:=hid hN;clear hC hX hs hN h hr hx hn k1 k2 ent hT;go_enter Tryz.func106,Tryz.ntmps106
   go_wp2_with fail;refine HR.out.mono ?_;rintro e w3 ⟨u,w1,rfl,hK,hN3,rfl⟩;have HK:=hid hK;clear hK;go_wp2_with fail;go_ret;refine ⟨?_,((HN.out.trans hN3).kp g g).setCell' (.inl rfl) _⟩;obtain rfl:=HK.out;refine ⟨rfl,?_⟩;rw [HT.out];exact (HS.out.nw hN3).s1 T
 ·have HR:=hid (readS_err _ g n c at_ err A (.func (.func 176) #[] #[(.pointer (some ⟨w.heap.size,0,none⟩)),(.pointer (some ⟨w.heap.size+1,0,none⟩))]) hs h0);rw [if_neg h0];have HS:=hid hs;have HK:=hid h0;have HN:=hid hN;clear hs hN h hr hx hn k1 k2 ent h0;go_enter Tryz.func106,Tryz.ntmps106
  go_wp2_with fail;refine HR.out.mono ?_;rintro e w3 ⟨rfl,rfl⟩;go_wp2_with fail;go_ret;exact ⟨⟨rfl,HK.out,at_,hat,HS.out⟩,HN.out.kp g g⟩
set_option maxRecDepth 100000 in
theorem WTake_any (w:World) (g b n c at_ err m:Nat) (A:Option Addr) (xs:List Nat) (h:WSt w g A n c at_ err)
  (hn:n=xs.length) (hnc:n≤c) (hm:n≤1000000000) (hr:Rd w b A (cN .u8 xs)) (hat:at_≤n) (hk0:m≤1000000000) (hkp:err=0→0 < m) :
  Calls Tryz.prog 172 #[.pointer (some ⟨g,0,none⟩),.int .i64 (m:Int)] w fun e w'=>WTookB w w' g A n c (if err=0 then takeP m (xs.drop at_) else .error err) e∧Kp g g w w':=by
 have hmf:∀ (fn:Fn) (first cap:Array Value) (w:World),(Instr.makeFunc fn first cap).run Tryz.prog w=.ok (.func fn first cap) w:=fun _ _ _ _=>rfl
 have hN:Nw w ((w.alloc (.cells #[.pointer (some ⟨g,0,none⟩)] 182)).alloc (.cells #[.int .i64 (m:Int)] 3)):=((Nw.refl w).alloc' _).alloc' _;have hs:=h.nw hN;have k1:((w.alloc (.cells #[.pointer (some ⟨g,0,none⟩)] 182)).alloc (.cells #[.int .i64 (m:Int)] 3)).cell? ⟨w.heap.size,0,none⟩=some (.pointer (some ⟨g,0,none⟩)):=by
  have:((w.alloc (.cells #[.pointer (some ⟨g,0,none⟩)] 182)).alloc (.cells #[.int .i64 (m:Int)] 3)).heap[w.heap.size]? = some (.cells #[.pointer (some ⟨g,0,none⟩)] 182):=(heap_alloc_old _ _ (by simp)).trans (heap_alloc_new w _);exact cell_at (k:=0) this
 have k2:((w.alloc (.cells #[.pointer (some ⟨g,0,none⟩)] 182)).alloc (.cells #[.int .i64 (m:Int)] 3)).cell? ⟨w.heap.size+1,0,none⟩=some (.int .i64 (m:Int)):=by
  have:((w.alloc (.cells #[.pointer (some ⟨g,0,none⟩)] 182)).alloc (.cells #[.int .i64 (m:Int)] 3)).heap[w.heap.size+1]? = some (.cells #[.int .i64 (m:Int)] 3):=by have:=heap_alloc_new (w.alloc (.cells #[.pointer (some ⟨g,0,none⟩)] 182)) (.cells #[.int .i64 (m:Int)] 3);simpa using this
  exact cell_at (k:=0) this
 have ent:∀ args W,(callFunc 240 args).run Tryz.prog W=.ok (.enter 240 args) W:=enters_of Tryz.func240 (by kernel_rfl) rfl;by_cases h0:err=0
 ·subst h0;have hC:=Take1_any _ g (w.heap.size+1) w.heap.size b n c at_ m A xs hs k2 k1 hn hnc hm (hr.nw hN) hat hk0 (hkp rfl);rw [if_pos rfl];generalize hX:takeP m (xs.drop at_)=X at *;cases X with
  | error k =>
   have hk:=takeP_nz hX;have HR:=hid (readB_bad _ g n c at_ k A 240 (.pointer (some ⟨w.heap.size+1,0,none⟩)) (.pointer (some ⟨w.heap.size,0,none⟩)) hs hk ent (hC.mono fun e w' h=>by obtain ⟨⟨v,u,h1⟩,h2⟩:=h;exact ⟨⟨v,u,h1⟩,h2⟩));have HS:=hid hs;have HK:=hid hk;have HN:=hid hN;clear hC hX hs hN h hr hn k1 k2 ent hk;go_enter Tryz.func172,Tryz.ntmps172
   go_wp2_with fail;refine HR.out.mono ?_;rintro e w3 ⟨w1,rfl,hN3,rfl⟩;go_wp2_with fail;go_ret;exact ⟨⟨rfl,HK.out,at_,hat,(HS.out.nw hN3).s2 k⟩,((HN.out.trans hN3).kp g g).setCell' (.inl rfl) _⟩
  | ok q =>
   obtain ⟨v,r⟩:=q;obtain ⟨T,hT⟩:∃ T,n - r.length=T:=⟨_,rfl⟩;have HR:=hid (readB_ok _ g n c at_ T A 240 (.pointer (some ⟨w.heap.size+1,0,none⟩)) (.pointer (some ⟨w.heap.size,0,none⟩)) (fun v' w'=>∃ b' A' c',v'=.slice A' v.length c'∧Ow w' b' 5 1 A' v.length c' (cN .u8 v)∧w.heap.size≤b') hs ent (hC.mono fun e w' h=>by obtain ⟨b',A',c',h1,h2,h3,h4⟩:=h;exact ⟨_,by rw [h1,hT],⟨b',A',c',rfl,h2,Nat.le_trans hN.size h3⟩,h4⟩));have HS:=hid hs;have HG0:=hid h.lt;have HT:=hid hT;have HN:=hid hN;clear hC hX hs hN h hr hn k1 k2 ent hT;go_enter Tryz.func172,Tryz.ntmps172
   go_wp2_with fail;refine HR.out.mono ?_;rintro e w3 ⟨u,w1,rfl,hK,hN3,rfl⟩;have HK:=hid hK;clear hK;go_wp2_with fail;go_ret;refine ⟨?_,((HN.out.trans hN3).kp g g).setCell' (.inl rfl) _⟩;obtain ⟨b',A',c',rfl,hO,hb'⟩:=HK.out;refine ⟨⟨b',A',c',rfl,hO.kp ((Kp.refl g g w1).setCell' (.inl rfl) _) (by have:=HS.out.lt;have:=HG0.out;omega) (by have:=HG0.out;omega),hb'⟩,?_⟩;rw [HT.out];exact (HS.out.nw hN3).s1 T
 ·have HR:=hid (readB_err _ g n c at_ err A (.func (.func 240) #[] #[(.pointer (some ⟨w.heap.size+1,0,none⟩)),(.pointer (some ⟨w.heap.size,0,none⟩))]) hs h0);rw [if_neg h0];have HS:=hid hs;have HK:=hid h0;have HN:=hid hN;clear hs hN h hr hn k1 k2 ent h0;go_enter Tryz.func172,Tryz.ntmps172
  go_wp2_with fail;refine HR.out.mono ?_;rintro e w3 ⟨rfl,rfl⟩;go_wp2_with fail;go_ret;exact ⟨⟨rfl,HK.out,at_,hat,HS.out⟩,HN.out.kp g g⟩
set_option maxRecDepth 100000 in
theorem WSection_any (w:World) (g b n c at_ err id:Nat) (A:Option Addr) (xs:List Nat) (h:WSt w g A n c at_ err)
  (hn:n=xs.length) (hnc:n≤c) (hm:n≤1000000000) (hr:Rd w b A (cN .u8 xs)) (hx:∀ x∈xs,x < 256) (hat:at_≤n) (hG:Gl w) :
  Calls Tryz.prog 171 #[.pointer (some ⟨g,0,none⟩),.int .u8 (id:Int)] w fun e w'=>WTookB w w' g A n c (if err=0 then sectP id (xs.drop at_) else .error err) e∧Kp g g w w':=by
 have hmf:∀ (fn:Fn) (first cap:Array Value) (w:World),(Instr.makeFunc fn first cap).run Tryz.prog w=.ok (.func fn first cap) w:=fun _ _ _ _=>rfl
 have hN:Nw w ((w.alloc (.cells #[.pointer (some ⟨g,0,none⟩)] 182)).alloc (.cells #[.int .u8 (id:Int)] 5)):=((Nw.refl w).alloc' _).alloc' _;have hs:=h.nw hN;have k1:((w.alloc (.cells #[.pointer (some ⟨g,0,none⟩)] 182)).alloc (.cells #[.int .u8 (id:Int)] 5)).cell? ⟨w.heap.size,0,none⟩=some (.pointer (some ⟨g,0,none⟩)):=by
  have:((w.alloc (.cells #[.pointer (some ⟨g,0,none⟩)] 182)).alloc (.cells #[.int .u8 (id:Int)] 5)).heap[w.heap.size]? = some (.cells #[.pointer (some ⟨g,0,none⟩)] 182):=(heap_alloc_old _ _ (by simp)).trans (heap_alloc_new w _);exact cell_at (k:=0) this
 have k2:((w.alloc (.cells #[.pointer (some ⟨g,0,none⟩)] 182)).alloc (.cells #[.int .u8 (id:Int)] 5)).cell? ⟨w.heap.size+1,0,none⟩=some (.int .u8 (id:Int)):=by
  have:((w.alloc (.cells #[.pointer (some ⟨g,0,none⟩)] 182)).alloc (.cells #[.int .u8 (id:Int)] 5)).heap[w.heap.size+1]? = some (.cells #[.int .u8 (id:Int)] 5):=by have:=heap_alloc_new (w.alloc (.cells #[.pointer (some ⟨g,0,none⟩)] 182)) (.cells #[.int .u8 (id:Int)] 5);simpa using this
  exact cell_at (k:=0) this
 have ent:∀ args W,(callFunc 239 args).run Tryz.prog W=.ok (.enter 239 args) W:=enters_of Tryz.func239 (by kernel_rfl) rfl;by_cases h0:err=0
 ·subst h0;have hC:=Sect1_any _ g w.heap.size (w.heap.size+1) b n c at_ id A xs hs k1 k2 hn hnc hm (hr.nw hN) hx hat (hG.nw hN);rw [if_pos rfl];generalize hX:sectP id (xs.drop at_)=X at *;cases X with
  | error k =>
   have hk:=(sect_ext id).nz hX;have HR:=hid (readB_bad _ g n c at_ k A 239 (.pointer (some ⟨w.heap.size,0,none⟩)) (.pointer (some ⟨w.heap.size+1,0,none⟩)) hs hk ent (hC.mono fun e w' h=>by obtain ⟨⟨v,u,h1⟩,h2⟩:=h;exact ⟨⟨v,u,h1⟩,h2⟩));have HS:=hid hs;have HK:=hid hk;have HN:=hid hN;clear hC hX hs hN h hr hx hn k1 k2 ent hk;go_enter Tryz.func171,Tryz.ntmps171
   go_wp2_with fail;refine HR.out.mono ?_;rintro e w3 ⟨w1,rfl,hN3,rfl⟩;go_wp2_with fail;go_ret;exact ⟨⟨rfl,HK.out,at_,hat,(HS.out.nw hN3).s2 k⟩,((HN.out.trans hN3).kp g g).setCell' (.inl rfl) _⟩
  | ok q =>
   obtain ⟨v,r⟩:=q;obtain ⟨T,hT⟩:∃ T,n - r.length=T:=⟨_,rfl⟩;have HR:=hid (readB_ok _ g n c at_ T A 239 (.pointer (some ⟨w.heap.size,0,none⟩)) (.pointer (some ⟨w.heap.size+1,0,none⟩)) (fun v' w'=>∃ b' A' c',v'=.slice A' v.length c'∧Ow w' b' 5 1 A' v.length c' (cN .u8 v)∧w.heap.size≤b') hs ent (hC.mono fun e w' h=>by obtain ⟨b',A',c',h1,h2,h3,h4⟩:=h;exact ⟨_,by rw [h1,hT],⟨b',A',c',rfl,h2,Nat.le_trans hN.size h3⟩,h4⟩));have HS:=hid hs;have HG0:=hid h.lt;have HT:=hid hT;have HN:=hid hN;clear hC hX hs hN h hr hx hn k1 k2 ent hT;go_enter Tryz.func171,Tryz.ntmps171
   go_wp2_with fail;refine HR.out.mono ?_;rintro e w3 ⟨u,w1,rfl,hK,hN3,rfl⟩;have HK:=hid hK;clear hK;go_wp2_with fail;go_ret;refine ⟨?_,((HN.out.trans hN3).kp g g).setCell' (.inl rfl) _⟩;obtain ⟨b',A',c',rfl,hO,hb'⟩:=HK.out;refine ⟨⟨b',A',c',rfl,hO.kp ((Kp.refl g g w1).setCell' (.inl rfl) _) (by have:=HS.out.lt;have:=HG0.out;omega) (by have:=HG0.out;omega),hb'⟩,?_⟩;rw [HT.out];exact (HS.out.nw hN3).s1 T
 ·have HR:=hid (readB_err _ g n c at_ err A (.func (.func 239) #[] #[(.pointer (some ⟨w.heap.size,0,none⟩)),(.pointer (some ⟨w.heap.size+1,0,none⟩))]) hs h0);rw [if_neg h0];have HS:=hid hs;have HK:=hid h0;have HN:=hid hN;clear hs hN h hr hx hn k1 k2 ent h0;go_enter Tryz.func171,Tryz.ntmps171
  go_wp2_with fail;refine HR.out.mono ?_;rintro e w3 ⟨rfl,rfl⟩;go_wp2_with fail;go_ret;exact ⟨⟨rfl,HK.out,at_,hat,HS.out⟩,HN.out.kp g g⟩
end
section
open Go Go.RowKit Go.Lib
structure WIn (W:World) (g b:Nat) (A:Option Addr) (n c:Nat) (xs:List Nat):Prop where
 rd:Rd W b A (cN .u8 xs)
 ne:b≠g
 len:n=xs.length
 cap:n≤c
 small:n≤1000000000
 byte:∀ x∈xs,x < 256
theorem WIn.nw {W W':World} {g b n c:Nat} {A:Option Addr} {xs:List Nat} (h:WIn W g b A n c xs) (hN:Nw W W'):WIn W' g b A n c xs:=⟨h.rd.nw hN,h.ne,h.len,h.cap,h.small,h.byte⟩
theorem WIn.kp {W W':World} {g b n c:Nat} {A:Option Addr} {xs:List Nat} (h:WIn W g b A n c xs) (hN:Kp g g W W'):WIn W' g b A n c xs:=⟨h.rd.kp hN h.ne h.ne,h.ne,h.len,h.cap,h.small,h.byte⟩
set_option maxRecDepth 100000 in
theorem WNew_any (w:World) (b:Nat) (A:Option Addr) (n c:Nat) (xs:List Nat) (hn:n=xs.length) (hm:n≤1000000000) (hr:Rd w b A (cN .u8 xs)) (hA:A=none→c=0) (hx:∀ x∈xs,x < 256) :
  Calls Tryz.prog 105 #[.slice A n c] w fun e w'=>∃ g b' A' c',e=.returned (.pointer (some ⟨g,0,none⟩))∧WSt w' g A' n c' 0 0∧WIn w' g b' A' n c' xs∧w.heap.size≤b'∧w.heap.size≤g∧Nw w w':=by
 have HC:=hid (CloneB_any w b A n c xs hn (by omega) hr hA);have HI:=hid (And.intro hn (And.intro hm hx));clear hr hA hx hn;go_enter Tryz.func105,Tryz.ntmps105
 go_wp2_with fail;refine HC.out.mono ?_;rintro e w1 ⟨b',A',c',rfl,hO,hb',hN1⟩;have HO:=hid hO;have HN1:=hid (And.intro hb' hN1);clear hO hb' hN1;go_wp2_with fail;go_ret;obtain ⟨hb',hN1⟩:=HN1.out;obtain ⟨h1,h2,h3⟩:=HI.out;have hO:=HO.out;have hNa:Nw w1 (w1.alloc (.cells #[.slice A' n c',.int .i64 0,.int .i64 0] 271)):=(Nw.refl w1).alloc' _;have hcap:n≤c':=hO.cap.1;cases A' with
 | none =>
  have hx0:xs=[]:=by
   rcases hO with ⟨_,_,_,h⟩ | ⟨h,_⟩
   ·exact List.map_eq_nil_iff.1 h
   ·cases h
  subst hx0;exact ⟨w1.heap.size,w1.heap.size+1,none,c',rfl,heap_alloc_new w1 _,⟨Rd.nil _ _ _,by omega,h1,hcap,h2,h3⟩,by have:=hN1.size;omega,hN1.size,hN1.trans hNa⟩
 | some a =>
  have hlt:b' < w1.heap.size:=by
   rcases hO with ⟨h,_⟩ | ⟨_,h,_⟩
   ·cases h
   ·exact h
  exact ⟨w1.heap.size,b',some a,c',rfl,heap_alloc_new w1 _,⟨(hO.nw hNa).rd,by omega,h1,hcap,h2,h3⟩,hb',hN1.size,hN1.trans hNa⟩
theorem bS_eq {l:List Nat} {s:ByteArray} (hl:∀ x∈l,x < 256):((bS l).toList == s.toList)=decide (l=sB s):=by
 by_cases h:l=sB s
 ·rw [decide_eq_true h,beq_iff_eq,h];have:bS (sB s)=s:=sB_inj (sB_bS (sB_lt s));rw [this]
 ·rw [decide_eq_false h,beq_eq_false_iff_ne];intro e;apply h
  have:=bytes_ext e;rw [← this,sB_bS hl]
def LitW (w':World) (g:Nat) (A:Option Addr) (n c:Nat) (X:Except Nat (List Nat)):Prop :=
 match X with
 | .ok r=>WSt w' g A n c (n - r.length) 0
 | .error k=>∃ q,q≤n∧WSt w' g A n c q k
theorem LitW.er {w':World} {g n c q k E err:Nat} {A:Option Addr} {X:Except Nat (List Nat)} (h:WSt w' g A n c q k) (hq:q≤n) (hX:X=.error E) (hk:k=if err=0 then E else err):LitW w' g A n c (if err=0 then X else .error err):=by
 subst hX;by_cases h0:err=0
 ·rw [if_pos h0] at hk ⊢;subst hk;exact ⟨q,hq,h⟩
 ·rw [if_neg h0] at hk ⊢;subst hk;exact ⟨q,hq,h⟩
theorem Take_off {w:World} {g b n c at_ err m:Nat} {A:Option Addr} {xs:List Nat} (h:WSt w g A n c at_ err) (hI:WIn w g b A n c xs) (hat:at_≤n) (h0:err≠0) (hm:m≤1000000000) :
  Calls Tryz.prog 172 #[.pointer (some ⟨g,0,none⟩),.int .i64 (m:Int)] w fun e w'=>e=.returned (.slice none 0 0)∧(∃ q,q≤n∧WSt w' g A n c q err)∧Kp g g w w' :=
 (WTake_any w g b n c at_ err m A xs h hI.len hI.cap hI.small hI.rd hat hm (fun e=>(h0 e).elim)).mono fun e w' ⟨h1,h2⟩=>by
  rw [if_neg h0] at h1;exact ⟨h1.1,h1.2.2,h2⟩
set_option maxRecDepth 100000 in
set_option maxHeartbeats 1000000 in
theorem WLit_any (w:World) (g b n c at_ err:Nat) (A:Option Addr) (xs:List Nat) (b2:Nat) (A2:Option Addr) (n2 c2:Nat) (s:ByteArray) (ys:List Nat) (h:WSt w g A n c at_ err) (hI:WIn w g b A n c xs) (hat:at_≤n)
  (hn2:n2=ys.length) (hr2:Rd w b2 A2 (cN .u8 ys)) (hy:∀ x∈ys,x < 256) (hys:err=0→xs.drop at_=ys) (hs:s.size≤100) (hs0:0 < s.size) (hc2:n2≤c2) (hn2m:n2≤1000000000) :
  Calls Tryz.prog 169 #[.pointer (some ⟨g,0,none⟩),.slice A2 n2 c2,.string s] w fun e w'=>e=.returned (.tuple #[])∧Kp g g w w'∧LitW w' g A n c (if err=0 then litP (sB s) ys else .error err):=by
 subst hn2;have HI:=hid hI;have HH:=hid h;have HY:=hid hys;have HF:=hid fun (W:World) (hN:Nw w W) (E:Nat)=>WFail_any W g n c at_ err E A (h.nw hN)
 obtain ⟨X,hX⟩:∃ X,litP (sB s) ys=X:=⟨_,rfl⟩;rw [hX];obtain ⟨Z,hZ⟩:∃ Z,(if err=0 then X else .error err)=Z:=⟨_,rfl⟩;rw [hZ];have HZ:=hid hZ;clear hZ;have HX:=hid hX;have HSl:=hid (sB_length s);clear hX hI h hys;by_cases hl:s.size≤ys.length
 ·have hmn:min (ys.length:Int) (s.size:Int)=(s.size:Int):=by omega
  have hcv:∀ q,(convert 22 9 (.slice A2 s.size c2)).run Tryz.prog (w.drewN q)=.ok (.string (bS (ys.take s.size))) (w.drewN q):=fun q=>run_str (by rw [List.length_take];omega) (by
   have:=(hr2.drewN q).take s.size;unfold cN at this ⊢;rw [List.map_take];exact this)
  have hsI:(s.size:Int)≤(ys.length:Int):=by omega
  have hsI0:(0:Int)≤(s.size:Int):=by omega
  have hsc:(s.size:Int)≤(c2:Int):=by omega
  have hss:¬ (s.size:Int) < (s.size:Int):=by omega
  have hty:∀ x∈ys.take s.size,x < 256:=fun x hx=>hy x (List.mem_of_mem_take hx)
  by_cases he:ys.take s.size=sB s
  ·have hb:((bS (ys.take s.size)).toList == s.toList)=true:=by rw [bS_eq hty,decide_eq_true he]
   have HXo:Hid (X=.ok (ys.drop s.size)):=hid (by
    rw [← HX.out];unfold litP;rw [HSl.out,show (sB s).take ys.length=sB s from List.take_of_length_le (by rw [HSl.out];exact hl),if_neg (by simp [he]),if_neg (by omega)])
   clear hr2 he hy hty;generalize bS (ys.take s.size)=t at *;go_enter Tryz.func169,Tryz.ntmps169
   go_wp2_with fail;go_quiet (fail)
   have hN1:=Nw.drewN w nq;have HN1:=hid hN1;clear hN1 hcv;generalize World.drewN w nq=w1 at *;go_wp2_with fail;by_cases h0:err=0
   ·subst h0;have hxy:=HY.out rfl;have hlen:n - at_=ys.length:=by rw [← hxy,List.length_drop,HI.out.len]
    have HI1:=(HI.out.nw HN1.out);refine (WTake_any w1 g b n c at_ 0 s.size A xs (HH.out.nw HN1.out) HI1.len HI1.cap HI1.small HI1.rd hat (by omega) (fun _=>hs0)).mono ?_;rintro e w2 ⟨h1,h2⟩;rw [if_pos rfl,hxy] at h1;have htk:takeP s.size ys=.ok (ys.take s.size,ys.drop s.size):=by unfold takeP;rw [if_neg (by omega)]
    rw [htk] at h1;obtain ⟨⟨b',A',c',rfl,_,_⟩,hst⟩:=h1;have HS:=hid hst;have HK:=hid h2;clear h2 hst hxy htk hlen HI1;go_wp2_with fail;go_end0
    refine ⟨rfl,(HN1.out.kp g g).trans HK.out (.inl rfl) (.inl rfl),?_⟩;have hzx:Z=X:=by rw [← HZ.out];simp
    rw [hzx,HXo.out];exact HS.out
   ·refine (Take_off (HH.out.nw HN1.out) (HI.out.nw HN1.out) hat h0 (by omega)).mono ?_;rintro e w2 ⟨rfl,⟨q,hq,hst⟩,h2⟩;have HS:=hid hst;have HK:=hid h2;clear h2 hst;go_wp2_with fail;go_end0
    refine ⟨rfl,(HN1.out.kp g g).trans HK.out (.inl rfl) (.inl rfl),?_⟩;rw [← HZ.out,if_neg h0];exact ⟨q,hq,HS.out⟩
  ·have hb:((bS (ys.take s.size)).toList == s.toList)=false:=by rw [bS_eq hty,decide_eq_false he]
   have HXo:Hid (X=.error 10):=hid (by
    rw [← HX.out];unfold litP;rw [HSl.out,show (sB s).take ys.length=sB s from List.take_of_length_le (by rw [HSl.out];exact hl),if_pos he])
   clear hr2 he hy hty;generalize bS (ys.take s.size)=t at *;go_enter Tryz.func169,Tryz.ntmps169
   go_wp2_with fail;go_quiet (fail)
   have hN1:=Nw.drewN w nq;have HN1:=hid hN1;clear hN1 hcv;generalize World.drewN w nq=w1 at *;go_wp2_with fail;refine (HF.out _ HN1.out 10).mono ?_;rintro e w2 ⟨rfl,hst,hk⟩;have hne:(if err=0 then 10 else err)≠0:=by split<;>omega
   have HT:=hid (Take_off (m:=s.size) hst ((HI.out.nw HN1.out).kp hk) hat hne (by omega));have HK:=hid hk;clear hst hk hne;go_wp2_with fail;refine HT.out.mono ?_;rintro e w3 ⟨rfl,⟨q,hq,hst⟩,h2⟩;have HS:=hid hst;have HK2:=hid h2;clear h2 hst;go_wp2_with fail;go_end0
   exact ⟨rfl,((HN1.out.kp g g).trans HK.out (.inl rfl) (.inl rfl)).trans HK2.out (.inl rfl) (.inl rfl),by rw [← HZ.out];exact LitW.er HS.out hq HXo.out rfl⟩
 ·have hmn:min (ys.length:Int) (s.size:Int)=(ys.length:Int):=by omega
  have hcv:∀ q,(convert 22 9 (.slice A2 ys.length c2)).run Tryz.prog (w.drewN q)=.ok (.string (bS ys)) (w.drewN q):=fun q=>run_str rfl (hr2.drewN q)
  have hsI:(ys.length:Int)≤(s.size:Int):=by omega
  have hsI0:(0:Int)≤(ys.length:Int):=by omega
  have hsc:(ys.length:Int)≤(c2:Int):=by omega
  have hss:(ys.length:Int) < (s.size:Int):=by omega
  have hex:sB (s.extract 0 ys.length)=(sB s).take ys.length:=by
   unfold sB;rw [Lib.extract_data,← List.map_take];simp
  have hbe:((bS ys).toList == (s.extract 0 ys.length).toList)=decide (ys=(sB s).take ys.length):=by rw [bS_eq hy,hex]
  by_cases he:ys=(sB s).take ys.length
  ·have HXo:Hid (X=.error 3):=hid (by
    rw [← HX.out];unfold litP;rw [HSl.out,List.take_of_length_le (show ys.length≤s.size by omega),if_neg (by simp [← he]),if_pos (by omega)])
   rw [decide_eq_true he] at hbe;clear hr2 he hy hex;generalize bS ys=t at *;go_enter Tryz.func169,Tryz.ntmps169
   go_wp2_with fail;go_quiet (fail)
   have hN1:=Nw.drewN w nq;have HN1:=hid hN1;clear hN1 hcv;generalize World.drewN w nq=w1 at *;go_wp2_with fail;refine (HF.out _ HN1.out 3).mono ?_;rintro e w2 ⟨rfl,hst,hk⟩;have hne:(if err=0 then 3 else err)≠0:=by split<;>omega
   have HT:=hid (Take_off (m:=ys.length) hst ((HI.out.nw HN1.out).kp hk) hat hne hn2m);have HK:=hid hk;clear hst hk hne;go_wp2_with fail;refine HT.out.mono ?_;rintro e w3 ⟨rfl,⟨q,hq,hst⟩,h2⟩;have HS:=hid hst;have HK2:=hid h2;clear h2 hst;go_wp2_with fail;go_end0
   exact ⟨rfl,((HN1.out.kp g g).trans HK.out (.inl rfl) (.inl rfl)).trans HK2.out (.inl rfl) (.inl rfl),by rw [← HZ.out];exact LitW.er HS.out hq HXo.out rfl⟩
  ·have HXo:Hid (X=.error 10):=hid (by
    rw [← HX.out];unfold litP;rw [HSl.out,List.take_of_length_le (show ys.length≤s.size by omega),if_pos he])
   rw [decide_eq_false he] at hbe;clear hr2 he hy hex;generalize bS ys=t at *;go_enter Tryz.func169,Tryz.ntmps169
   go_wp2_with fail;go_quiet (fail)
   have hN1:=Nw.drewN w nq;have HN1:=hid hN1;clear hN1 hcv;generalize World.drewN w nq=w1 at *;go_wp2_with fail;refine (HF.out _ HN1.out 10).mono ?_;rintro e w2 ⟨rfl,hst,hk⟩;have hne:(if err=0 then 10 else err)≠0:=by split<;>omega
   have HT:=hid (Take_off (m:=ys.length) hst ((HI.out.nw HN1.out).kp hk) hat hne hn2m);have HK:=hid hk;clear hst hk hne;go_wp2_with fail;refine HT.out.mono ?_;rintro e w3 ⟨rfl,⟨q,hq,hst⟩,h2⟩;have HS:=hid hst;have HK2:=hid h2;clear h2 hst;go_wp2_with fail;go_end0
   exact ⟨rfl,((HN1.out.kp g g).trans HK.out (.inl rfl) (.inl rfl)).trans HK2.out (.inl rfl) (.inl rfl),by rw [← HZ.out];exact LitW.er HS.out hq HXo.out rfl⟩
end
section
open Go Go.RowKit Go.Lib Go.Sort Go.Shelf
def WX (W:World) (g:Nat) (A:Option Addr) (n c:Nat) (xs:List Nat) (x:Rest):Prop :=
 match x with
 | .ok r=>WSt W g A n c (n - r.length) 0∧∃ u,xs=u++r
 | .error k=>k≠0∧∃ q,q≤n∧WSt W g A n c q k
section
variable {W W':World} {g b n c:Nat} {A:Option Addr} {xs:List Nat} {x:Rest}
theorem WX.st (h:WX W g A n c xs x):∃ q,q≤n∧WSt W g A n c q (eOf x):=by
 cases x with
 | ok r=>exact ⟨_,Nat.sub_le _ _,h.1⟩
 | error k=>exact h.2
theorem WX.hp (h:WX W g A n c xs x):∃ cs:Array Value,W.heap[g]? = some (.cells cs 271 (0,0)):=by
 obtain ⟨q,_,h⟩:=h.st;exact ⟨_,h⟩
theorem WX.lt (h:WX W g A n c xs x):g < W.heap.size:=by
 obtain ⟨cs,h⟩:=h.hp;exact lt_of_block h
theorem WX.nw (h:WX W g A n c xs x) (hN:Nw W W'):WX W' g A n c xs x:=by
 cases x with
 | ok r=>exact ⟨h.1.nw hN,h.2⟩
 | error k =>
  obtain ⟨h1,q,h2,h3⟩:=h;exact ⟨h1,q,h2,h3.nw hN⟩
theorem WX.keep {T:List TypeId} (h:WX W g A n c xs x) (hk:KtyL T W W') (he:271 ∉ T):WX W' g A n c xs x:=by
 cases x with
 | ok r=>exact ⟨hk.get h.1 he,h.2⟩
 | error k =>
  obtain ⟨h1,q,h2,h3⟩:=h;exact ⟨h1,q,h2,hk.get h3 he⟩
theorem WX.ktl (h:WX W g A n c xs x) (hk:Kp g g W W'):KtyL [271] W W':=by
 obtain ⟨cs,h⟩:=h.hp;exact hk.ktl h
theorem WX.sfx {r:List Nat} (h:WX W g A n c xs (.ok r)) (hn:n=xs.length):xs.drop (n - r.length)=r∧r.length≤n∧n - r.length≤n:=by
 obtain ⟨_,u,hu⟩:=h;have:=congrArg List.length hu;rw [List.length_append] at this;refine ⟨?_,by omega,Nat.sub_le _ _⟩;rw [hn,this,Nat.add_sub_cancel,hu,List.drop_left]
theorem WX.took {α:Type} {f:α→Value} {d:α} {X:Except Nat (α × List Nat)} {r:List Nat} {e:Ending} (hX:∀ {v r'},X=.ok (v,r')→∃ u,r=u++r') (hu:∃ u,xs=u++r) (hT:WTook W' g A n c (f d) f X e) :
  e=.returned (f (vOf d X))∧WX W' g A n c xs (sOf X):=by
 cases X with
 | ok p =>
  obtain ⟨v,r'⟩:=p;obtain ⟨u1,h1⟩:=hu;obtain ⟨u2,h2⟩:=hX rfl;exact ⟨hT.1,hT.2,u1++u2,by rw [h1,h2,List.append_assoc]⟩
 | error k=>exact ⟨hT.1,hT.2.1,hT.2.2⟩
end
theorem strP_sfx {bs r:List Nat} {v:ByteArray} (h:strP bs=.ok (v,r)):∃ u,bs=u++r:=by
 unfold strP at h;obtain ⟨⟨m,q⟩,h1,h⟩:=xb_inv h;dsimp only at h;split at h
 ·cases h
 ·split at h
  ·cases h
  ·injection h with h
   injection h with e1 e2
   obtain ⟨u,hu⟩:=vget_ext.sfx h1;exact ⟨u++q.take m,by rw [hu,← e2,List.append_assoc,List.take_append_drop]⟩
section
variable (w:World) (g b n c:Nat) (A:Option Addr) (xs:List Nat) (x:Rest)
theorem WUint_u (h:WX w g A n c xs x) (hI:WIn w g b A n c xs) :
  Calls Tryz.prog 189 #[.pointer (some ⟨g,0,none⟩),.int .u64 18446744073709551615] w fun e w'=>e=.returned (.int .u64 ((vOf 0 (xb x vget0):Nat):Int))∧WX w' g A n c xs (sOf (xb x vget0))∧Kp g g w w':=by
 cases x with
 | ok r =>
  obtain ⟨h1,h2,h3⟩:=h.sfx hI.len;have hb:∀ x∈r,x < 256:=fun x hx=>hI.byte x (by rw [← h1] at hx;exact List.mem_of_mem_drop hx)
  refine (WUint_any w g b n c (n - r.length) 0 18446744073709551615 A xs h.1 hI.len hI.cap hI.small hI.rd hI.byte h3).mono ?_;rintro e w' ⟨hT,hK⟩;rw [if_pos rfl,h1,uintP_all hb] at hT;obtain ⟨q1,q2⟩:=WX.took (f:=fun v:Nat=>.int .u64 (v:Int)) (d:=0) (fun h=>vget_ext.sfx h) h.2 hT;exact ⟨q1,q2,hK⟩
 | error k =>
  obtain ⟨h0,q,h2,h3⟩:=h;refine (WUint_any w g b n c q k 18446744073709551615 A xs h3 hI.len hI.cap hI.small hI.rd hI.byte h2).mono ?_;rintro e w' ⟨hT,hK⟩;rw [if_neg h0] at hT;exact ⟨hT.1,⟨h0,hT.2.2⟩,hK⟩
theorem WString_u (h:WX w g A n c xs x) (hI:WIn w g b A n c xs) :
  Calls Tryz.prog 106 #[.pointer (some ⟨g,0,none⟩),.int .i64 65535] w fun e w'=>e=.returned (.string (vOf .empty (xb x strP)))∧WX w' g A n c xs (sOf (xb x strP))∧Kp g g w w':=by
 cases x with
 | ok r =>
  obtain ⟨h1,h2,h3⟩:=h.sfx hI.len;refine (WString_any w g b n c (n - r.length) 0 A xs h.1 hI.len hI.cap hI.small hI.rd hI.byte h3).mono ?_;rintro e w' ⟨hT,hK⟩;rw [if_pos rfl,h1] at hT;obtain ⟨q1,q2⟩:=WX.took (f:=fun v:ByteArray=>.string v) (d:=.empty) (fun h=>strP_sfx h) h.2 hT;exact ⟨q1,q2,hK⟩
 | error k =>
  obtain ⟨h0,q,h2,h3⟩:=h;refine (WString_any w g b n c q k A xs h3 hI.len hI.cap hI.small hI.rd hI.byte h2).mono ?_;rintro e w' ⟨hT,hK⟩;rw [if_neg h0] at hT;exact ⟨hT.1,⟨h0,hT.2.2⟩,hK⟩
theorem WFail_u (E:Nat) (hE:E≠0) (h:WX w g A n c xs x) :
  Calls Tryz.prog 108 #[.pointer (some ⟨g,0,none⟩),.int .i64 (E:Int)] w fun e w'=>e=.returned (.tuple #[])∧WX w' g A n c xs (failX E x)∧Kp g g w w':=by
 cases x with
 | ok r =>
  refine (WFail_any w g n c _ 0 E A h.1).mono ?_;rintro e w' ⟨q1,q2,q3⟩;exact ⟨q1,⟨hE,_,Nat.sub_le _ _,q2⟩,q3⟩
 | error k =>
  obtain ⟨h0,q,h2,h3⟩:=h;refine (WFail_any w g n c q k E A h3).mono ?_;rintro e w' ⟨q1,q2,q3⟩;rw [if_neg h0] at q2;exact ⟨q1,⟨h0,q,h2,q2⟩,q3⟩
theorem WErr_u (h:WX w g A n c xs x) :
  Calls Tryz.prog 107 #[.pointer (some ⟨g,0,none⟩)] w fun e w'=>e=.returned (.int .i64 ((eOf x:Nat):Int))∧w=w':=by
 obtain ⟨q,_,h⟩:=h.st;exact WErr_any w g n c q _ A h
theorem WEnd_u (h:WX w g A n c xs x) (hI:WIn w g b A n c xs) :
  Calls Tryz.prog 109 #[.pointer (some ⟨g,0,none⟩)] w fun e w'=>e=.returned (.int .i64 ((eOf (endX x):Nat):Int))∧w=w':=by
 cases x with
 | ok r =>
  refine (WEnd_any w g n c _ 0 A h.1 (Nat.sub_le _ _) hI.small).mono ?_;rintro e w' ⟨q1,q2⟩;obtain ⟨h1,h2,h3⟩:=h.sfx hI.len;refine ⟨?_,q2⟩;rw [q1];unfold endX;rw [xb_ok];by_cases hr:r=[]
  ·subst hr;rw [if_pos rfl,if_neg (by simp)];rfl
  ·have:=List.length_pos_iff.2 hr;rw [if_neg hr,if_pos ⟨rfl,by omega⟩];rfl
 | error k =>
  obtain ⟨h0,q,h2,h3⟩:=h;refine (WEnd_any w g n c q k A h3 h2 hI.small).mono ?_;rintro e w' ⟨q1,q2⟩;refine ⟨?_,q2⟩;rw [q1,if_neg (by simp [h0])];rfl
end
end
end Go.Proofs.YtmmonehfnfbpbaaGreatDoor
