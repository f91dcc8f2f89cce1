/- Laws that the last text builds on. -/
import Derived.Test.YtmmonehfnfbpbaaGreatDoorR10
namespace Go.Proofs.YtmmonehfnfbpbaaGreatDoor
open Go.Lib(hid)
section
def finP (bs:List Nat) (acc:List (List Nat × Nat)) (r:List Nat):Except Nat Secs :=
 match acc with
 | [a,b,c,d,e]=>if e.1=toc a.2 b.2 c.2 d.2 then endP bs (a.1,b.1,c.1,d.1) r else .error 13
 | _=>.error 13
def restP (bs:List Nat):Nat→List (List Nat × Nat)→List Nat→Except Nat Secs
 | 0,acc,r=>finP bs acc r
 | k+1,acc,r=>xb (sectP (5 - k) r) fun p=>restP bs k (acc++[(p.1,bs.length - r.length)]) p.2
theorem parseP_rest (bs:List Nat):parseP bs=xb (litP hd0 bs) fun r=>restP bs 5 [] r:=rfl
def cntS:Nat→List Nat→Nat
 | 0,_=>0
 | k+1,r =>
  match sectP (5 - k) r with
  | .ok p=>1+cntS k p.2
  | .error _=>0
def partsP (bs:List Nat):Nat :=
 match parseP bs with
 | .ok _=>7
 | .error k =>
  if k=4 then 7
  else match litP hd0 bs with
  | .error _=>0
  | .ok r=>if cntS 5 r=5∧k=13 then 5 else 1+cntS 5 r
def endQ (p:Nat) (b:List Nat) (at_:Nat):Option Nat :=
 if p=0 then (if at_+5≤b.length then some (at_+5) else none)
 else if p≤5 then
  (if b.length≤at_ then none else
   match vget0 (b.drop (at_+1)) with
   | .error _=>none
   | .ok (n,r)=>if r.length < 4∨r.length - 4 < n then none else some (b.length - r.length+n+4))
 else if p=6 then (if at_+8≤b.length then some (at_+8) else none)
 else none
def Prs (p:Nat) (u:List Nat):Prop :=
 if p=0 then u=[]
 else if p≤5 then ∃ acc,∀ e,(∃ r,litP hd0 (u++e)=.ok r∧cntS 5 r=p - 1+cntS (6 - p) e)∧parseP (u++e)=restP (u++e) (6 - p) acc e
 else if p=6 then ∃ s,∀ e,(∃ r,litP hd0 (u++e)=.ok r∧cntS 5 r=5)∧parseP (u++e)=endP (u++e) s e
 else ∃ s,parseP u=.ok s
theorem cntS_le:∀ (k:Nat) (r:List Nat),cntS k r≤k
 | 0,_=>Nat.le_refl _
 | k+1,r=>by
  rw [cntS];split
  ·have:=cntS_le k ‹List Nat × List Nat›.2;omega
  ·omega
theorem vget_codes:∀ (l:List Nat) (i acc k:Nat),vgetA i acc l=.error k→k=3∨k=5∨k=6
 | [],i,acc,k,h=>by unfold vgetA at h;injection h with h;omega
 | y::l,i,acc,k,h=>by
  unfold vgetA at h;split at h
  ·injection h with h;omega
  ·split at h
   ·injection h with h;omega
   ·split at h
    ·cases h
    ·exact vget_codes l _ _ k h
theorem sect_codes {id k:Nat} {r:List Nat} (h:sectP id r=.error k):k=3∨k=5∨k=6∨k=11∨k=12:=by
 unfold sectP at h;cases r with
 | nil=>injection h with h;omega
 | cons x r0 =>
  dsimp only at h;split at h
  ·injection h with h;omega
  ·rcases xb_err h with h | ⟨q,_,h⟩
   ·have:=vget_codes r0 0 0 k h;omega
   ·split at h
    ·injection h with h;omega
    ·split at h
     ·cases h
     ·injection h with h;omega
theorem cntS_succ_ok {k:Nat} {r l q:List Nat} (h:sectP (5 - k) r=.ok (l,q)):cntS (k+1) r=1+cntS k q:=by rw [cntS,h]
theorem cntS_succ_er {k j:Nat} {r:List Nat} (h:sectP (5 - k) r=.error j):cntS (k+1) r=0:=by rw [cntS,h]
theorem sectP_nil (id:Nat):sectP id []=.error 3:=rfl
theorem partsP_of {bs r:List Nat} {k:Nat} (h:parseP bs=.error k) (hk:k≠4) (h1:litP hd0 bs=.ok r):partsP bs=if cntS 5 r=5∧k=13 then 5 else 1+cntS 5 r:=by
 unfold partsP;rw [h];dsimp only;rw [if_neg hk,h1]
theorem certP_er {bs:List Nat} {k:Nat} (h:parseP bs=.error k):certP bs=if k=3 then 0 else k:=by unfold certP;rw [h]
theorem certP_ok {bs:List Nat} {s:Secs} (h:parseP bs=.ok s):certP bs=0:=by unfold certP;rw [h]
theorem parse_same {bs:List Nat} {k:Nat} (h:parseP bs=.error k) (hk:k≠3) (e:List Nat):parseP (bs++e)=.error k:=by
 by_cases he:e=[]
 ·rw [he,List.append_nil];exact h
 ·exact (parseP_ext e he).2 h hk
theorem sect_none {p at_:Nat} {b:List Nat} (h0:p≠0) (h5:p≤5) (h:endQ p b at_=none):∃ k,sectP p (b.drop at_)=.error k:=by
 unfold endQ at h;rw [if_neg h0,if_pos h5] at h;split at h
 ·rename_i h1
  exact ⟨3,by rw [List.drop_of_length_le h1];rfl⟩
 ·rename_i h1
  have hl:at_ < b.length:=by omega
  rw [List.drop_eq_getElem_cons hl];unfold sectP;dsimp only;split
  ·exact ⟨_,rfl⟩
  ·cases hv:vget0 (b.drop (at_+1)) with
   | error k=>exact ⟨k,rfl⟩
   | ok q =>
    obtain ⟨n,r⟩:=q;rw [hv] at h;dsimp only at h;split at h
    ·rename_i h2
     rw [xb_ok];dsimp only;rw [if_pos h2];exact ⟨_,rfl⟩
    ·cases h
theorem sect_some {p at_ tq:Nat} {b:List Nat} (hb:∀ x∈b,x < 256) (h0:p≠0) (h5:p≤5) (h:endQ p b at_=some tq) :
  at_ < tq∧tq≤b.length∧((∃ l,sectP p ((b.drop at_).take (tq - at_))=.ok (l,[]))∨∃ k,sectP p ((b.drop at_).take (tq - at_))=.error k∧k≠3∧k≠4∧k≠13):=by
 unfold endQ at h;rw [if_neg h0,if_pos h5] at h;split at h
 ·cases h
 ·rename_i h1
  have hl:at_ < b.length:=by omega
  cases hv:vget0 (b.drop (at_+1)) with
  | error k=>rw [hv] at h;cases h
  | ok q =>
   obtain ⟨n,r⟩:=q;rw [hv] at h;dsimp only at h;split at h
   ·cases h
   ·rename_i h2
    injection h with h
    obtain ⟨e1,e2⟩:=varget_inv (fun x hx=>hb x (List.mem_of_mem_drop hx)) hv;have k1:=congrArg List.length e1;rw [List.length_drop,List.length_append] at k1;have kv:=vint_pos n;refine ⟨by omega,by omega,?_⟩;have e3:(b.drop at_).take (tq - at_)=b[at_]::(vint n++r.take (n+4)):=by
     rw [List.drop_eq_getElem_cons hl,e1,show tq - at_=((vint n).length+(n+4))+1 by omega,List.take_succ_cons,List.take_length_add_append]
    rw [e3];unfold sectP;dsimp only;split
    ·exact .inr ⟨11,rfl,by omega,by omega,by omega⟩
    ·rw [vget_vint n e2,xb_ok];dsimp only;have hrl:(r.take (n+4)).length=n+4:=by rw [List.length_take];omega
     rw [hrl,if_neg (by omega)];split
     ·left
      exact ⟨_,by rw [List.drop_of_length_le (by omega)]⟩
     ·exact .inr ⟨12,rfl,by omega,by omega,by omega⟩
theorem prs_split {at_:Nat} {b:List Nat} (hle:at_≤b.length):b=b.take at_++b.drop at_∧(b.take at_).length=at_:=⟨(List.take_append_drop _ _).symm,by rw [List.length_take];omega⟩
theorem take_to {at_ tq:Nat} {b:List Nat} (h1:at_≤tq):b.take tq=b.take at_++(b.drop at_).take (tq - at_)∧b.drop at_=(b.drop at_).take (tq - at_)++b.drop tq:=by
 constructor
 ·rw [← List.take_add,show at_+(tq - at_)=tq by omega]
 ·rw [show tq=at_+(tq - at_) by omega,← List.drop_drop,show at_+(tq - at_) - at_=tq - at_ by omega,List.take_append_drop]
theorem endP_short {bs r:List Nat} {s:Secs} (h:r.length < 8):∃ k,endP bs s r=.error k∧k≠4∧k≠13:=by
 unfold endP;split
 ·exact ⟨3,rfl,by omega,by omega⟩
 ·split
  ·exact ⟨12,rfl,by omega,by omega⟩
  ·cases hl:litP [75,66,83,84] (r.drop 4) with
   | error k =>
    have:=(litP_ext _).2.2 hl;exact ⟨k,rfl,by omega,by omega⟩
   | ok q =>
    have:=congrArg List.length (litP_ok hl);rw [List.length_drop,List.length_append] at this;simp at this;omega
theorem endP_eight {bs r:List Nat} {s:Secs} (h:r.length=8):endP bs s r=.ok s∨∃ k,endP bs s r=.error k∧k≠3∧k≠4∧k≠13:=by
 unfold endP;rw [if_neg (by omega)];split
 ·exact .inr ⟨12,rfl,by omega,by omega,by omega⟩
 ·have hd:(r.drop 4).length=4:=by rw [List.length_drop];omega
  cases hl:litP [75,66,83,84] (r.drop 4) with
  | error k =>
   right
   refine ⟨k,rfl,?_,?_,?_⟩
   ·intro e;subst e;unfold litP at hl;split at hl
    ·injection hl with hl;omega
    ·split at hl
     ·rename_i h2
      rw [hd] at h2;simp at h2
     ·cases hl
   ·have:=(litP_ext _).2.2 hl;omega
   ·have:=(litP_ext _).2.2 hl;omega
  | ok q =>
   have:=congrArg List.length (litP_ok hl);rw [hd,List.length_append,show [75,66,83,84].length=4 from rfl] at this;have hq:q=[]:=List.eq_nil_of_length_eq_zero (by omega);left
   rw [xb_ok,if_pos hq]
theorem lit_short {b:List Nat} (h:b.length < 5):∃ k,litP hd0 b=.error k:=by
 cases hl:litP hd0 b with
 | error k=>exact ⟨k,rfl⟩
 | ok r =>
  have:=congrArg List.length (litP_ok hl);rw [List.length_append,show hd0.length=5 from rfl] at this;omega
theorem parts_lit {b:List Nat} {k:Nat} (h:litP hd0 b=.error k):partsP b=0∧parseP b=.error k:=by
 have hp:parseP b=.error k:=by rw [parseP_rest,h];rfl
 have:=(litP_ext _).2.2 h;refine ⟨?_,hp⟩;unfold partsP;rw [hp];dsimp only;rw [if_neg (by omega),h]
theorem adv_none {p at_:Nat} {b:List Nat} (hp:p≤6) (hle:at_≤b.length) (hP:Prs p (b.take at_)) (h:endQ p b at_=none):partsP b=p:=by
 obtain ⟨hb,hl⟩:=prs_split hle;unfold Prs at hP;by_cases h0:p=0
 ·rw [if_pos h0] at hP;unfold endQ at h;rw [if_pos h0] at h;split at h
  ·cases h
  ·rw [hP] at hl;obtain ⟨k,hk⟩:=lit_short (b:=b) (by simp at hl;omega);rw [(parts_lit hk).1,h0]
 rw [if_neg h0] at hP;by_cases h5:p≤5
 ·rw [if_pos h5] at hP;obtain ⟨acc,hP⟩:=hP;obtain ⟨⟨r,hr,hc⟩,hq⟩:=hP (b.drop at_);rw [← hb] at hr hq;obtain ⟨k,hk⟩:=sect_none h0 h5 h;have hcode:=sect_codes hk;have e:6 - p=(5 - p)+1:=by omega
  have hk':sectP (5 - (5 - p)) (b.drop at_)=.error k:=by rw [show 5 - (5 - p)=p by omega];exact hk
  rw [e,restP,hk',xb_er] at hq;rw [e,cntS_succ_er hk'] at hc;rw [partsP_of hq (by omega) hr,if_neg (by omega),hc];omega
 ·rw [if_neg h5,if_pos (by omega)] at hP;obtain ⟨s,hP⟩:=hP;obtain ⟨⟨r,hr,hc⟩,hq⟩:=hP (b.drop at_);rw [← hb] at hr hq;unfold endQ at h;rw [if_neg h0,if_neg h5,if_pos (by omega)] at h;split at h
  ·cases h
  ·obtain ⟨k,hk,h4,h13⟩:=endP_short (bs:=b) (r:=b.drop at_) (s:=s) (by rw [List.length_drop];omega);rw [hk] at hq;rw [partsP_of hq h4 hr,if_neg (by omega),hc];omega
theorem adv_some {p at_ tq:Nat} {b:List Nat} (hy:∀ x∈b,x < 256) (hp:p≤6) (hle:at_≤b.length) (hP:Prs p (b.take at_)) (h:endQ p b at_=some tq) :
  at_ < tq∧tq≤b.length∧(certP (b.take tq)≠0→partsP b=p)∧(certP (b.take tq)=0→Prs (p+1) (b.take tq)):=by
 obtain ⟨hb,hl⟩:=prs_split hle;unfold Prs at hP;by_cases h0:p=0
 ·rw [if_pos h0] at hP;unfold endQ at h;rw [if_pos h0] at h;split at h
  ·rename_i h5
   injection h with h
   rw [hP] at hl;have ha:at_=0:=by simpa using hl.symm
   subst ha h h0;refine ⟨by omega,h5,fun hc=>?_,fun hc=>?_⟩
   ·cases hq:litP hd0 (b.take (0+5)) with
    | ok r =>
     exfalso
     apply hc
     have:=congrArg List.length (litP_ok hq);rw [List.length_take,List.length_append,show hd0.length=5 from rfl] at this;have hr:r=[]:=List.eq_nil_of_length_eq_zero (by omega);have:parseP (b.take (0+5))=.error 3:=by rw [parseP_rest,hq,hr];rfl
     rw [certP_er this];rfl
    | error k =>
     have h3:k≠3:=fun e=>hc (by rw [certP_er (parts_lit hq).2,if_pos e])
     have:=(litP_ext _).2.1 hq h3 (b.drop (0+5));rw [List.take_append_drop] at this;exact (parts_lit this).1
   ·cases hq:litP hd0 (b.take (0+5)) with
    | error k =>
     exfalso
     have h3:k=3∨k=10:=(litP_ext _).2.2 hq;rw [certP_er (parts_lit hq).2] at hc;have:k=3:=by
      rcases h3 with h3 | h3
      ·exact h3
      ·rw [h3] at hc;simp at hc
     subst this;unfold litP at hq;split at hq
     ·injection hq with hq;omega
     ·split at hq
      ·rename_i h2
       rw [List.length_take,show hd0.length=5 from rfl] at h2;omega
      ·cases hq
    | ok r =>
     have e:=litP_ok hq;have:=congrArg List.length e;rw [List.length_take,List.length_append,show hd0.length=5 from rfl] at this;have hr:r=[]:=List.eq_nil_of_length_eq_zero (by omega);rw [hr,List.append_nil] at e;rw [e];unfold Prs;rw [if_neg (by omega),if_pos (by omega)];refine ⟨[],fun q=>⟨⟨q,litP_put _ _,by simp⟩,?_⟩⟩;rw [parseP_rest,litP_put,xb_ok]
  ·cases h
 rw [if_neg h0] at hP;by_cases h5:p≤5
 ·rw [if_pos h5] at hP;obtain ⟨acc,hP⟩:=hP;obtain ⟨h1,h2,hs⟩:=sect_some hy h0 h5 h;obtain ⟨t1,t2⟩:=take_to (b:=b) (show at_≤tq by omega);refine ⟨h1,h2,?_⟩;obtain ⟨E,hE⟩:∃ E,(b.drop at_).take (tq - at_)=E:=⟨_,rfl⟩;rw [hE] at hs t1 t2;have hbt:b=(b.take at_++E)++b.drop tq:=by rw [← t1,List.take_append_drop]
  have e:6 - p=(5 - p)+1:=by omega
  have e5:5 - (5 - p)=p:=by omega
  rcases hs with ⟨l,hs⟩ | ⟨k,hs,k3,k4,k13⟩
  ·
   have step:∀ q,parseP (b.take at_++(E++q))=restP (b.take at_++(E++q)) (5 - p) (acc++[(l,at_)]) q∧∃ r,litP hd0 (b.take at_++(E++q))=.ok r∧cntS 5 r=p+cntS (5 - p) q:=fun q=>by
    obtain ⟨⟨r,hr,hc⟩,hq⟩:=hP (E++q);have hs2:=(sect_ext p).ok hs q;rw [List.nil_append] at hs2;have hs3:sectP (5 - (5 - p)) (E++q)=.ok (l,q):=by rw [e5];exact hs2
    rw [e,restP,hs3,xb_ok] at hq;rw [e,cntS_succ_ok hs3] at hc;refine ⟨?_,r,hr,by rw [hc];omega⟩;rw [hq];dsimp only;rw [show (b.take at_++(E++q)).length - (E++q).length=at_ by rw [List.length_append,hl];omega]
   have s0:=step [];rw [List.append_nil] at s0;obtain ⟨s0,_⟩:=s0;by_cases hp5:p=5
   ·subst hp5;rw [show 5 - 5=0 from rfl,restP] at s0;refine ⟨fun hc=>?_,fun hc=>?_⟩
    ·rw [t1] at hc;have h13:parseP (b.take at_++E)=.error 13:=by
      rw [s0];rw [s0.symm] at s0;unfold finP;split
      ·rename_i a b' c d e' he
       split
       ·rename_i ht
        exfalso
        apply hc
        have:parseP (b.take at_++E)=.error 3:=by
         have:=(step []).1;rw [List.append_nil] at this;rw [this,show 5 - 5=0 from rfl,restP];unfold finP;rw [he];dsimp only;rw [if_pos ht];rfl
        rw [certP_er this];rfl
       ·rfl
      ·rfl
     have hbig:=parse_same h13 (by omega) (b.drop tq);rw [← hbt] at hbig;obtain ⟨_,r,hr,hcn⟩:=step (b.drop tq);rw [← List.append_assoc,← hbt] at hr;rw [show 5 - 5=0 from rfl,cntS] at hcn;rw [partsP_of hbig (by omega) hr,if_pos ⟨hcn,rfl⟩]
    ·rw [t1] at hc ⊢;unfold Prs;rw [if_neg (by omega),if_neg (by omega),if_pos rfl];have hne:parseP (b.take at_++E)≠.error 13:=fun h=>by rw [certP_er h] at hc;simp at hc
     rw [s0] at hne;unfold finP at hne;split at hne
     ·rename_i a b' c d e' he
      split at hne
      ·rename_i ht
       refine ⟨(a.1,b'.1,c.1,d.1),fun q=>?_⟩;obtain ⟨h1,r,hr,hcn⟩:=step q;rw [List.append_assoc];refine ⟨⟨r,hr,by rw [show 5 - 5=0 from rfl,cntS] at hcn;exact hcn⟩,?_⟩;rw [h1,show 5 - 5=0 from rfl,restP];unfold finP;rw [he];dsimp only;rw [if_pos ht]
      ·exact (hne rfl).elim
     ·exact (hne rfl).elim
   ·have s3:parseP (b.take at_++E)=.error 3:=by
     rw [s0,show 5 - p=(4 - p)+1 by omega,restP,sectP_nil];rfl
    refine ⟨fun hc=>?_,fun hc=>?_⟩
    ·rw [t1,certP_er s3] at hc;exact (hc rfl).elim
    ·rw [t1];unfold Prs;rw [if_neg (by omega),if_pos (by omega)];refine ⟨acc++[(l,at_)],fun q=>?_⟩;obtain ⟨h1,r,hr,hcn⟩:=step q;rw [List.append_assoc];exact ⟨⟨r,hr,by rw [hcn,show 6 - (p+1)=5 - p by omega];omega⟩,by rw [h1,show 6 - (p+1)=5 - p by omega]⟩
  ·
   have hs':sectP (5 - (5 - p)) E=.error k:=by rw [e5];exact hs
   obtain ⟨_,hq⟩:=hP E;rw [e,restP,hs',xb_er] at hq;refine ⟨fun _=>?_,fun hc=>?_⟩
   ·have hbig:=parse_same hq k3 (b.drop tq);rw [← hbt] at hbig;obtain ⟨⟨r,hr,hcn⟩,_⟩:=hP (b.drop at_);rw [← hb] at hr;have hs4:=(sect_ext p).er hs k3 (b.drop tq);rw [← t2] at hs4;have hs5:sectP (5 - (5 - p)) (b.drop at_)=.error k:=by rw [e5];exact hs4
    rw [e,cntS_succ_er hs5] at hcn;rw [partsP_of hbig k4 hr,if_neg (by omega),hcn];omega
   ·rw [t1,certP_er hq,if_neg k3] at hc;have:=sect_codes hs;omega
 ·rw [if_neg h5,if_pos (by omega)] at hP;obtain ⟨s,hP⟩:=hP;unfold endQ at h;rw [if_neg h0,if_neg h5,if_pos (by omega)] at h;split at h
  ·rename_i h8
   injection h with h
   subst h;obtain ⟨t1,t2⟩:=take_to (b:=b) (show at_≤at_+8 by omega);refine ⟨by omega,h8,?_⟩;obtain ⟨E,hE⟩:∃ E,(b.drop at_).take (at_+8 - at_)=E:=⟨_,rfl⟩;have hEl:E.length=8:=by rw [← hE,List.length_take,List.length_drop];omega
   rw [hE] at t1 t2;have hbt:b=(b.take at_++E)++b.drop (at_+8):=by rw [← t1,List.take_append_drop]
   obtain ⟨_,hq⟩:=hP E;rcases endP_eight (bs:=b.take at_++E) (s:=s) hEl with hk | ⟨k,hk,k3,k4,k13⟩
   ·rw [hk] at hq;refine ⟨fun hc=>?_,fun _=>?_⟩
    ·rw [t1,certP_ok hq] at hc;exact (hc rfl).elim
    ·rw [t1];unfold Prs;rw [if_neg (by omega),if_neg (by omega),if_neg (by omega)];exact ⟨s,hq⟩
   ·rw [hk] at hq;refine ⟨fun _=>?_,fun hc=>?_⟩
    ·have hbig:=parse_same hq k3 (b.drop (at_+8));rw [← hbt] at hbig;obtain ⟨⟨r,hr,hcn⟩,_⟩:=hP (b.drop at_);rw [← hb] at hr;rw [partsP_of hbig k4 hr,if_neg (by omega),hcn];omega
    ·rw [t1,certP_er hq,if_neg k3] at hc;have:=parseP_nz hq;omega
  ·cases h
theorem adv_done {at_:Nat} {b:List Nat} (hle:at_≤b.length) (hP:Prs 7 (b.take at_)):partsP b=7∧(at_=b.length→certP b=0):=by
 unfold Prs at hP;rw [if_neg (by omega),if_neg (by omega),if_neg (by omega)] at hP;obtain ⟨s,hP⟩:=hP;by_cases h:at_=b.length
 ·rw [h,List.take_length] at hP;refine ⟨?_,fun _=>certP_ok hP⟩;unfold partsP;rw [hP]
 ·have:=(parseP_ext (b.drop at_) (fun e=>by
   have:=congrArg List.length e;rw [List.length_drop,List.length_nil] at this;omega)).1 hP
  rw [List.take_append_drop] at this;refine ⟨?_,fun e=>(h e).elim⟩;unfold partsP;rw [this];rfl
theorem prs_nil (b:List Nat):Prs 0 (b.take 0):=by
 unfold Prs;rw [if_pos rfl];rfl
theorem prs_more {p at_:Nat} {b e:List Nat} (hle:at_≤b.length) (h:Prs p (b.take at_)):Prs p ((b++e).take at_):=by rwa [take_ext e hle]
theorem partsP_le (b:List Nat):partsP b≤7:=by
 unfold partsP;split
 ·omega
 ·split
  ·omega
  ·split
   ·omega
   ·split
    ·omega
    ·have:=cntS_le 5 ‹List Nat›;omega
end
section
open Go Go.RowKit Go.Lib
def PH (xs:List Nat) (m:Nat) (acc:List (List Nat × Nat)) (at_ err:Nat):Prop :=
 (err=0→parseP xs=restP xs m acc (xs.drop at_))∧(err≠0→parseP xs=.error err)
def SecD (W:World) (g p:Nat) (v:Value) (l:List Nat):Prop :=
 ∃ b' A' c',v=.slice A' l.length c'∧Rd W b' A' (cN .u8 l)∧(A'=none→c'=0)∧l.length≤c'∧g < b'∧p+3 < b'∧∀ x∈l,x < 256
theorem SecD.kp {W W':World} {g p k:Nat} {v:Value} {l:List Nat} (h:SecD W g p v l) (hk:Kp k k W W') (e:k=g∨k≤p+3):SecD W' g p v l:=by
 obtain ⟨b',A',c',h1,h2,h3,h4,h5,h6,h7⟩:=h;exact ⟨b',A',c',h1,h2.kp hk (by omega) (by omega),h3,h4,h5,h6,h7⟩
theorem SecD.kp2 {W W':World} {g p k k':Nat} {v:Value} {l:List Nat} (h:SecD W g p v l) (hk:Kp k k' W W') (e:k≤p+3) (e':k'≤p+3):SecD W' g p v l:=by
 obtain ⟨b',A',c',h1,h2,h3,h4,h5,h6,h7⟩:=h;exact ⟨b',A',c',h1,h2.kp hk (by omega) (by omega),h3,h4,h5,h6,h7⟩
theorem SecD.nw {W W':World} {g p:Nat} {v:Value} {l:List Nat} (h:SecD W g p v l) (hN:Nw W W'):SecD W' g p v l:=h.kp (hN.kp g g) (.inl rfl)
structure PIv (w W:World) (p g b:Nat) (A:Option Addr) (n c:Nat) (xs:List Nat) (s0 s1 s2 s3:Value) (q0 q1 q2 q3 q4 at_ err:Nat):Prop where
 nw:Nw w W
 lo:w.heap.size=p
 gp:p+4≤g
 bp:p+4≤b
 z2:W.heap[p]? = some (.cells #[nilS,nilS,nilS,nilS] 52 (0,0))
 z3:W.heap[p+1]? = some (.cells #[.int .i64 0,.int .i64 0,.int .i64 0,.int .i64 0,.int .i64 0] 80 (0,0))
 s:W.heap[p+2]? = some (.cells #[s0,s1,s2,s3] 52 (0,0))
 a:W.heap[p+3]? = some (.cells #[.int .i64 (q0:Int),.int .i64 (q1:Int),.int .i64 (q2:Int),.int .i64 (q3:Int),.int .i64 (q4:Int)] 80 (0,0))
 st:WSt W g A n c at_ err
 wi:WIn W g b A n c xs
section
variable {w W W':World} {p g b:Nat} {A:Option Addr} {n c:Nat} {xs:List Nat} {s0 s1 s2 s3:Value} {q0 q1 q2 q3 q4 at_ err at' err':Nat}
theorem PIv.rd (h:PIv w W p g b A n c xs s0 s1 s2 s3 q0 q1 q2 q3 q4 at_ err) (hk:Kp g g W W') (hs:WSt W' g A n c at' err'):PIv w W' p g b A n c xs s0 s1 s2 s3 q0 q1 q2 q3 q4 at' err':=by
 obtain ⟨h1,h2,h3,h4,h5,h6,h7,h8,h9,h10⟩:=h;have o:=fun (k:Nat) (hk2:k≤p+3) (o:Obj) (hb:W.heap[k]? = some o)=>(hk.block k (lt_of_block hb) (by omega) (by omega)).trans hb
 exact ⟨Kp.nw h1 hk (by omega) (by omega),h2,h3,h4,o _ (by omega) _ h5,o _ (by omega) _ h6,o _ (by omega) _ h7,o _ (by omega) _ h8,hs,h10.kp hk⟩
theorem PIv.new (h:PIv w W p g b A n c xs s0 s1 s2 s3 q0 q1 q2 q3 q4 at_ err) (hN:Nw W W'):PIv w W' p g b A n c xs s0 s1 s2 s3 q0 q1 q2 q3 q4 at_ err:=h.rd (hN.kp g g) (h.st.nw hN)
theorem PIv.blk (h:PIv w W p g b A n c xs s0 s1 s2 s3 q0 q1 q2 q3 q4 at_ err) (k i:Nat) (v:Value) (hk:k=p+2∨k=p+3) :
  Kp k k W (W.setCell ⟨k,i,none⟩ v)∧Nw w (W.setCell ⟨k,i,none⟩ v)∧WSt (W.setCell ⟨k,i,none⟩ v) g A n c at_ err∧WIn (W.setCell ⟨k,i,none⟩ v) g b A n c xs∧(∀ j o,j≠k→W.heap[j]? = some o→(W.setCell ⟨k,i,none⟩ v).heap[j]? = some o):=by
 have hK:Kp k k W (W.setCell ⟨k,i,none⟩ v):=(Kp.refl k k W).setCell' (.inl rfl) _;have hlo:=h.lo;have hgp:=h.gp;have hbp:=h.bp;refine ⟨hK,Kp.nw h.nw hK (by omega) (by omega),?_,⟨h.wi.rd.kp hK (by omega) (by omega),h.wi.ne,h.wi.len,h.wi.cap,h.wi.small,h.wi.byte⟩,fun j o hj hb=>(hK.block j (lt_of_block hb) hj hj).trans hb⟩;exact (hK.block g (lt_of_block h.st) (by omega) (by omega)).trans h.st
end
theorem PH.step {xs:List Nat} {m at_ err:Nat} {acc:List (List Nat × Nat)} (h:PH xs (m+1) acc at_ err) (hat:at_≤xs.length) (hx:∀ x∈xs,x < 256) {w W':World} {g:Nat} {A:Option Addr} {c:Nat} {e:Ending} {p:Nat}
  (hT:WTookB w W' g A xs.length c (if err=0 then sectP (5 - m) (xs.drop at_) else .error err) e) (hg:g < w.heap.size) (hp:p+3 < w.heap.size) :
  ∃ Av cv l at' err',e=.returned (.slice Av l.length cv)∧SecD W' g p (.slice Av l.length cv) l∧WSt W' g A xs.length c at' err'∧at'≤xs.length∧PH xs m (acc++[(l,at_)]) at' err':=by
 by_cases h0:err=0
 ·rw [if_pos h0] at hT;have h1:=h.1 h0;rw [restP] at h1;cases hs:sectP (5 - m) (xs.drop at_) with
  | error k =>
   rw [hs] at hT h1;obtain ⟨rfl,hk,q,hq,hst⟩:=hT;exact ⟨none,0,[],q,k,rfl,⟨w.heap.size+g+p,none,0,rfl,Rd.nil _ _ _,fun _=>rfl,Nat.le_refl _,by omega,by omega,by simp⟩,hst,hq,fun e=>(hk e).elim,fun _=>h1⟩
  | ok x =>
   obtain ⟨l,r⟩:=x;rw [hs] at hT h1;obtain ⟨⟨b',A',c',rfl,hO,hb⟩,hst⟩:=hT;obtain ⟨u,hu⟩:=(sect_ext (5 - m)).sfx hs;have hi:=sectP_inv (fun x hx'=>hx x (List.mem_of_mem_drop hx')) hs;have hl:=congrArg List.length hu;rw [List.length_drop,List.length_append] at hl;have hr:r=xs.drop (xs.length - r.length):=by
    have:=congrArg (List.drop u.length) hu;rw [List.drop_left,List.drop_drop,show at_+u.length=xs.length - r.length by omega] at this;exact this.symm
   rw [xb_ok,List.length_drop,show xs.length - (xs.length - at_)=at_ by omega] at h1;dsimp only at h1;refine ⟨A',c',l,xs.length - r.length,0,rfl,?_,hst,by omega,fun _=>by rw [← hr];exact h1,fun e=>(e rfl).elim⟩;have hcap:=hO.cap.1;exact ⟨b',A',c',rfl,hO.rd,hO.nilc,hcap,by omega,by omega,hi.2.1⟩
 ·rw [if_neg h0] at hT;obtain ⟨rfl,hk,q,hq,hst⟩:=hT;exact ⟨none,0,[],q,err,rfl,⟨w.heap.size+g+p,none,0,rfl,Rd.nil _ _ _,fun _=>rfl,Nat.le_refl _,by omega,by omega,by simp⟩,hst,hq,fun e=>(h0 e).elim,fun _=>h.2 h0⟩
def ParW (w:World) (X:Except Nat Secs) (e:Ending) (w':World):Prop :=
 match X with
 | .ok s=>∃ (g p:Nat) (v0 v1 v2 v3:Value) (q0 q1 q2 q3 q4:Nat),e=.returned (.tuple #[.agg #[v0,v1,v2,v3],.agg #[.int .i64 (q0:Int),.int .i64 (q1:Int),.int .i64 (q2:Int),.int .i64 (q3:Int),.int .i64 (q4:Int)],.int .i64 0])∧SecD w' g p v0 s.1∧SecD w' g p v1 s.2.1∧SecD w' g p v2 s.2.2.1∧SecD w' g p v3 s.2.2.2∧w.heap.size≤g∧Nw w w'
 | .error k=>e=.returned (.tuple #[.agg #[nilS,nilS,nilS,nilS],.agg #[.int .i64 0,.int .i64 0,.int .i64 0,.int .i64 0,.int .i64 0],.int .i64 (k:Int)])∧k≠0∧Nw w w'
end
section
open Go Go.RowKit Go.Lib
section
variable {w W W':World} {p g b:Nat} {A:Option Addr} {n c:Nat} {xs:List Nat} {s0 s1 s2 s3:Value} {q0 q1 q2 q3 q4 at_ err:Nat}
theorem PIv.a0 (h:PIv w W p g b A n c xs s0 s1 s2 s3 q0 q1 q2 q3 q4 at_ err) (x:Nat):PIv w (W.setCell ⟨p+3,0,none⟩ (.int .i64 (x:Int))) p g b A n c xs s0 s1 s2 s3 x q1 q2 q3 q4 at_ err:=by
 obtain ⟨hK,hN,hst,hwi,ho⟩:=h.blk (p+3) 0 (.int .i64 (x:Int)) (.inr rfl);have:=set_at (k:=0) (.int .i64 (x:Int)) h.a;exact ⟨hN,h.lo,h.gp,h.bp,ho _ _ (by omega) h.z2,ho _ _ (by omega) h.z3,ho _ _ (by omega) h.s,by simpa using this,hst,hwi⟩
theorem PIv.a1 (h:PIv w W p g b A n c xs s0 s1 s2 s3 q0 q1 q2 q3 q4 at_ err) (x:Nat):PIv w (W.setCell ⟨p+3,1,none⟩ (.int .i64 (x:Int))) p g b A n c xs s0 s1 s2 s3 q0 x q2 q3 q4 at_ err:=by
 obtain ⟨hK,hN,hst,hwi,ho⟩:=h.blk (p+3) 1 (.int .i64 (x:Int)) (.inr rfl);have:=set_at (k:=1) (.int .i64 (x:Int)) h.a;exact ⟨hN,h.lo,h.gp,h.bp,ho _ _ (by omega) h.z2,ho _ _ (by omega) h.z3,ho _ _ (by omega) h.s,by simpa using this,hst,hwi⟩
theorem PIv.a2 (h:PIv w W p g b A n c xs s0 s1 s2 s3 q0 q1 q2 q3 q4 at_ err) (x:Nat):PIv w (W.setCell ⟨p+3,2,none⟩ (.int .i64 (x:Int))) p g b A n c xs s0 s1 s2 s3 q0 q1 x q3 q4 at_ err:=by
 obtain ⟨hK,hN,hst,hwi,ho⟩:=h.blk (p+3) 2 (.int .i64 (x:Int)) (.inr rfl);have:=set_at (k:=2) (.int .i64 (x:Int)) h.a;exact ⟨hN,h.lo,h.gp,h.bp,ho _ _ (by omega) h.z2,ho _ _ (by omega) h.z3,ho _ _ (by omega) h.s,by simpa using this,hst,hwi⟩
theorem PIv.a3 (h:PIv w W p g b A n c xs s0 s1 s2 s3 q0 q1 q2 q3 q4 at_ err) (x:Nat):PIv w (W.setCell ⟨p+3,3,none⟩ (.int .i64 (x:Int))) p g b A n c xs s0 s1 s2 s3 q0 q1 q2 x q4 at_ err:=by
 obtain ⟨hK,hN,hst,hwi,ho⟩:=h.blk (p+3) 3 (.int .i64 (x:Int)) (.inr rfl);have:=set_at (k:=3) (.int .i64 (x:Int)) h.a;exact ⟨hN,h.lo,h.gp,h.bp,ho _ _ (by omega) h.z2,ho _ _ (by omega) h.z3,ho _ _ (by omega) h.s,by simpa using this,hst,hwi⟩
theorem PIv.a4 (h:PIv w W p g b A n c xs s0 s1 s2 s3 q0 q1 q2 q3 q4 at_ err) (x:Nat):PIv w (W.setCell ⟨p+3,4,none⟩ (.int .i64 (x:Int))) p g b A n c xs s0 s1 s2 s3 q0 q1 q2 q3 x at_ err:=by
 obtain ⟨hK,hN,hst,hwi,ho⟩:=h.blk (p+3) 4 (.int .i64 (x:Int)) (.inr rfl);have:=set_at (k:=4) (.int .i64 (x:Int)) h.a;exact ⟨hN,h.lo,h.gp,h.bp,ho _ _ (by omega) h.z2,ho _ _ (by omega) h.z3,ho _ _ (by omega) h.s,by simpa using this,hst,hwi⟩
theorem PIv.t0 (h:PIv w W p g b A n c xs s0 s1 s2 s3 q0 q1 q2 q3 q4 at_ err) (v:Value):PIv w (W.setCell ⟨p+2,0,none⟩ v) p g b A n c xs v s1 s2 s3 q0 q1 q2 q3 q4 at_ err:=by
 obtain ⟨hK,hN,hst,hwi,ho⟩:=h.blk (p+2) 0 v (.inl rfl);have:=set_at (k:=0) v h.s;exact ⟨hN,h.lo,h.gp,h.bp,ho _ _ (by omega) h.z2,ho _ _ (by omega) h.z3,by simpa using this,ho _ _ (by omega) h.a,hst,hwi⟩
theorem PIv.t1 (h:PIv w W p g b A n c xs s0 s1 s2 s3 q0 q1 q2 q3 q4 at_ err) (v:Value):PIv w (W.setCell ⟨p+2,1,none⟩ v) p g b A n c xs s0 v s2 s3 q0 q1 q2 q3 q4 at_ err:=by
 obtain ⟨hK,hN,hst,hwi,ho⟩:=h.blk (p+2) 1 v (.inl rfl);have:=set_at (k:=1) v h.s;exact ⟨hN,h.lo,h.gp,h.bp,ho _ _ (by omega) h.z2,ho _ _ (by omega) h.z3,by simpa using this,ho _ _ (by omega) h.a,hst,hwi⟩
theorem PIv.t2 (h:PIv w W p g b A n c xs s0 s1 s2 s3 q0 q1 q2 q3 q4 at_ err) (v:Value):PIv w (W.setCell ⟨p+2,2,none⟩ v) p g b A n c xs s0 s1 v s3 q0 q1 q2 q3 q4 at_ err:=by
 obtain ⟨hK,hN,hst,hwi,ho⟩:=h.blk (p+2) 2 v (.inl rfl);have:=set_at (k:=2) v h.s;exact ⟨hN,h.lo,h.gp,h.bp,ho _ _ (by omega) h.z2,ho _ _ (by omega) h.z3,by simpa using this,ho _ _ (by omega) h.a,hst,hwi⟩
theorem PIv.t3 (h:PIv w W p g b A n c xs s0 s1 s2 s3 q0 q1 q2 q3 q4 at_ err) (v:Value):PIv w (W.setCell ⟨p+2,3,none⟩ v) p g b A n c xs s0 s1 s2 v q0 q1 q2 q3 q4 at_ err:=by
 obtain ⟨hK,hN,hst,hwi,ho⟩:=h.blk (p+2) 3 v (.inl rfl);have:=set_at (k:=3) v h.s;exact ⟨hN,h.lo,h.gp,h.bp,ho _ _ (by omega) h.z2,ho _ _ (by omega) h.z3,by simpa using this,ho _ _ (by omega) h.a,hst,hwi⟩
end
theorem kp_cellK (W:World) (k i:Nat) (v:Value):Kp k k W (W.setCell ⟨k,i,none⟩ v):=(Kp.refl k k W).setCell' (p:=⟨k,i,none⟩) (.inl rfl) v
theorem LitW.ph {w':World} {g c:Nat} {A:Option Addr} {xs:List Nat} (h:LitW w' g A xs.length c (litP hd0 xs)):∃ at_ err,at_≤xs.length∧WSt w' g A xs.length c at_ err∧PH xs 5 [] at_ err:=by
 cases hl:litP hd0 xs with
 | ok r =>
  rw [hl] at h;have e:=litP_ok hl;have hr:r=xs.drop (xs.length - r.length):=by
   have:=congrArg (List.drop hd0.length) e;rw [List.drop_left] at this;have hlen:=congrArg List.length e;rw [List.length_append] at hlen;rw [← this];congr 1
   rw [this];omega
  refine ⟨xs.length - r.length,0,by omega,h,fun _=>?_,fun e=>(e rfl).elim⟩;rw [parseP_rest,hl,xb_ok,← hr]
 | error k =>
  rw [hl] at h;obtain ⟨q,hq,hst⟩:=h;have hk:k≠0:=by have:=(litP_ext _).2.2 hl;omega
  exact ⟨q,k,hq,hst,fun e=>(hk e).elim,fun _=>by rw [parseP_rest,hl,xb_er]⟩
theorem SecD.rd {W:World} {g p c:Nat} {A:Option Addr} {l:List Nat} (h:SecD W g p (.slice A l.length c) l):∃ b',Rd W b' A (cN .u8 l)∧(A=none→c=0)∧l.length≤c∧g < b'∧∀ x∈l,x < 256:=by
 obtain ⟨b',A',c',h1,h2,h3,h4,h5,h6,h7⟩:=h;injection h1 with e1 e2 e3
 subst e1 e3;exact ⟨b',h2,h3,h4,h5,h7⟩
theorem PH.fin {xs l0 l1 l2 l3 l4:List Nat} {a0 a1 a2 a3 a4 at_ err:Nat} (h:PH xs 0 ([]++[(l0,a0)]++[(l1,a1)]++[(l2,a2)]++[(l3,a3)]++[(l4,a4)]) at_ err) :
  (l4=toc a0 a1 a2 a3→err=0→parseP xs=endP xs (l0,l1,l2,l3) (xs.drop at_))∧(l4≠toc a0 a1 a2 a3→err=0→parseP xs=.error 13)∧(err≠0→parseP xs=.error err):=by
 refine ⟨fun e h0=>?_,fun e h0=>?_,h.2⟩
 ·rw [h.1 h0,restP];show (if l4=toc a0 a1 a2 a3 then _ else _)=_
  rw [if_pos e]
 ·rw [h.1 h0,restP];show (if l4=toc a0 a1 a2 a3 then _ else _)=_
  rw [if_neg e]
theorem results_cct {P:Program} {fn:Func} {p q r:Tmp} {t1 t2:TypeId} {u v:Value} (h:fn.results=#[.cell p t1,.cell q t2,.tmp r]) (tmps:Array Value) (w:World) (a b:Addr) (hp:tmps.getD p undef=.pointer (some a)) (hq:tmps.getD q undef=.pointer (some b))
  (h1:(loadVar t1 a).run P w=.ok u w) (h2:(loadVar t2 b).run P w=.ok v w):(results fn tmps).run P w=.ok (.tuple #[u,v,tmps.getD r undef]) w:=by
 simp only [Array.getD_eq_getD_getElem?] at hp hq;simp only [results,h];simp [Sem.run_bind,Result.andThen,asAddr,hp,hq,h1,h2]
theorem run_load5 {W:World} {g:Nat} {a b c d e:Value} {t:TypeId} (h:W.heap[g]? = some (.cells #[a,b,c,d,e] t (0,0))):(loadVar 80 ⟨g,0,none⟩).run Tryz.prog W=.ok (.agg #[a,b,c,d,e]) W:=by
 have c0:W.cell? ⟨g,0,none⟩=some a:=cell_at (k:=0) h;have c1:W.cell? ⟨g,1,none⟩=some b:=cell_at (k:=1) h;have c2:W.cell? ⟨g,2,none⟩=some c:=cell_at (k:=2) h;have c3:W.cell? ⟨g,3,none⟩=some d:=cell_at (k:=3) h;have c4:W.cell? ⟨g,4,none⟩=some e:=cell_at (k:=4) h;simp [loadVar,loadCells,loadCellsFrom,go_sem,c0,c1,c2,c3,c4]
theorem both_set {w W:World} {p:Nat} {z0 z1 z2 z3 y0 y1 y2 y3 y4:Value} {t u:TypeId} (hN:Nw w W) (hp:w.heap.size≤p) (h:W.heap[p]? = some (.cells #[z0,z1,z2,z3] t (0,0))) (k:W.heap[p+1]? = some (.cells #[y0,y1,y2,y3,y4] u (0,0))) (a b c d e f g i j:Value) :
  (((((((((W.setCell ⟨p,0,none⟩ a).setCell ⟨p,1,none⟩ b).setCell ⟨p,2,none⟩ c).setCell ⟨p,3,none⟩ d).setCell ⟨p+1,0,none⟩ e).setCell ⟨p+1,1,none⟩ f).setCell ⟨p+1,2,none⟩ g).setCell ⟨p+1,3,none⟩ i).setCell ⟨p+1,4,none⟩ j).heap[p]? = some (.cells #[a,b,c,d] t (0,0)) ∧
  (((((((((W.setCell ⟨p,0,none⟩ a).setCell ⟨p,1,none⟩ b).setCell ⟨p,2,none⟩ c).setCell ⟨p,3,none⟩ d).setCell ⟨p+1,0,none⟩ e).setCell ⟨p+1,1,none⟩ f).setCell ⟨p+1,2,none⟩ g).setCell ⟨p+1,3,none⟩ i).setCell ⟨p+1,4,none⟩ j).heap[p+1]? = some (.cells #[e,f,g,i,j] u (0,0)) ∧
  Kp p (p+1) W (((((((((W.setCell ⟨p,0,none⟩ a).setCell ⟨p,1,none⟩ b).setCell ⟨p,2,none⟩ c).setCell ⟨p,3,none⟩ d).setCell ⟨p+1,0,none⟩ e).setCell ⟨p+1,1,none⟩ f).setCell ⟨p+1,2,none⟩ g).setCell ⟨p+1,3,none⟩ i).setCell ⟨p+1,4,none⟩ j) ∧
  Nw w (((((((((W.setCell ⟨p,0,none⟩ a).setCell ⟨p,1,none⟩ b).setCell ⟨p,2,none⟩ c).setCell ⟨p,3,none⟩ d).setCell ⟨p+1,0,none⟩ e).setCell ⟨p+1,1,none⟩ f).setCell ⟨p+1,2,none⟩ g).setCell ⟨p+1,3,none⟩ i).setCell ⟨p+1,4,none⟩ j):=by
 have e4:=set4_at h a b c d;have k4:((((W.setCell ⟨p,0,none⟩ a).setCell ⟨p,1,none⟩ b).setCell ⟨p,2,none⟩ c).setCell ⟨p,3,none⟩ d).heap[p+1]? = some (.cells #[y0,y1,y2,y3,y4] u (0,0)):=((set4_kp W p a b c d).block (p+1) (lt_of_block k) (by omega) (by omega)).trans k;have hK4:=set4_kp W p a b c d;generalize ((((W.setCell ⟨p,0,none⟩ a).setCell ⟨p,1,none⟩ b).setCell ⟨p,2,none⟩ c).setCell ⟨p,3,none⟩ d)=V at *;have hK5:Kp (p+1) (p+1) V (((((V.setCell ⟨p+1,0,none⟩ e).setCell ⟨p+1,1,none⟩ f).setCell ⟨p+1,2,none⟩ g).setCell ⟨p+1,3,none⟩ i).setCell ⟨p+1,4,none⟩ j) :=
  (((((Kp.refl (p+1) (p+1) V).setCell' (p:=⟨p+1,0,none⟩) (.inl rfl) e).setCell' (p:=⟨p+1,1,none⟩) (.inl rfl) f).setCell' (p:=⟨p+1,2,none⟩) (.inl rfl) g).setCell' (p:=⟨p+1,3,none⟩) (.inl rfl) i).setCell' (p:=⟨p+1,4,none⟩) (.inl rfl) j
 have f5:=set_at (k:=4) j (set_at (k:=3) i (set_at (k:=2) g (set_at (k:=1) f (set_at (k:=0) e k4))));refine ⟨(hK5.block p (lt_of_block e4) (by omega) (by omega)).trans e4,by simpa using f5,?_,Kp.nw (Kp.nw hN hK4 hp hp) hK5 (by omega) (by omega)⟩;have a1:Kp p (p+1) W V:=Kp.trans (Kp.refl p (p+1) W) hK4 (.inl rfl) (.inl rfl);exact a1.trans hK5 (.inr (.inl rfl)) (.inr (.inl rfl))
theorem both_setd {w W:World} {p:Nat} {z0 z1 z2 z3 y0 y1 y2 y3 y4:Value} {t u:TypeId} (hN:Nw w W) (hp:w.heap.size≤p) (h:W.heap[p]? = some (.cells #[z0,z1,z2,z3] t (0,0))) (k:W.heap[p+1]? = some (.cells #[y0,y1,y2,y3,y4] u (0,0))) (a b c d e f g i j:Value) :
  (((((((((W.setCell ⟨p,0,none⟩ a).setCell ⟨p,1,none⟩ b).setCell ⟨p,2,none⟩ c).setCell ⟨p,3,none⟩ d).setCell ⟨p+1,0,none⟩ e).setCell ⟨p+1,1,none⟩ f).setCell ⟨p+1,2,none⟩ g).setCell ⟨p+1,3,none⟩ i).setCell ⟨p+1,4,none⟩ j).drew.heap[p]? = some (.cells #[a,b,c,d] t (0,0))∧(((((((((W.setCell ⟨p,0,none⟩ a).setCell ⟨p,1,none⟩ b).setCell ⟨p,2,none⟩ c).setCell ⟨p,3,none⟩ d).setCell ⟨p+1,0,none⟩ e).setCell ⟨p+1,1,none⟩ f).setCell ⟨p+1,2,none⟩ g).setCell ⟨p+1,3,none⟩ i).setCell ⟨p+1,4,none⟩ j).drew.heap[p+1]? = some (.cells #[e,f,g,i,j] u (0,0))∧Kp p (p+1) W (((((((((W.setCell ⟨p,0,none⟩ a).setCell ⟨p,1,none⟩ b).setCell ⟨p,2,none⟩ c).setCell ⟨p,3,none⟩ d).setCell ⟨p+1,0,none⟩ e).setCell ⟨p+1,1,none⟩ f).setCell ⟨p+1,2,none⟩ g).setCell ⟨p+1,3,none⟩ i).setCell ⟨p+1,4,none⟩ j).drew∧Nw w (((((((((W.setCell ⟨p,0,none⟩ a).setCell ⟨p,1,none⟩ b).setCell ⟨p,2,none⟩ c).setCell ⟨p,3,none⟩ d).setCell ⟨p+1,0,none⟩ e).setCell ⟨p+1,1,none⟩ f).setCell ⟨p+1,2,none⟩ g).setCell ⟨p+1,3,none⟩ i).setCell ⟨p+1,4,none⟩ j).drew:=by
 obtain ⟨r1,r2,r3,r4⟩:=both_set hN hp h k a b c d e f g i j;generalize (((((((((W.setCell ⟨p,0,none⟩ a).setCell ⟨p,1,none⟩ b).setCell ⟨p,2,none⟩ c).setCell ⟨p,3,none⟩ d).setCell ⟨p+1,0,none⟩ e).setCell ⟨p+1,1,none⟩ f).setCell ⟨p+1,2,none⟩ g).setCell ⟨p+1,3,none⟩ i).setCell ⟨p+1,4,none⟩ j)=V at *;exact ⟨r1,r2,r3.nw' (Nw.drew1 _),r4.trans (Nw.drew1 _)⟩
theorem LitW.bad {w':World} {g n c err:Nat} {A:Option Addr} {X:Except Nat (List Nat)} (h:LitW w' g A n c (if err=0 then X else .error err)) (h0:err≠0):∃ q,q≤n∧WSt w' g A n c q err:=by
 rw [if_neg h0] at h;exact h
def hdS:ByteArray:=⟨#[84,83,66,75,1]⟩
def tlS:ByteArray:=⟨#[75,66,83,84]⟩
theorem hdS_b:sB hdS=hd0:=rfl
theorem tlS_b:sB tlS=[75,66,83,84]:=rfl
theorem four_new (w:World) (o1 o2 o3 o4:Obj):((((w.alloc o1).alloc o2).alloc o3).alloc o4).heap[w.heap.size]? = some o1∧((((w.alloc o1).alloc o2).alloc o3).alloc o4).heap[w.heap.size+1]? = some o2∧((((w.alloc o1).alloc o2).alloc o3).alloc o4).heap[w.heap.size+2]? = some o3∧((((w.alloc o1).alloc o2).alloc o3).alloc o4).heap[w.heap.size+3]? = some o4:=by
 have h2:=heap_alloc_new (w.alloc o1) o2;have h3:=heap_alloc_new ((w.alloc o1).alloc o2) o3;have h4:=heap_alloc_new (((w.alloc o1).alloc o2).alloc o3) o4;simp only [World.size_alloc] at h2 h3 h4;refine ⟨?_,?_,?_,h4⟩
 ·rw [heap_alloc_old _ _ (by simp only [World.size_alloc];omega),heap_alloc_old _ _ (by simp only [World.size_alloc];omega),heap_alloc_old _ _ (by simp only [World.size_alloc];omega)];exact heap_alloc_new w o1
 ·rw [heap_alloc_old _ _ (by simp only [World.size_alloc];omega),heap_alloc_old _ _ (by simp only [World.size_alloc];omega)];exact h2
 ·rw [heap_alloc_old _ _ (by simp only [World.size_alloc];omega)];exact h3
set_option maxRecDepth 100000 in
set_option maxHeartbeats 1600000 in
theorem parse_some (w:World) (b o n c:Nat) (xs:List Nat) (hn:n=xs.length) (hnc:n≤c) (hm:n≤1000000000) (hr:Rd w b (some ⟨b,o,none⟩) (cN .u8 xs)) (hx:∀ x∈xs,x < 256) (hG:Gl w) :
  Calls Tryz.prog 103 #[.slice (some ⟨b,o,none⟩) n c] w (ParW w (parseP xs)):=by
 subst hn;have HR:=hid hr;have HX:=hid hx;have HG:=hid hG;have HNew:=hid fun (W:World) (hN:Nw w W)=>WNew_any W b (some ⟨b,o,none⟩) xs.length c xs rfl hm (hr.nw hN) (fun e=>by cases e) hx
 clear hr hx hG;obtain ⟨P,hP⟩:∃ P,parseP xs=P:=⟨_,rfl⟩;rw [hP];have HP:=hid hP;clear hP;have hN4:Nw w ((((w.alloc (.cells #[nilS,nilS,nilS,nilS] 52)).alloc (.cells #[.int .i64 0,.int .i64 0,.int .i64 0,.int .i64 0,.int .i64 0] 80)).alloc (.cells #[nilS,nilS,nilS,nilS] 52)).alloc (.cells #[.int .i64 0,.int .i64 0,.int .i64 0,.int .i64 0,.int .i64 0] 80)):=((((Nw.refl w).alloc' _).alloc' _).alloc' _).alloc' _;have HB4:=hid (four_new w (.cells #[nilS,nilS,nilS,nilS] 52) (.cells #[.int .i64 0,.int .i64 0,.int .i64 0,.int .i64 0,.int .i64 0] 80) (.cells #[nilS,nilS,nilS,nilS] 52) (.cells #[.int .i64 0,.int .i64 0,.int .i64 0,.int .i64 0,.int .i64 0] 80));have HN4:=hid hN4;clear hN4;go_enter Tryz.func103,Tryz.ntmps103
 go_wp2_with fail;refine (HNew.out _ HN4.out).mono ?_;rintro e w1 ⟨g,b',A',c',rfl,hst,hwi,hb',hg,hN⟩;have HI:Hid (PIv w w1 w.heap.size g b' A' xs.length c' xs nilS nilS nilS nilS 0 0 0 0 0 0 0):=hid (by
  obtain ⟨k0,k1,k2,k3⟩:=HB4.out;have hsz:∀ o1 o2 o3 o4:Obj,((((w.alloc o1).alloc o2).alloc o3).alloc o4).heap.size=w.heap.size+4:=fun _ _ _ _=>by simp
  rw [hsz] at hb' hg;have old:=fun (k:Nat) (ob:Obj) (hk:_)=>(hN.block k (lt_of_block hk)).trans (show _=some ob from hk)
  exact ⟨HN4.out.trans hN,rfl,hg,hb',old _ _ k0,old _ _ k1,old _ _ k2,old _ _ k3,hst,hwi⟩)
 clear hst hwi hb' hg hN HB4 HN4 HNew;have HL1:=hid (WLit_any w1 g b' xs.length c' 0 0 A' xs b (some ⟨b,o,none⟩) xs.length c hdS xs HI.out.st HI.out.wi (by omega) rfl (HR.out.nw HI.out.nw) HX.out (fun _=>by simp) (by decide) (by decide) hnc hm);rw [hdS_b,if_pos rfl] at HL1;go_wp2_with fail;refine HL1.out.mono ?_;rintro e w2 ⟨rfl,hk,hlit⟩;obtain ⟨at0,er0,hat0,hst,hph⟩:=hlit.ph;have HI:=hid (HI.out.rd hk hst);have HPH:=hid hph;clear hst hk hlit HL1 hph;go_wp2_with fail;refine wp_loop_rounds 5 ?_;rw [rounds_succ];have ca:w2.cell? ⟨w.heap.size+1+1+1,0,none⟩=some (.int .i64 0):=cell_at (k:=0) HI.out.a;have fa:w2.frozen? ⟨w.heap.size+1+1+1,0,none⟩=false:=at_freeL HI.out.a;go_wp2_with fail;refine (WAt_any w2 g xs.length c' at0 er0 A' HI.out.st).mono ?_;rintro e w3 ⟨rfl,rfl⟩;go_wp2_with fail;have HI2:=hid (show PIv w (w2.setCell ⟨w.heap.size+1+1+1,0,none⟩ (.int .i64 (at0:Int))) _ _ _ _ _ _ _ _ _ _ _ _ _ _ _ _ _ _ from HI.out.a0 at0);clear HI ca fa;generalize w2.setCell ⟨w.heap.size+1+1+1,0,none⟩ (.int .i64 (at0:Int))=w3 at *;have HS:=hid (WSection_any w3 g b' xs.length c' at0 er0 1 A' xs HI2.out.st HI2.out.wi.len HI2.out.wi.cap HI2.out.wi.small HI2.out.wi.rd HI2.out.wi.byte hat0 (HG.out.nw HI2.out.nw));have hgl:g < w3.heap.size:=HI2.out.st.lt;have hpl:w.heap.size+3 < w3.heap.size:=lt_of_block HI2.out.a;have cs:w3.cell? ⟨w.heap.size+1+1,0,none⟩=some nilS:=cell_at (k:=0) HI2.out.s;refine HS.out.mono ?_;rintro e w4 ⟨hT,hk⟩;obtain ⟨A0,c0,l0,at1,er1,rfl,hD,hst,hat1,hph⟩:=HPH.out.step (m:=4) hat0 HX.out hT hgl hpl;have HI:=hid (HI2.out.rd hk hst);have HPH:=hid hph;have D0:=hid hD;clear hD hst hph hT hk HS HI2 hgl hpl cs;have cs:w4.cell? ⟨w.heap.size+1+1,0,none⟩=some nilS:=cell_at (k:=0) HI.out.s;have fs:w4.frozen? ⟨w.heap.size+1+1,0,none⟩=false:=at_freeL HI.out.s;go_wp2_with fail;have HI2:=hid (show PIv w (w4.setCell ⟨w.heap.size+1+1,0,none⟩ (.slice A0 l0.length c0)) _ _ _ _ _ _ _ _ _ _ _ _ _ _ _ _ _ _ from HI.out.t0 _);have D0:=hid (show SecD (w4.setCell ⟨w.heap.size+1+1,0,none⟩ (.slice A0 l0.length c0)) _ _ _ _ from D0.out.kp (k:=w.heap.size+1+1) (kp_cellK _ _ _ _) (.inr (by omega)));clear HI cs fs;generalize w4.setCell ⟨w.heap.size+1+1,0,none⟩ (.slice A0 l0.length c0)=w2 at *;have HI:=hid HI2.out;clear HI2;rw [rounds_succ];have ca:w2.cell? ⟨w.heap.size+1+1+1,1,none⟩=some (.int .i64 0):=cell_at (k:=1) HI.out.a;have fa:w2.frozen? ⟨w.heap.size+1+1+1,1,none⟩=false:=at_freeL HI.out.a;go_wp2_with fail;refine (WAt_any w2 g xs.length c' at1 er1 A' HI.out.st).mono ?_;rintro e w3 ⟨rfl,rfl⟩;go_wp2_with fail;have HI2:=hid (show PIv w (w2.setCell ⟨w.heap.size+1+1+1,1,none⟩ (.int .i64 (at1:Int))) _ _ _ _ _ _ _ _ _ _ _ _ _ _ _ _ _ _ from HI.out.a1 at1);have D0:=hid (show SecD (w2.setCell ⟨w.heap.size+1+1+1,1,none⟩ (.int .i64 (at1:Int))) _ _ _ _ from D0.out.kp (k:=w.heap.size+1+1+1) (kp_cellK _ _ _ _) (.inr (Nat.le_refl _)));clear HI ca fa;generalize w2.setCell ⟨w.heap.size+1+1+1,1,none⟩ (.int .i64 (at1:Int))=w3 at *;have HS:=hid (WSection_any w3 g b' xs.length c' at1 er1 2 A' xs HI2.out.st HI2.out.wi.len HI2.out.wi.cap HI2.out.wi.small HI2.out.wi.rd HI2.out.wi.byte hat1 (HG.out.nw HI2.out.nw));have hgl:g < w3.heap.size:=HI2.out.st.lt;have hpl:w.heap.size+3 < w3.heap.size:=lt_of_block HI2.out.a;have cs:w3.cell? ⟨w.heap.size+1+1,1,none⟩=some nilS:=cell_at (k:=1) HI2.out.s;refine HS.out.mono ?_;rintro e w4 ⟨hT,hk⟩;obtain ⟨A1,c1,l1,at2,er2,rfl,hD,hst,hat2,hph⟩:=HPH.out.step (m:=3) hat1 HX.out hT hgl hpl;have HI:=hid (HI2.out.rd hk hst);have HPH:=hid hph;have D1:=hid hD;have D0:=hid (D0.out.kp hk (.inl rfl));clear hD hst hph hT hk HS HI2 hgl hpl cs;have cs:w4.cell? ⟨w.heap.size+1+1,1,none⟩=some nilS:=cell_at (k:=1) HI.out.s;have fs:w4.frozen? ⟨w.heap.size+1+1,1,none⟩=false:=at_freeL HI.out.s;go_wp2_with fail;have HI2:=hid (show PIv w (w4.setCell ⟨w.heap.size+1+1,1,none⟩ (.slice A1 l1.length c1)) _ _ _ _ _ _ _ _ _ _ _ _ _ _ _ _ _ _ from HI.out.t1 _);have D0:=hid (show SecD (w4.setCell ⟨w.heap.size+1+1,1,none⟩ (.slice A1 l1.length c1)) _ _ _ _ from D0.out.kp (k:=w.heap.size+1+1) (kp_cellK _ _ _ _) (.inr (by omega)));have D1:=hid (show SecD (w4.setCell ⟨w.heap.size+1+1,1,none⟩ (.slice A1 l1.length c1)) _ _ _ _ from D1.out.kp (k:=w.heap.size+1+1) (kp_cellK _ _ _ _) (.inr (by omega)));clear HI cs fs;generalize w4.setCell ⟨w.heap.size+1+1,1,none⟩ (.slice A1 l1.length c1)=w2 at *;have HI:=hid HI2.out;clear HI2;rw [rounds_succ];have ca:w2.cell? ⟨w.heap.size+1+1+1,2,none⟩=some (.int .i64 0):=cell_at (k:=2) HI.out.a;have fa:w2.frozen? ⟨w.heap.size+1+1+1,2,none⟩=false:=at_freeL HI.out.a;go_wp2_with fail;refine (WAt_any w2 g xs.length c' at2 er2 A' HI.out.st).mono ?_;rintro e w3 ⟨rfl,rfl⟩;go_wp2_with fail;have HI2:=hid (show PIv w (w2.setCell ⟨w.heap.size+1+1+1,2,none⟩ (.int .i64 (at2:Int))) _ _ _ _ _ _ _ _ _ _ _ _ _ _ _ _ _ _ from HI.out.a2 at2);have D0:=hid (show SecD (w2.setCell ⟨w.heap.size+1+1+1,2,none⟩ (.int .i64 (at2:Int))) _ _ _ _ from D0.out.kp (k:=w.heap.size+1+1+1) (kp_cellK _ _ _ _) (.inr (Nat.le_refl _)));have D1:=hid (show SecD (w2.setCell ⟨w.heap.size+1+1+1,2,none⟩ (.int .i64 (at2:Int))) _ _ _ _ from D1.out.kp (k:=w.heap.size+1+1+1) (kp_cellK _ _ _ _) (.inr (Nat.le_refl _)));clear HI ca fa;generalize w2.setCell ⟨w.heap.size+1+1+1,2,none⟩ (.int .i64 (at2:Int))=w3 at *;have HS:=hid (WSection_any w3 g b' xs.length c' at2 er2 3 A' xs HI2.out.st HI2.out.wi.len HI2.out.wi.cap HI2.out.wi.small HI2.out.wi.rd HI2.out.wi.byte hat2 (HG.out.nw HI2.out.nw));have hgl:g < w3.heap.size:=HI2.out.st.lt;have hpl:w.heap.size+3 < w3.heap.size:=lt_of_block HI2.out.a;have cs:w3.cell? ⟨w.heap.size+1+1,2,none⟩=some nilS:=cell_at (k:=2) HI2.out.s;refine HS.out.mono ?_;rintro e w4 ⟨hT,hk⟩;obtain ⟨A2,c2,l2,at3,er3,rfl,hD,hst,hat3,hph⟩:=HPH.out.step (m:=2) hat2 HX.out hT hgl hpl;have HI:=hid (HI2.out.rd hk hst);have HPH:=hid hph;have D2:=hid hD;have D0:=hid (D0.out.kp hk (.inl rfl));have D1:=hid (D1.out.kp hk (.inl rfl));clear hD hst hph hT hk HS HI2 hgl hpl cs;have cs:w4.cell? ⟨w.heap.size+1+1,2,none⟩=some nilS:=cell_at (k:=2) HI.out.s;have fs:w4.frozen? ⟨w.heap.size+1+1,2,none⟩=false:=at_freeL HI.out.s;go_wp2_with fail;have HI2:=hid (show PIv w (w4.setCell ⟨w.heap.size+1+1,2,none⟩ (.slice A2 l2.length c2)) _ _ _ _ _ _ _ _ _ _ _ _ _ _ _ _ _ _ from HI.out.t2 _);have D0:=hid (show SecD (w4.setCell ⟨w.heap.size+1+1,2,none⟩ (.slice A2 l2.length c2)) _ _ _ _ from D0.out.kp (k:=w.heap.size+1+1) (kp_cellK _ _ _ _) (.inr (by omega)));have D1:=hid (show SecD (w4.setCell ⟨w.heap.size+1+1,2,none⟩ (.slice A2 l2.length c2)) _ _ _ _ from D1.out.kp (k:=w.heap.size+1+1) (kp_cellK _ _ _ _) (.inr (by omega)));have D2:=hid (show SecD (w4.setCell ⟨w.heap.size+1+1,2,none⟩ (.slice A2 l2.length c2)) _ _ _ _ from D2.out.kp (k:=w.heap.size+1+1) (kp_cellK _ _ _ _) (.inr (by omega)));clear HI cs fs;generalize w4.setCell ⟨w.heap.size+1+1,2,none⟩ (.slice A2 l2.length c2)=w2 at *;have HI:=hid HI2.out;clear HI2;rw [rounds_succ];have ca:w2.cell? ⟨w.heap.size+1+1+1,3,none⟩=some (.int .i64 0):=cell_at (k:=3) HI.out.a;have fa:w2.frozen? ⟨w.heap.size+1+1+1,3,none⟩=false:=at_freeL HI.out.a;go_wp2_with fail;refine (WAt_any w2 g xs.length c' at3 er3 A' HI.out.st).mono ?_;rintro e w3 ⟨rfl,rfl⟩;go_wp2_with fail;have HI2:=hid (show PIv w (w2.setCell ⟨w.heap.size+1+1+1,3,none⟩ (.int .i64 (at3:Int))) _ _ _ _ _ _ _ _ _ _ _ _ _ _ _ _ _ _ from HI.out.a3 at3);have D0:=hid (show SecD (w2.setCell ⟨w.heap.size+1+1+1,3,none⟩ (.int .i64 (at3:Int))) _ _ _ _ from D0.out.kp (k:=w.heap.size+1+1+1) (kp_cellK _ _ _ _) (.inr (Nat.le_refl _)));have D1:=hid (show SecD (w2.setCell ⟨w.heap.size+1+1+1,3,none⟩ (.int .i64 (at3:Int))) _ _ _ _ from D1.out.kp (k:=w.heap.size+1+1+1) (kp_cellK _ _ _ _) (.inr (Nat.le_refl _)));have D2:=hid (show SecD (w2.setCell ⟨w.heap.size+1+1+1,3,none⟩ (.int .i64 (at3:Int))) _ _ _ _ from D2.out.kp (k:=w.heap.size+1+1+1) (kp_cellK _ _ _ _) (.inr (Nat.le_refl _)));clear HI ca fa;generalize w2.setCell ⟨w.heap.size+1+1+1,3,none⟩ (.int .i64 (at3:Int))=w3 at *;have HS:=hid (WSection_any w3 g b' xs.length c' at3 er3 4 A' xs HI2.out.st HI2.out.wi.len HI2.out.wi.cap HI2.out.wi.small HI2.out.wi.rd HI2.out.wi.byte hat3 (HG.out.nw HI2.out.nw));have hgl:g < w3.heap.size:=HI2.out.st.lt;have hpl:w.heap.size+3 < w3.heap.size:=lt_of_block HI2.out.a;have cs:w3.cell? ⟨w.heap.size+1+1,3,none⟩=some nilS:=cell_at (k:=3) HI2.out.s;refine HS.out.mono ?_;rintro e w4 ⟨hT,hk⟩;obtain ⟨A3,c3,l3,at4,er4,rfl,hD,hst,hat4,hph⟩:=HPH.out.step (m:=1) hat3 HX.out hT hgl hpl;have HI:=hid (HI2.out.rd hk hst);have HPH:=hid hph;have D3:=hid hD;have D0:=hid (D0.out.kp hk (.inl rfl));have D1:=hid (D1.out.kp hk (.inl rfl));have D2:=hid (D2.out.kp hk (.inl rfl));clear hD hst hph hT hk HS HI2 hgl hpl cs;have cs:w4.cell? ⟨w.heap.size+1+1,3,none⟩=some nilS:=cell_at (k:=3) HI.out.s;have fs:w4.frozen? ⟨w.heap.size+1+1,3,none⟩=false:=at_freeL HI.out.s;go_wp2_with fail;have HI2:=hid (show PIv w (w4.setCell ⟨w.heap.size+1+1,3,none⟩ (.slice A3 l3.length c3)) _ _ _ _ _ _ _ _ _ _ _ _ _ _ _ _ _ _ from HI.out.t3 _);have D0:=hid (show SecD (w4.setCell ⟨w.heap.size+1+1,3,none⟩ (.slice A3 l3.length c3)) _ _ _ _ from D0.out.kp (k:=w.heap.size+1+1) (kp_cellK _ _ _ _) (.inr (by omega)));have D1:=hid (show SecD (w4.setCell ⟨w.heap.size+1+1,3,none⟩ (.slice A3 l3.length c3)) _ _ _ _ from D1.out.kp (k:=w.heap.size+1+1) (kp_cellK _ _ _ _) (.inr (by omega)));have D2:=hid (show SecD (w4.setCell ⟨w.heap.size+1+1,3,none⟩ (.slice A3 l3.length c3)) _ _ _ _ from D2.out.kp (k:=w.heap.size+1+1) (kp_cellK _ _ _ _) (.inr (by omega)));have D3:=hid (show SecD (w4.setCell ⟨w.heap.size+1+1,3,none⟩ (.slice A3 l3.length c3)) _ _ _ _ from D3.out.kp (k:=w.heap.size+1+1) (kp_cellK _ _ _ _) (.inr (by omega)));clear HI cs fs;generalize w4.setCell ⟨w.heap.size+1+1,3,none⟩ (.slice A3 l3.length c3)=w2 at *;have HI:=hid HI2.out;clear HI2;rw [rounds_succ];go_wp2_with fail;have ca:w2.cell? ⟨w.heap.size+1+1+1,4,none⟩=some (.int .i64 0):=cell_at (k:=4) HI.out.a;have fa:w2.frozen? ⟨w.heap.size+1+1+1,4,none⟩=false:=at_freeL HI.out.a;refine (WAt_any w2 g xs.length c' at4 er4 A' HI.out.st).mono ?_;rintro e w3 ⟨rfl,rfl⟩;go_wp2_with fail;have HI2:=hid (show PIv w (w2.setCell ⟨w.heap.size+1+1+1,4,none⟩ (.int .i64 (at4:Int))) _ _ _ _ _ _ _ _ _ _ _ _ _ _ _ _ _ _ from HI.out.a4 at4);have D0:=hid (show SecD (w2.setCell ⟨w.heap.size+1+1+1,4,none⟩ (.int .i64 (at4:Int))) _ _ _ _ from D0.out.kp (k:=w.heap.size+1+1+1) (kp_cellK _ _ _ _) (.inr (Nat.le_refl _)));have D1:=hid (show SecD (w2.setCell ⟨w.heap.size+1+1+1,4,none⟩ (.int .i64 (at4:Int))) _ _ _ _ from D1.out.kp (k:=w.heap.size+1+1+1) (kp_cellK _ _ _ _) (.inr (Nat.le_refl _)));have D2:=hid (show SecD (w2.setCell ⟨w.heap.size+1+1+1,4,none⟩ (.int .i64 (at4:Int))) _ _ _ _ from D2.out.kp (k:=w.heap.size+1+1+1) (kp_cellK _ _ _ _) (.inr (Nat.le_refl _)));have D3:=hid (show SecD (w2.setCell ⟨w.heap.size+1+1+1,4,none⟩ (.int .i64 (at4:Int))) _ _ _ _ from D3.out.kp (k:=w.heap.size+1+1+1) (kp_cellK _ _ _ _) (.inr (Nat.le_refl _)));clear HI ca fa;generalize w2.setCell ⟨w.heap.size+1+1+1,4,none⟩ (.int .i64 (at4:Int))=w3 at *;have HS:=hid (WSection_any w3 g b' xs.length c' at4 er4 5 A' xs HI2.out.st HI2.out.wi.len HI2.out.wi.cap HI2.out.wi.small HI2.out.wi.rd HI2.out.wi.byte hat4 (HG.out.nw HI2.out.nw));have hgl:g < w3.heap.size:=HI2.out.st.lt;have hpl:w.heap.size+3 < w3.heap.size:=lt_of_block HI2.out.a;refine HS.out.mono ?_;rintro e w4 ⟨hT,hk⟩;obtain ⟨A4,c4,l4,at5,er5,rfl,hD,hst,hat5,hph⟩:=HPH.out.step (m:=0) hat4 HX.out hT hgl hpl;have HI:=hid (HI2.out.rd hk hst);have HPH:=hid hph;have D4:=hid hD;have D0:=hid (D0.out.kp hk (.inl rfl));have D1:=hid (D1.out.kp hk (.inl rfl));have D2:=hid (D2.out.kp hk (.inl rfl));have D3:=hid (D3.out.kp hk (.inl rfl));clear hD hst hph hT hk HS HI2 hgl hpl;have cq0:w4.cell? ⟨w.heap.size+1+1+1,0,none⟩=some (.int .i64 (at0:Int)):=cell_at (k:=0) HI.out.a;have cq1:w4.cell? ⟨w.heap.size+1+1+1,1,none⟩=some (.int .i64 (at1:Int)):=cell_at (k:=1) HI.out.a;have cq2:w4.cell? ⟨w.heap.size+1+1+1,2,none⟩=some (.int .i64 (at2:Int)):=cell_at (k:=2) HI.out.a;have cq3:w4.cell? ⟨w.heap.size+1+1+1,3,none⟩=some (.int .i64 (at3:Int)):=cell_at (k:=3) HI.out.a;have cq4:w4.cell? ⟨w.heap.size+1+1+1,4,none⟩=some (.int .i64 (at4:Int)):=cell_at (k:=4) HI.out.a;have HCn:=hid (contents_any w4 at0 at1 at2 at3 at4 (by omega) (by omega) (by omega) (by omega));have HPE:Hid ((l4=toc at0 at1 at2 at3→er5=0→parseP xs=endP xs (l0,l1,l2,l3) (xs.drop at5))∧(l4≠toc at0 at1 at2 at3→er5=0→parseP xs=.error 13)∧(er5≠0→parseP xs=.error er5)):=hid (HPH.out.fin);have HTl:=hid (toc_lt at0 at1 at2 at3);obtain ⟨T,hT⟩:∃ T,toc at0 at1 at2 at3=T:=⟨_,rfl⟩;rw [hT] at HCn HPE HTl;clear hT;go_wp2_with fail;refine HCn.out.mono ?_;rintro e w5 ⟨bT,AT,cT,rfl,hOT,_,hNT⟩;obtain ⟨b4,hrd4,hn4,hc4,hb4,hy4⟩:=D4.out.rd;have HE:=hid (bytesEqual_any w5 b4 bT A4 AT l4.length c4 T.length cT l4 T rfl rfl (hrd4.nw hNT) hOT.rd hy4 HTl.out);have HI:=hid (HI.out.new hNT);have D0:=hid (D0.out.nw hNT);have D1:=hid (D1.out.nw hNT);have D2:=hid (D2.out.nw hNT);have D3:=hid (D3.out.nw hNT);clear hOT hNT hrd4 hn4 hc4 hb4 hy4 cq0 cq1 cq2 cq3 cq4 HCn HTl;go_wp2_with fail;refine HE.out.mono ?_;rintro e w6 ⟨rfl,hw6⟩;subst hw6;clear HE;by_cases ht:l4=T
 case neg =>
  rw [decide_eq_false ht];have HF:=hid (WFail_any w5 g xs.length c' at5 er5 13 A' HI.out.st);obtain ⟨E,hE⟩:∃ E,(if er5=0 then 13 else er5)=E:=⟨_,rfl⟩;rw [hE] at HF;have HZ:Hid (E≠0):=hid (by rw [← hE];split<;>omega);have HPz:Hid (P=.error E):=hid (by
   rw [← HP.out,← hE];by_cases h0:er5=0
   ·rw [if_pos h0,HPE.out.2.1 ht h0]
   ·rw [if_neg h0,HPE.out.2.2 h0])
  clear hE ht;go_wp2_with fail;refine HF.out.mono ?_;rintro e w7 ⟨rfl,hst,hk⟩;have HI:=hid (HI.out.rd hk hst);clear hst hk HF;have HT:=hid (Take_off (m:=4) HI.out.st HI.out.wi hat5 HZ.out (by omega));go_wp2_with fail;refine HT.out.mono ?_;rintro e w8 ⟨rfl,⟨q7,hq7,hst⟩,hk⟩;have HI:=hid (HI.out.rd hk hst);clear hst hk HT;go_wp2_with fail;refine (WAt_any w8 g xs.length c' q7 E A' HI.out.st).mono ?_;rintro e w9 ⟨rfl,rfl⟩;obtain ⟨L,hL⟩:∃ L,xs.length - q7=L:=⟨_,rfl⟩;have hLI:(xs.length:Int) - (q7:Int)=(L:Int):=by omega
  have hatI:(q7:Int)≤(xs.length:Int):=by omega
  have hRc:=(HR.out.nw HI.out.nw).cut (k:=q7) (cap:=c) (size:=1) (by simp;omega);simp only [Option.map_some,add_lit',Nat.mul_one] at hRc;rw [← List.map_drop] at hRc;by_cases hc:c=q7
  ·rw [if_pos hc] at hRc;subst hc;have HL2:=hid (WLit_any w8 g b' xs.length c' c E A' xs b (some ⟨b,o,none⟩) L 0 tlS (xs.drop c) HI.out.st HI.out.wi hq7 (by rw [List.length_drop];omega) hRc (fun x hx=>HX.out x (List.mem_of_mem_drop hx)) (fun _=>rfl) (by decide) (by decide) (by omega) (by omega));clear hRc;go_wp2_with fail;refine HL2.out.mono ?_;rintro e w10 ⟨rfl,hk,hlit⟩;obtain ⟨q8,hq8,hst⟩:=hlit.bad HZ.out;have HI:=hid (HI.out.rd hk hst);clear hst hk hlit HL2;go_wp2_with fail;have HEn:=WEnd_any w10 g xs.length c' q8 E A' HI.out.st hq8 hm;rw [if_neg (fun k=>HZ.out k.1)] at HEn;have hez:((E:Int) != 0)=true:=by rw [bne_iff_ne];have:=HZ.out;omega
   refine HEn.mono ?_;rintro e w11 ⟨rfl,rfl⟩;clear HEn;have z0:w10.cell? ⟨w.heap.size,0,none⟩=some nilS:=cell_at (k:=0) HI.out.z2;have z1:w10.cell? ⟨w.heap.size,1,none⟩=some nilS:=cell_at (k:=1) HI.out.z2;have z2:w10.cell? ⟨w.heap.size,2,none⟩=some nilS:=cell_at (k:=2) HI.out.z2;have z3:w10.cell? ⟨w.heap.size,3,none⟩=some nilS:=cell_at (k:=3) HI.out.z2;have y0:w10.cell? ⟨w.heap.size+1,0,none⟩=some (.int .i64 0):=cell_at (k:=0) HI.out.z3;have y1:w10.cell? ⟨w.heap.size+1,1,none⟩=some (.int .i64 0):=cell_at (k:=1) HI.out.z3;have y2:w10.cell? ⟨w.heap.size+1,2,none⟩=some (.int .i64 0):=cell_at (k:=2) HI.out.z3;have y3:w10.cell? ⟨w.heap.size+1,3,none⟩=some (.int .i64 0):=cell_at (k:=3) HI.out.z3;have y4:w10.cell? ⟨w.heap.size+1,4,none⟩=some (.int .i64 0):=cell_at (k:=4) HI.out.z3;have zf0:w10.frozen? ⟨w.heap.size,0,none⟩=false:=at_freeL HI.out.z2;have zf1:w10.frozen? ⟨w.heap.size,1,none⟩=false:=at_freeL HI.out.z2;have zf2:w10.frozen? ⟨w.heap.size,2,none⟩=false:=at_freeL HI.out.z2;have zf3:w10.frozen? ⟨w.heap.size,3,none⟩=false:=at_freeL HI.out.z2;have yf0:w10.frozen? ⟨w.heap.size+1,0,none⟩=false:=at_freeL HI.out.z3;have yf1:w10.frozen? ⟨w.heap.size+1,1,none⟩=false:=at_freeL HI.out.z3;have yf2:w10.frozen? ⟨w.heap.size+1,2,none⟩=false:=at_freeL HI.out.z3;have yf3:w10.frozen? ⟨w.heap.size+1,3,none⟩=false:=at_freeL HI.out.z3;have yf4:w10.frozen? ⟨w.heap.size+1,4,none⟩=false:=at_freeL HI.out.z3;go_wp2_with fail;obtain ⟨r1,r2,r3,r4⟩:=both_set HI.out.nw (Nat.le_refl _) HI.out.z2 HI.out.z3 nilS nilS nilS nilS (.int .i64 0) (.int .i64 0) (.int .i64 0) (.int .i64 0) (.int .i64 0);refine bodyPost_ret (results_cct rfl _ _ ⟨w.heap.size,0,none⟩ ⟨w.heap.size+1,0,none⟩ rfl rfl (run_load4 r1) (run_load5 r2)) rfl ?_;rw [HPz.out];exact ⟨rfl,HZ.out,r4⟩
  ·rw [if_neg hc] at hRc;have HL2:=hid (WLit_any w8 g b' xs.length c' q7 E A' xs b (some ⟨b,o+q7,none⟩) L (c - q7) tlS (xs.drop q7) HI.out.st HI.out.wi hq7 (by rw [List.length_drop];omega) hRc (fun x hx=>HX.out x (List.mem_of_mem_drop hx)) (fun _=>rfl) (by decide) (by decide) (by omega) (by omega));clear hRc;go_wp2_with fail;refine HL2.out.mono ?_;rintro e w10 ⟨rfl,hk,hlit⟩;obtain ⟨q8,hq8,hst⟩:=hlit.bad HZ.out;have HI:=hid (HI.out.rd hk hst);clear hst hk hlit HL2;go_wp2_with fail;have HEn:=WEnd_any w10 g xs.length c' q8 E A' HI.out.st hq8 hm;rw [if_neg (fun k=>HZ.out k.1)] at HEn;have hez:((E:Int) != 0)=true:=by rw [bne_iff_ne];have:=HZ.out;omega
   refine HEn.mono ?_;rintro e w11 ⟨rfl,rfl⟩;clear HEn;have z0:w10.cell? ⟨w.heap.size,0,none⟩=some nilS:=cell_at (k:=0) HI.out.z2;have z1:w10.cell? ⟨w.heap.size,1,none⟩=some nilS:=cell_at (k:=1) HI.out.z2;have z2:w10.cell? ⟨w.heap.size,2,none⟩=some nilS:=cell_at (k:=2) HI.out.z2;have z3:w10.cell? ⟨w.heap.size,3,none⟩=some nilS:=cell_at (k:=3) HI.out.z2;have y0:w10.cell? ⟨w.heap.size+1,0,none⟩=some (.int .i64 0):=cell_at (k:=0) HI.out.z3;have y1:w10.cell? ⟨w.heap.size+1,1,none⟩=some (.int .i64 0):=cell_at (k:=1) HI.out.z3;have y2:w10.cell? ⟨w.heap.size+1,2,none⟩=some (.int .i64 0):=cell_at (k:=2) HI.out.z3;have y3:w10.cell? ⟨w.heap.size+1,3,none⟩=some (.int .i64 0):=cell_at (k:=3) HI.out.z3;have y4:w10.cell? ⟨w.heap.size+1,4,none⟩=some (.int .i64 0):=cell_at (k:=4) HI.out.z3;have zf0:w10.frozen? ⟨w.heap.size,0,none⟩=false:=at_freeL HI.out.z2;have zf1:w10.frozen? ⟨w.heap.size,1,none⟩=false:=at_freeL HI.out.z2;have zf2:w10.frozen? ⟨w.heap.size,2,none⟩=false:=at_freeL HI.out.z2;have zf3:w10.frozen? ⟨w.heap.size,3,none⟩=false:=at_freeL HI.out.z2;have yf0:w10.frozen? ⟨w.heap.size+1,0,none⟩=false:=at_freeL HI.out.z3;have yf1:w10.frozen? ⟨w.heap.size+1,1,none⟩=false:=at_freeL HI.out.z3;have yf2:w10.frozen? ⟨w.heap.size+1,2,none⟩=false:=at_freeL HI.out.z3;have yf3:w10.frozen? ⟨w.heap.size+1,3,none⟩=false:=at_freeL HI.out.z3;have yf4:w10.frozen? ⟨w.heap.size+1,4,none⟩=false:=at_freeL HI.out.z3;go_wp2_with fail;obtain ⟨r1,r2,r3,r4⟩:=both_set HI.out.nw (Nat.le_refl _) HI.out.z2 HI.out.z3 nilS nilS nilS nilS (.int .i64 0) (.int .i64 0) (.int .i64 0) (.int .i64 0) (.int .i64 0);refine bodyPost_ret (results_cct rfl _ _ ⟨w.heap.size,0,none⟩ ⟨w.heap.size+1,0,none⟩ rfl rfl (run_load4 r1) (run_load5 r2)) rfl ?_;rw [HPz.out];exact ⟨rfl,HZ.out,r4⟩
 rw [decide_eq_true ht];have hPE:=HPE.out.1 ht;have hPZ:=HPE.out.2.2;clear HPE HPH D4 ht;by_cases h0:er5=0
 case neg =>
  have HZ:=hid h0;have HPz:Hid (P=.error er5):=hid (by rw [← HP.out,hPZ h0]);clear hPE hPZ h0;go_wp2_with fail;have HT:=hid (Take_off (m:=4) HI.out.st HI.out.wi hat5 HZ.out (by omega));refine HT.out.mono ?_;rintro e w8 ⟨rfl,⟨q7,hq7,hst⟩,hk⟩;have HI:=hid (HI.out.rd hk hst);clear hst hk HT;go_wp2_with fail;refine (WAt_any w8 g xs.length c' q7 er5 A' HI.out.st).mono ?_;rintro e w9 ⟨rfl,rfl⟩;obtain ⟨L,hL⟩:∃ L,xs.length - q7=L:=⟨_,rfl⟩;have hLI:(xs.length:Int) - (q7:Int)=(L:Int):=by omega
  have hatI:(q7:Int)≤(xs.length:Int):=by omega
  have hRc:=(HR.out.nw HI.out.nw).cut (k:=q7) (cap:=c) (size:=1) (by simp;omega);simp only [Option.map_some,add_lit',Nat.mul_one] at hRc;rw [← List.map_drop] at hRc;by_cases hc:c=q7
  ·rw [if_pos hc] at hRc;subst hc;have HL2:=hid (WLit_any w8 g b' xs.length c' c er5 A' xs b (some ⟨b,o,none⟩) L 0 tlS (xs.drop c) HI.out.st HI.out.wi hq7 (by rw [List.length_drop];omega) hRc (fun x hx=>HX.out x (List.mem_of_mem_drop hx)) (fun _=>rfl) (by decide) (by decide) (by omega) (by omega));clear hRc;go_wp2_with fail;refine HL2.out.mono ?_;rintro e w10 ⟨rfl,hk,hlit⟩;obtain ⟨q8,hq8,hst⟩:=hlit.bad HZ.out;have HI:=hid (HI.out.rd hk hst);clear hst hk hlit HL2;go_wp2_with fail;have HEn:=WEnd_any w10 g xs.length c' q8 er5 A' HI.out.st hq8 hm;rw [if_neg (fun k=>HZ.out k.1)] at HEn;have hez:((er5:Int) != 0)=true:=by rw [bne_iff_ne];have:=HZ.out;omega
   refine HEn.mono ?_;rintro e w11 ⟨rfl,rfl⟩;clear HEn;have z0:w10.cell? ⟨w.heap.size,0,none⟩=some nilS:=cell_at (k:=0) HI.out.z2;have z1:w10.cell? ⟨w.heap.size,1,none⟩=some nilS:=cell_at (k:=1) HI.out.z2;have z2:w10.cell? ⟨w.heap.size,2,none⟩=some nilS:=cell_at (k:=2) HI.out.z2;have z3:w10.cell? ⟨w.heap.size,3,none⟩=some nilS:=cell_at (k:=3) HI.out.z2;have y0:w10.cell? ⟨w.heap.size+1,0,none⟩=some (.int .i64 0):=cell_at (k:=0) HI.out.z3;have y1:w10.cell? ⟨w.heap.size+1,1,none⟩=some (.int .i64 0):=cell_at (k:=1) HI.out.z3;have y2:w10.cell? ⟨w.heap.size+1,2,none⟩=some (.int .i64 0):=cell_at (k:=2) HI.out.z3;have y3:w10.cell? ⟨w.heap.size+1,3,none⟩=some (.int .i64 0):=cell_at (k:=3) HI.out.z3;have y4:w10.cell? ⟨w.heap.size+1,4,none⟩=some (.int .i64 0):=cell_at (k:=4) HI.out.z3;have zf0:w10.frozen? ⟨w.heap.size,0,none⟩=false:=at_freeL HI.out.z2;have zf1:w10.frozen? ⟨w.heap.size,1,none⟩=false:=at_freeL HI.out.z2;have zf2:w10.frozen? ⟨w.heap.size,2,none⟩=false:=at_freeL HI.out.z2;have zf3:w10.frozen? ⟨w.heap.size,3,none⟩=false:=at_freeL HI.out.z2;have yf0:w10.frozen? ⟨w.heap.size+1,0,none⟩=false:=at_freeL HI.out.z3;have yf1:w10.frozen? ⟨w.heap.size+1,1,none⟩=false:=at_freeL HI.out.z3;have yf2:w10.frozen? ⟨w.heap.size+1,2,none⟩=false:=at_freeL HI.out.z3;have yf3:w10.frozen? ⟨w.heap.size+1,3,none⟩=false:=at_freeL HI.out.z3;have yf4:w10.frozen? ⟨w.heap.size+1,4,none⟩=false:=at_freeL HI.out.z3;go_wp2_with fail;obtain ⟨r1,r2,r3,r4⟩:=both_set HI.out.nw (Nat.le_refl _) HI.out.z2 HI.out.z3 nilS nilS nilS nilS (.int .i64 0) (.int .i64 0) (.int .i64 0) (.int .i64 0) (.int .i64 0);refine bodyPost_ret (results_cct rfl _ _ ⟨w.heap.size,0,none⟩ ⟨w.heap.size+1,0,none⟩ rfl rfl (run_load4 r1) (run_load5 r2)) rfl ?_;rw [HPz.out];exact ⟨rfl,HZ.out,r4⟩
  ·rw [if_neg hc] at hRc;have HL2:=hid (WLit_any w8 g b' xs.length c' q7 er5 A' xs b (some ⟨b,o+q7,none⟩) L (c - q7) tlS (xs.drop q7) HI.out.st HI.out.wi hq7 (by rw [List.length_drop];omega) hRc (fun x hx=>HX.out x (List.mem_of_mem_drop hx)) (fun _=>rfl) (by decide) (by decide) (by omega) (by omega));clear hRc;go_wp2_with fail;refine HL2.out.mono ?_;rintro e w10 ⟨rfl,hk,hlit⟩;obtain ⟨q8,hq8,hst⟩:=hlit.bad HZ.out;have HI:=hid (HI.out.rd hk hst);clear hst hk hlit HL2;go_wp2_with fail;have HEn:=WEnd_any w10 g xs.length c' q8 er5 A' HI.out.st hq8 hm;rw [if_neg (fun k=>HZ.out k.1)] at HEn;have hez:((er5:Int) != 0)=true:=by rw [bne_iff_ne];have:=HZ.out;omega
   refine HEn.mono ?_;rintro e w11 ⟨rfl,rfl⟩;clear HEn;have z0:w10.cell? ⟨w.heap.size,0,none⟩=some nilS:=cell_at (k:=0) HI.out.z2;have z1:w10.cell? ⟨w.heap.size,1,none⟩=some nilS:=cell_at (k:=1) HI.out.z2;have z2:w10.cell? ⟨w.heap.size,2,none⟩=some nilS:=cell_at (k:=2) HI.out.z2;have z3:w10.cell? ⟨w.heap.size,3,none⟩=some nilS:=cell_at (k:=3) HI.out.z2;have y0:w10.cell? ⟨w.heap.size+1,0,none⟩=some (.int .i64 0):=cell_at (k:=0) HI.out.z3;have y1:w10.cell? ⟨w.heap.size+1,1,none⟩=some (.int .i64 0):=cell_at (k:=1) HI.out.z3;have y2:w10.cell? ⟨w.heap.size+1,2,none⟩=some (.int .i64 0):=cell_at (k:=2) HI.out.z3;have y3:w10.cell? ⟨w.heap.size+1,3,none⟩=some (.int .i64 0):=cell_at (k:=3) HI.out.z3;have y4:w10.cell? ⟨w.heap.size+1,4,none⟩=some (.int .i64 0):=cell_at (k:=4) HI.out.z3;have zf0:w10.frozen? ⟨w.heap.size,0,none⟩=false:=at_freeL HI.out.z2;have zf1:w10.frozen? ⟨w.heap.size,1,none⟩=false:=at_freeL HI.out.z2;have zf2:w10.frozen? ⟨w.heap.size,2,none⟩=false:=at_freeL HI.out.z2;have zf3:w10.frozen? ⟨w.heap.size,3,none⟩=false:=at_freeL HI.out.z2;have yf0:w10.frozen? ⟨w.heap.size+1,0,none⟩=false:=at_freeL HI.out.z3;have yf1:w10.frozen? ⟨w.heap.size+1,1,none⟩=false:=at_freeL HI.out.z3;have yf2:w10.frozen? ⟨w.heap.size+1,2,none⟩=false:=at_freeL HI.out.z3;have yf3:w10.frozen? ⟨w.heap.size+1,3,none⟩=false:=at_freeL HI.out.z3;have yf4:w10.frozen? ⟨w.heap.size+1,4,none⟩=false:=at_freeL HI.out.z3;go_wp2_with fail;obtain ⟨r1,r2,r3,r4⟩:=both_set HI.out.nw (Nat.le_refl _) HI.out.z2 HI.out.z3 nilS nilS nilS nilS (.int .i64 0) (.int .i64 0) (.int .i64 0) (.int .i64 0) (.int .i64 0);refine bodyPost_ret (results_cct rfl _ _ ⟨w.heap.size,0,none⟩ ⟨w.heap.size+1,0,none⟩ rfl rfl (run_load4 r1) (run_load5 r2)) rfl ?_;rw [HPz.out];exact ⟨rfl,HZ.out,r4⟩
 subst h0;have HPe:Hid (P=endP xs (l0,l1,l2,l3) (xs.drop at5)):=hid (HP.out.symm.trans (hPE rfl));clear hPE hPZ;have HT:=hid (WTake_any w5 g b' xs.length c' at5 0 4 A' xs HI.out.st HI.out.wi.len HI.out.wi.cap HI.out.wi.small HI.out.wi.rd hat5 (by omega) (fun _=>by omega));rw [if_pos rfl] at HT;by_cases h4:(xs.drop at5).length < 4
 case pos =>
  rw [show takeP 4 (xs.drop at5)=.error 3 by unfold takeP;rw [if_pos h4]] at HT;have HPz:Hid (P=.error 3):=hid (by rw [HPe.out];unfold endP;rw [if_pos h4]);have HZ:Hid ((3:Nat)≠0):=hid (by omega);clear h4;go_wp2_with fail;refine HT.out.mono ?_;rintro e w8 ⟨⟨rfl,_,q7,hq7,hst⟩,hk⟩;have HI:=hid (HI.out.rd hk hst);clear hst hk HT;go_wp2_with fail;refine (WAt_any w8 g xs.length c' q7 3 A' HI.out.st).mono ?_;rintro e w9 ⟨rfl,rfl⟩;obtain ⟨L,hL⟩:∃ L,xs.length - q7=L:=⟨_,rfl⟩;have hLI:(xs.length:Int) - (q7:Int)=(L:Int):=by omega
  have hatI:(q7:Int)≤(xs.length:Int):=by omega
  have hRc:=(HR.out.nw HI.out.nw).cut (k:=q7) (cap:=c) (size:=1) (by simp;omega);simp only [Option.map_some,add_lit',Nat.mul_one] at hRc;rw [← List.map_drop] at hRc;by_cases hc:c=q7
  ·rw [if_pos hc] at hRc;subst hc;have HL2:=hid (WLit_any w8 g b' xs.length c' c 3 A' xs b (some ⟨b,o,none⟩) L 0 tlS (xs.drop c) HI.out.st HI.out.wi hq7 (by rw [List.length_drop];omega) hRc (fun x hx=>HX.out x (List.mem_of_mem_drop hx)) (fun _=>rfl) (by decide) (by decide) (by omega) (by omega));clear hRc;go_wp2_with fail;refine HL2.out.mono ?_;rintro e w10 ⟨rfl,hk,hlit⟩;obtain ⟨q8,hq8,hst⟩:=hlit.bad HZ.out;have HI:=hid (HI.out.rd hk hst);clear hst hk hlit HL2;go_wp2_with fail;have HEn:=WEnd_any w10 g xs.length c' q8 3 A' HI.out.st hq8 hm;rw [if_neg (fun k=>HZ.out k.1)] at HEn;have hez:((3:Int) != 0)=true:=by rw [bne_iff_ne];have:=HZ.out;omega
   refine HEn.mono ?_;rintro e w11 ⟨rfl,rfl⟩;clear HEn;have z0:w10.cell? ⟨w.heap.size,0,none⟩=some nilS:=cell_at (k:=0) HI.out.z2;have z1:w10.cell? ⟨w.heap.size,1,none⟩=some nilS:=cell_at (k:=1) HI.out.z2;have z2:w10.cell? ⟨w.heap.size,2,none⟩=some nilS:=cell_at (k:=2) HI.out.z2;have z3:w10.cell? ⟨w.heap.size,3,none⟩=some nilS:=cell_at (k:=3) HI.out.z2;have y0:w10.cell? ⟨w.heap.size+1,0,none⟩=some (.int .i64 0):=cell_at (k:=0) HI.out.z3;have y1:w10.cell? ⟨w.heap.size+1,1,none⟩=some (.int .i64 0):=cell_at (k:=1) HI.out.z3;have y2:w10.cell? ⟨w.heap.size+1,2,none⟩=some (.int .i64 0):=cell_at (k:=2) HI.out.z3;have y3:w10.cell? ⟨w.heap.size+1,3,none⟩=some (.int .i64 0):=cell_at (k:=3) HI.out.z3;have y4:w10.cell? ⟨w.heap.size+1,4,none⟩=some (.int .i64 0):=cell_at (k:=4) HI.out.z3;have zf0:w10.frozen? ⟨w.heap.size,0,none⟩=false:=at_freeL HI.out.z2;have zf1:w10.frozen? ⟨w.heap.size,1,none⟩=false:=at_freeL HI.out.z2;have zf2:w10.frozen? ⟨w.heap.size,2,none⟩=false:=at_freeL HI.out.z2;have zf3:w10.frozen? ⟨w.heap.size,3,none⟩=false:=at_freeL HI.out.z2;have yf0:w10.frozen? ⟨w.heap.size+1,0,none⟩=false:=at_freeL HI.out.z3;have yf1:w10.frozen? ⟨w.heap.size+1,1,none⟩=false:=at_freeL HI.out.z3;have yf2:w10.frozen? ⟨w.heap.size+1,2,none⟩=false:=at_freeL HI.out.z3;have yf3:w10.frozen? ⟨w.heap.size+1,3,none⟩=false:=at_freeL HI.out.z3;have yf4:w10.frozen? ⟨w.heap.size+1,4,none⟩=false:=at_freeL HI.out.z3;go_wp2_with fail;obtain ⟨r1,r2,r3,r4⟩:=both_set HI.out.nw (Nat.le_refl _) HI.out.z2 HI.out.z3 nilS nilS nilS nilS (.int .i64 0) (.int .i64 0) (.int .i64 0) (.int .i64 0) (.int .i64 0);refine bodyPost_ret (results_cct rfl _ _ ⟨w.heap.size,0,none⟩ ⟨w.heap.size+1,0,none⟩ rfl rfl (run_load4 r1) (run_load5 r2)) rfl ?_;rw [HPz.out];exact ⟨rfl,HZ.out,r4⟩
  ·rw [if_neg hc] at hRc;have HL2:=hid (WLit_any w8 g b' xs.length c' q7 3 A' xs b (some ⟨b,o+q7,none⟩) L (c - q7) tlS (xs.drop q7) HI.out.st HI.out.wi hq7 (by rw [List.length_drop];omega) hRc (fun x hx=>HX.out x (List.mem_of_mem_drop hx)) (fun _=>rfl) (by decide) (by decide) (by omega) (by omega));clear hRc;go_wp2_with fail;refine HL2.out.mono ?_;rintro e w10 ⟨rfl,hk,hlit⟩;obtain ⟨q8,hq8,hst⟩:=hlit.bad HZ.out;have HI:=hid (HI.out.rd hk hst);clear hst hk hlit HL2;go_wp2_with fail;have HEn:=WEnd_any w10 g xs.length c' q8 3 A' HI.out.st hq8 hm;rw [if_neg (fun k=>HZ.out k.1)] at HEn;have hez:((3:Int) != 0)=true:=by rw [bne_iff_ne];have:=HZ.out;omega
   refine HEn.mono ?_;rintro e w11 ⟨rfl,rfl⟩;clear HEn;have z0:w10.cell? ⟨w.heap.size,0,none⟩=some nilS:=cell_at (k:=0) HI.out.z2;have z1:w10.cell? ⟨w.heap.size,1,none⟩=some nilS:=cell_at (k:=1) HI.out.z2;have z2:w10.cell? ⟨w.heap.size,2,none⟩=some nilS:=cell_at (k:=2) HI.out.z2;have z3:w10.cell? ⟨w.heap.size,3,none⟩=some nilS:=cell_at (k:=3) HI.out.z2;have y0:w10.cell? ⟨w.heap.size+1,0,none⟩=some (.int .i64 0):=cell_at (k:=0) HI.out.z3;have y1:w10.cell? ⟨w.heap.size+1,1,none⟩=some (.int .i64 0):=cell_at (k:=1) HI.out.z3;have y2:w10.cell? ⟨w.heap.size+1,2,none⟩=some (.int .i64 0):=cell_at (k:=2) HI.out.z3;have y3:w10.cell? ⟨w.heap.size+1,3,none⟩=some (.int .i64 0):=cell_at (k:=3) HI.out.z3;have y4:w10.cell? ⟨w.heap.size+1,4,none⟩=some (.int .i64 0):=cell_at (k:=4) HI.out.z3;have zf0:w10.frozen? ⟨w.heap.size,0,none⟩=false:=at_freeL HI.out.z2;have zf1:w10.frozen? ⟨w.heap.size,1,none⟩=false:=at_freeL HI.out.z2;have zf2:w10.frozen? ⟨w.heap.size,2,none⟩=false:=at_freeL HI.out.z2;have zf3:w10.frozen? ⟨w.heap.size,3,none⟩=false:=at_freeL HI.out.z2;have yf0:w10.frozen? ⟨w.heap.size+1,0,none⟩=false:=at_freeL HI.out.z3;have yf1:w10.frozen? ⟨w.heap.size+1,1,none⟩=false:=at_freeL HI.out.z3;have yf2:w10.frozen? ⟨w.heap.size+1,2,none⟩=false:=at_freeL HI.out.z3;have yf3:w10.frozen? ⟨w.heap.size+1,3,none⟩=false:=at_freeL HI.out.z3;have yf4:w10.frozen? ⟨w.heap.size+1,4,none⟩=false:=at_freeL HI.out.z3;go_wp2_with fail;obtain ⟨r1,r2,r3,r4⟩:=both_set HI.out.nw (Nat.le_refl _) HI.out.z2 HI.out.z3 nilS nilS nilS nilS (.int .i64 0) (.int .i64 0) (.int .i64 0) (.int .i64 0) (.int .i64 0);refine bodyPost_ret (results_cct rfl _ _ ⟨w.heap.size,0,none⟩ ⟨w.heap.size+1,0,none⟩ rfl rfl (run_load4 r1) (run_load5 r2)) rfl ?_;rw [HPz.out];exact ⟨rfl,HZ.out,r4⟩
 have hlen5:(xs.drop at5).length=xs.length - at5:=List.length_drop;rw [show takeP 4 (xs.drop at5)=.ok ((xs.drop at5).take 4,xs.drop (at5+4)) by unfold takeP;rw [if_neg h4,List.drop_drop]] at HT;have h44:((xs.drop at5).take 4).length=4:=by rw [List.length_take];omega
 have hat6:at5+4≤xs.length:=by omega
 have HCk:=hid fun (W:World) (hN:Nw w W)=>WCheck_any W b (some ⟨b,o,none⟩) (at5+4) c (xs.take (at5+4)) (by rw [List.length_take];omega) (by omega) (by omega) (by
  have:=(HR.out.nw hN).take (at5+4);unfold cN at this ⊢;rw [List.map_take];exact this) (fun x hx=>HX.out x (List.mem_of_mem_take hx)) (HG.out.nw hN)
 have HPe2:Hid (P=if crcOk (xs.take (at5+4))=false then .error 12 else xb (litP [75,66,83,84] (xs.drop (at5+4))) fun r=>if r=[] then .ok (l0,l1,l2,l3) else .error 4):=hid (by
  rw [HPe.out];unfold endP;rw [if_neg h4,hlen5,show xs.length - (xs.length - at5)+4=at5+4 by omega,List.drop_drop])
 have hTo:xs.length - (xs.drop (at5+4)).length=at5+4:=by rw [List.length_drop];omega
 obtain ⟨at6,ha6⟩:∃ at6,at5+4=at6:=⟨_,rfl⟩;rw [ha6] at HT HCk HPe2 hat6 hTo;clear h4 hlen5 HPe ha6;generalize (xs.drop at5).take 4=sm at *;obtain ⟨k,hk⟩:∃ k,crcOk (xs.take at6)=k:=⟨_,rfl⟩;rw [hk] at HCk HPe2;clear hk;go_wp2_with fail;refine HT.out.mono ?_;rintro e w8 ⟨⟨⟨b6,A6,c6,rfl,_,_⟩,hst⟩,hk⟩;rw [hTo] at hst;have HI:=hid (HI.out.rd hk hst);have D0:=hid (D0.out.kp hk (.inl rfl));have D1:=hid (D1.out.kp hk (.inl rfl));have D2:=hid (D2.out.kp hk (.inl rfl));have D3:=hid (D3.out.kp hk (.inl rfl));have h44b:((sm.length:Int) == 4)=true:=by rw [beq_iff_eq];omega
 have hatI6:(at6:Int)≤(c:Int):=by omega
 clear hst hk HT hTo h44;go_wp2_with fail;refine (WAt_any w8 g xs.length c' at6 0 A' HI.out.st).mono ?_;rintro e w9 ⟨rfl,rfl⟩;go_wp2_with fail;refine (HCk.out _ HI.out.nw).mono ?_;rintro e w9 ⟨rfl,rfl⟩;clear HCk;cases k
 ·have HPz:Hid (P=.error 12):=hid (by rw [HPe2.out];rfl);have HZ:Hid ((12:Nat)≠0):=hid (by omega);have HF:=hid (WFail_any w8 g xs.length c' at6 0 12 A' HI.out.st);rw [if_pos rfl] at HF;go_wp2_with fail;refine HF.out.mono ?_;rintro e w7 ⟨rfl,hst,hk⟩;have HI:=hid (HI.out.rd hk hst);clear hst hk HF;go_wp2_with fail;refine (WAt_any w7 g xs.length c' at6 12 A' HI.out.st).mono ?_;rintro e w9 ⟨rfl,rfl⟩;obtain ⟨L,hL⟩:∃ L,xs.length - at6=L:=⟨_,rfl⟩;have hLI:(xs.length:Int) - (at6:Int)=(L:Int):=by omega
  have hatI:(at6:Int)≤(xs.length:Int):=by omega
  have hRc:=(HR.out.nw HI.out.nw).cut (k:=at6) (cap:=c) (size:=1) (by simp;omega);simp only [Option.map_some,add_lit',Nat.mul_one] at hRc;rw [← List.map_drop] at hRc;by_cases hc:c=at6
  ·rw [if_pos hc] at hRc;subst hc;have HL2:=hid (WLit_any w7 g b' xs.length c' c 12 A' xs b (some ⟨b,o,none⟩) L 0 tlS (xs.drop c) HI.out.st HI.out.wi hat6 (by rw [List.length_drop];omega) hRc (fun x hx=>HX.out x (List.mem_of_mem_drop hx)) (fun _=>rfl) (by decide) (by decide) (by omega) (by omega));clear hRc;go_wp2_with fail;refine HL2.out.mono ?_;rintro e w10 ⟨rfl,hk,hlit⟩;obtain ⟨q8,hq8,hst⟩:=hlit.bad HZ.out;have HI:=hid (HI.out.rd hk hst);clear hst hk hlit HL2;go_wp2_with fail;have HEn:=WEnd_any w10 g xs.length c' q8 12 A' HI.out.st hq8 hm;rw [if_neg (fun k=>HZ.out k.1)] at HEn;have hez:((12:Int) != 0)=true:=by rw [bne_iff_ne];have:=HZ.out;omega
   refine HEn.mono ?_;rintro e w11 ⟨rfl,rfl⟩;clear HEn;have z0:w10.cell? ⟨w.heap.size,0,none⟩=some nilS:=cell_at (k:=0) HI.out.z2;have z1:w10.cell? ⟨w.heap.size,1,none⟩=some nilS:=cell_at (k:=1) HI.out.z2;have z2:w10.cell? ⟨w.heap.size,2,none⟩=some nilS:=cell_at (k:=2) HI.out.z2;have z3:w10.cell? ⟨w.heap.size,3,none⟩=some nilS:=cell_at (k:=3) HI.out.z2;have y0:w10.cell? ⟨w.heap.size+1,0,none⟩=some (.int .i64 0):=cell_at (k:=0) HI.out.z3;have y1:w10.cell? ⟨w.heap.size+1,1,none⟩=some (.int .i64 0):=cell_at (k:=1) HI.out.z3;have y2:w10.cell? ⟨w.heap.size+1,2,none⟩=some (.int .i64 0):=cell_at (k:=2) HI.out.z3;have y3:w10.cell? ⟨w.heap.size+1,3,none⟩=some (.int .i64 0):=cell_at (k:=3) HI.out.z3;have y4:w10.cell? ⟨w.heap.size+1,4,none⟩=some (.int .i64 0):=cell_at (k:=4) HI.out.z3;have zf0:w10.frozen? ⟨w.heap.size,0,none⟩=false:=at_freeL HI.out.z2;have zf1:w10.frozen? ⟨w.heap.size,1,none⟩=false:=at_freeL HI.out.z2;have zf2:w10.frozen? ⟨w.heap.size,2,none⟩=false:=at_freeL HI.out.z2;have zf3:w10.frozen? ⟨w.heap.size,3,none⟩=false:=at_freeL HI.out.z2;have yf0:w10.frozen? ⟨w.heap.size+1,0,none⟩=false:=at_freeL HI.out.z3;have yf1:w10.frozen? ⟨w.heap.size+1,1,none⟩=false:=at_freeL HI.out.z3;have yf2:w10.frozen? ⟨w.heap.size+1,2,none⟩=false:=at_freeL HI.out.z3;have yf3:w10.frozen? ⟨w.heap.size+1,3,none⟩=false:=at_freeL HI.out.z3;have yf4:w10.frozen? ⟨w.heap.size+1,4,none⟩=false:=at_freeL HI.out.z3;go_wp2_with fail;obtain ⟨r1,r2,r3,r4⟩:=both_set HI.out.nw (Nat.le_refl _) HI.out.z2 HI.out.z3 nilS nilS nilS nilS (.int .i64 0) (.int .i64 0) (.int .i64 0) (.int .i64 0) (.int .i64 0);refine bodyPost_ret (results_cct rfl _ _ ⟨w.heap.size,0,none⟩ ⟨w.heap.size+1,0,none⟩ rfl rfl (run_load4 r1) (run_load5 r2)) rfl ?_;rw [HPz.out];exact ⟨rfl,HZ.out,r4⟩
  ·rw [if_neg hc] at hRc;have HL2:=hid (WLit_any w7 g b' xs.length c' at6 12 A' xs b (some ⟨b,o+at6,none⟩) L (c - at6) tlS (xs.drop at6) HI.out.st HI.out.wi hat6 (by rw [List.length_drop];omega) hRc (fun x hx=>HX.out x (List.mem_of_mem_drop hx)) (fun _=>rfl) (by decide) (by decide) (by omega) (by omega));clear hRc;go_wp2_with fail;refine HL2.out.mono ?_;rintro e w10 ⟨rfl,hk,hlit⟩;obtain ⟨q8,hq8,hst⟩:=hlit.bad HZ.out;have HI:=hid (HI.out.rd hk hst);clear hst hk hlit HL2;go_wp2_with fail;have HEn:=WEnd_any w10 g xs.length c' q8 12 A' HI.out.st hq8 hm;rw [if_neg (fun k=>HZ.out k.1)] at HEn;have hez:((12:Int) != 0)=true:=by rw [bne_iff_ne];have:=HZ.out;omega
   refine HEn.mono ?_;rintro e w11 ⟨rfl,rfl⟩;clear HEn;have z0:w10.cell? ⟨w.heap.size,0,none⟩=some nilS:=cell_at (k:=0) HI.out.z2;have z1:w10.cell? ⟨w.heap.size,1,none⟩=some nilS:=cell_at (k:=1) HI.out.z2;have z2:w10.cell? ⟨w.heap.size,2,none⟩=some nilS:=cell_at (k:=2) HI.out.z2;have z3:w10.cell? ⟨w.heap.size,3,none⟩=some nilS:=cell_at (k:=3) HI.out.z2;have y0:w10.cell? ⟨w.heap.size+1,0,none⟩=some (.int .i64 0):=cell_at (k:=0) HI.out.z3;have y1:w10.cell? ⟨w.heap.size+1,1,none⟩=some (.int .i64 0):=cell_at (k:=1) HI.out.z3;have y2:w10.cell? ⟨w.heap.size+1,2,none⟩=some (.int .i64 0):=cell_at (k:=2) HI.out.z3;have y3:w10.cell? ⟨w.heap.size+1,3,none⟩=some (.int .i64 0):=cell_at (k:=3) HI.out.z3;have y4:w10.cell? ⟨w.heap.size+1,4,none⟩=some (.int .i64 0):=cell_at (k:=4) HI.out.z3;have zf0:w10.frozen? ⟨w.heap.size,0,none⟩=false:=at_freeL HI.out.z2;have zf1:w10.frozen? ⟨w.heap.size,1,none⟩=false:=at_freeL HI.out.z2;have zf2:w10.frozen? ⟨w.heap.size,2,none⟩=false:=at_freeL HI.out.z2;have zf3:w10.frozen? ⟨w.heap.size,3,none⟩=false:=at_freeL HI.out.z2;have yf0:w10.frozen? ⟨w.heap.size+1,0,none⟩=false:=at_freeL HI.out.z3;have yf1:w10.frozen? ⟨w.heap.size+1,1,none⟩=false:=at_freeL HI.out.z3;have yf2:w10.frozen? ⟨w.heap.size+1,2,none⟩=false:=at_freeL HI.out.z3;have yf3:w10.frozen? ⟨w.heap.size+1,3,none⟩=false:=at_freeL HI.out.z3;have yf4:w10.frozen? ⟨w.heap.size+1,4,none⟩=false:=at_freeL HI.out.z3;go_wp2_with fail;obtain ⟨r1,r2,r3,r4⟩:=both_set HI.out.nw (Nat.le_refl _) HI.out.z2 HI.out.z3 nilS nilS nilS nilS (.int .i64 0) (.int .i64 0) (.int .i64 0) (.int .i64 0) (.int .i64 0);refine bodyPost_ret (results_cct rfl _ _ ⟨w.heap.size,0,none⟩ ⟨w.heap.size+1,0,none⟩ rfl rfl (run_load4 r1) (run_load5 r2)) rfl ?_;rw [HPz.out];exact ⟨rfl,HZ.out,r4⟩
 ·have HPe3:Hid (P=xb (litP [75,66,83,84] (xs.drop at6)) fun r=>if r=[] then .ok (l0,l1,l2,l3) else .error 4):=hid (by rw [HPe2.out,if_neg (by simp)]);clear HPe2;go_wp2_with fail;refine (WAt_any w8 g xs.length c' at6 0 A' HI.out.st).mono ?_;rintro e w9 ⟨rfl,rfl⟩;obtain ⟨L,hL⟩:∃ L,xs.length - at6=L:=⟨_,rfl⟩;have hLI:(xs.length:Int) - (at6:Int)=(L:Int):=by omega
  have hatI:(at6:Int)≤(xs.length:Int):=by omega
  have hRc:=(HR.out.nw HI.out.nw).cut (k:=at6) (cap:=c) (size:=1) (by simp;omega);simp only [Option.map_some,add_lit',Nat.mul_one] at hRc;rw [← List.map_drop] at hRc;by_cases hc:c=at6
  ·rw [if_pos hc] at hRc;subst hc;have HL2:=hid (WLit_any w8 g b' xs.length c' c 0 A' xs b (some ⟨b,o,none⟩) L 0 tlS (xs.drop c) HI.out.st HI.out.wi hat6 (by rw [List.length_drop];omega) hRc (fun x hx=>HX.out x (List.mem_of_mem_drop hx)) (fun _=>rfl) (by decide) (by decide) (by omega) (by omega));clear hRc;rw [if_pos rfl,tlS_b] at HL2;go_wp2_with fail;refine HL2.out.mono ?_;rintro e w10 ⟨rfl,hk,hlit⟩;have D0:=hid (D0.out.kp hk (.inl rfl));have D1:=hid (D1.out.kp hk (.inl rfl));have D2:=hid (D2.out.kp hk (.inl rfl));have D3:=hid (D3.out.kp hk (.inl rfl));cases hl:litP [75,66,83,84] (xs.drop c) with
   | error k =>
    rw [hl] at hlit;obtain ⟨q8,hq8,hst⟩:=hlit;have HI:=hid (HI.out.rd hk hst);have HZ:Hid (k≠0):=hid (by have:=(litP_ext _).2.2 hl;omega);have HPz:Hid (P=.error k):=hid (by rw [HPe3.out,hl];rfl);clear hst hk HL2 hl;go_wp2_with fail;have HEn:=WEnd_any w10 g xs.length c' q8 k A' HI.out.st hq8 hm;rw [if_neg (fun k=>HZ.out k.1)] at HEn;have hez:((k:Int) != 0)=true:=by rw [bne_iff_ne];have:=HZ.out;omega
    refine HEn.mono ?_;rintro e w11 ⟨rfl,rfl⟩;clear HEn;have z0:w10.cell? ⟨w.heap.size,0,none⟩=some nilS:=cell_at (k:=0) HI.out.z2;have z1:w10.cell? ⟨w.heap.size,1,none⟩=some nilS:=cell_at (k:=1) HI.out.z2;have z2:w10.cell? ⟨w.heap.size,2,none⟩=some nilS:=cell_at (k:=2) HI.out.z2;have z3:w10.cell? ⟨w.heap.size,3,none⟩=some nilS:=cell_at (k:=3) HI.out.z2;have y0:w10.cell? ⟨w.heap.size+1,0,none⟩=some (.int .i64 0):=cell_at (k:=0) HI.out.z3;have y1:w10.cell? ⟨w.heap.size+1,1,none⟩=some (.int .i64 0):=cell_at (k:=1) HI.out.z3;have y2:w10.cell? ⟨w.heap.size+1,2,none⟩=some (.int .i64 0):=cell_at (k:=2) HI.out.z3;have y3:w10.cell? ⟨w.heap.size+1,3,none⟩=some (.int .i64 0):=cell_at (k:=3) HI.out.z3;have y4:w10.cell? ⟨w.heap.size+1,4,none⟩=some (.int .i64 0):=cell_at (k:=4) HI.out.z3;have zf0:w10.frozen? ⟨w.heap.size,0,none⟩=false:=at_freeL HI.out.z2;have zf1:w10.frozen? ⟨w.heap.size,1,none⟩=false:=at_freeL HI.out.z2;have zf2:w10.frozen? ⟨w.heap.size,2,none⟩=false:=at_freeL HI.out.z2;have zf3:w10.frozen? ⟨w.heap.size,3,none⟩=false:=at_freeL HI.out.z2;have yf0:w10.frozen? ⟨w.heap.size+1,0,none⟩=false:=at_freeL HI.out.z3;have yf1:w10.frozen? ⟨w.heap.size+1,1,none⟩=false:=at_freeL HI.out.z3;have yf2:w10.frozen? ⟨w.heap.size+1,2,none⟩=false:=at_freeL HI.out.z3;have yf3:w10.frozen? ⟨w.heap.size+1,3,none⟩=false:=at_freeL HI.out.z3;have yf4:w10.frozen? ⟨w.heap.size+1,4,none⟩=false:=at_freeL HI.out.z3;go_wp2_with fail;obtain ⟨r1,r2,r3,r4⟩:=both_set HI.out.nw (Nat.le_refl _) HI.out.z2 HI.out.z3 nilS nilS nilS nilS (.int .i64 0) (.int .i64 0) (.int .i64 0) (.int .i64 0) (.int .i64 0);refine bodyPost_ret (results_cct rfl _ _ ⟨w.heap.size,0,none⟩ ⟨w.heap.size+1,0,none⟩ rfl rfl (run_load4 r1) (run_load5 r2)) rfl ?_;rw [HPz.out];exact ⟨rfl,HZ.out,r4⟩
   | ok r =>
    rw [hl] at hlit;have HPr:Hid (P=if r=[] then .ok (l0,l1,l2,l3) else .error 4):=hid (by rw [HPe3.out,hl];rfl);have hrl:r.length≤xs.length:=by
     have:=congrArg List.length (litP_ok hl);rw [List.length_append,List.length_drop] at this;omega
    have HI:=hid (HI.out.rd hk hlit);clear hlit hk HL2 hl;go_wp2_with fail;have HEn:=WEnd_any w10 g xs.length c' (xs.length - r.length) 0 A' HI.out.st (by omega) hm;by_cases hr:r=[]
    ·have HPz:Hid (P=.ok (l0,l1,l2,l3)):=hid (by rw [HPr.out,if_pos hr]);rw [if_neg (fun k=>by have:=k.2;rw [hr] at this;simp at this)] at HEn;refine HEn.mono ?_;rintro e w11 ⟨rfl,rfl⟩;clear HEn hr hrl;have z0:w10.cell? ⟨w.heap.size,0,none⟩=some nilS:=cell_at (k:=0) HI.out.z2;have z1:w10.cell? ⟨w.heap.size,1,none⟩=some nilS:=cell_at (k:=1) HI.out.z2;have z2:w10.cell? ⟨w.heap.size,2,none⟩=some nilS:=cell_at (k:=2) HI.out.z2;have z3:w10.cell? ⟨w.heap.size,3,none⟩=some nilS:=cell_at (k:=3) HI.out.z2;have y0:w10.cell? ⟨w.heap.size+1,0,none⟩=some (.int .i64 0):=cell_at (k:=0) HI.out.z3;have y1:w10.cell? ⟨w.heap.size+1,1,none⟩=some (.int .i64 0):=cell_at (k:=1) HI.out.z3;have y2:w10.cell? ⟨w.heap.size+1,2,none⟩=some (.int .i64 0):=cell_at (k:=2) HI.out.z3;have y3:w10.cell? ⟨w.heap.size+1,3,none⟩=some (.int .i64 0):=cell_at (k:=3) HI.out.z3;have y4:w10.cell? ⟨w.heap.size+1,4,none⟩=some (.int .i64 0):=cell_at (k:=4) HI.out.z3;have zf0:w10.frozen? ⟨w.heap.size,0,none⟩=false:=at_freeL HI.out.z2;have zf1:w10.frozen? ⟨w.heap.size,1,none⟩=false:=at_freeL HI.out.z2;have zf2:w10.frozen? ⟨w.heap.size,2,none⟩=false:=at_freeL HI.out.z2;have zf3:w10.frozen? ⟨w.heap.size,3,none⟩=false:=at_freeL HI.out.z2;have yf0:w10.frozen? ⟨w.heap.size+1,0,none⟩=false:=at_freeL HI.out.z3;have yf1:w10.frozen? ⟨w.heap.size+1,1,none⟩=false:=at_freeL HI.out.z3;have yf2:w10.frozen? ⟨w.heap.size+1,2,none⟩=false:=at_freeL HI.out.z3;have yf3:w10.frozen? ⟨w.heap.size+1,3,none⟩=false:=at_freeL HI.out.z3;have yf4:w10.frozen? ⟨w.heap.size+1,4,none⟩=false:=at_freeL HI.out.z3;have sc0:w10.cell? ⟨w.heap.size+1+1,0,none⟩=some (.slice A0 l0.length c0):=cell_at (k:=0) HI.out.s;have sc1:w10.cell? ⟨w.heap.size+1+1,1,none⟩=some (.slice A1 l1.length c1):=cell_at (k:=1) HI.out.s;have sc2:w10.cell? ⟨w.heap.size+1+1,2,none⟩=some (.slice A2 l2.length c2):=cell_at (k:=2) HI.out.s;have sc3:w10.cell? ⟨w.heap.size+1+1,3,none⟩=some (.slice A3 l3.length c3):=cell_at (k:=3) HI.out.s;have qc0:w10.cell? ⟨w.heap.size+1+1+1,0,none⟩=some (.int .i64 (at0:Int)):=cell_at (k:=0) HI.out.a;have qc1:w10.cell? ⟨w.heap.size+1+1+1,1,none⟩=some (.int .i64 (at1:Int)):=cell_at (k:=1) HI.out.a;have qc2:w10.cell? ⟨w.heap.size+1+1+1,2,none⟩=some (.int .i64 (at2:Int)):=cell_at (k:=2) HI.out.a;have qc3:w10.cell? ⟨w.heap.size+1+1+1,3,none⟩=some (.int .i64 (at3:Int)):=cell_at (k:=3) HI.out.a;have qc4:w10.cell? ⟨w.heap.size+1+1+1,4,none⟩=some (.int .i64 (at4:Int)):=cell_at (k:=4) HI.out.a;go_wp2_with fail;go_region
     go_wp2_with fail;obtain ⟨r1,r2,rk,r5⟩:=both_setd HI.out.nw (Nat.le_refl _) HI.out.z2 HI.out.z3 (.slice A0 l0.length c0) (.slice A1 l1.length c1) (.slice A2 l2.length c2) (.slice A3 l3.length c3) (.int .i64 (at0:Int)) (.int .i64 (at1:Int)) (.int .i64 (at2:Int)) (.int .i64 (at3:Int)) (.int .i64 (at4:Int));have D0:=(D0.out.kp2 rk (by omega) (by omega));have D1:=(D1.out.kp2 rk (by omega) (by omega));have D2:=(D2.out.kp2 rk (by omega) (by omega));have D3:=D3.out.kp2 rk (by omega) (by omega);have hgs:=HI.out.gp;refine bodyPost_ret (results_cct rfl _ _ ⟨w.heap.size,0,none⟩ ⟨w.heap.size+1,0,none⟩ rfl rfl (run_load4 r1) (run_load5 r2)) rfl ?_;rw [HPz.out];exact ⟨g,w.heap.size,_,_,_,_,at0,at1,at2,at3,at4,rfl,D0,D1,D2,D3,by omega,r5⟩
    ·have hr0:r.length≠0:=fun e=>hr (List.eq_nil_of_length_eq_zero e)
     have HPz:Hid (P=.error 4):=hid (by rw [HPr.out,if_neg hr]);have HZ:Hid ((4:Nat)≠0):=hid (by omega);rw [if_pos ⟨rfl,by omega⟩] at HEn;refine HEn.mono ?_;rintro e w11 ⟨rfl,rfl⟩;clear HEn hr hrl hr0;have z0:w10.cell? ⟨w.heap.size,0,none⟩=some nilS:=cell_at (k:=0) HI.out.z2;have z1:w10.cell? ⟨w.heap.size,1,none⟩=some nilS:=cell_at (k:=1) HI.out.z2;have z2:w10.cell? ⟨w.heap.size,2,none⟩=some nilS:=cell_at (k:=2) HI.out.z2;have z3:w10.cell? ⟨w.heap.size,3,none⟩=some nilS:=cell_at (k:=3) HI.out.z2;have y0:w10.cell? ⟨w.heap.size+1,0,none⟩=some (.int .i64 0):=cell_at (k:=0) HI.out.z3;have y1:w10.cell? ⟨w.heap.size+1,1,none⟩=some (.int .i64 0):=cell_at (k:=1) HI.out.z3;have y2:w10.cell? ⟨w.heap.size+1,2,none⟩=some (.int .i64 0):=cell_at (k:=2) HI.out.z3;have y3:w10.cell? ⟨w.heap.size+1,3,none⟩=some (.int .i64 0):=cell_at (k:=3) HI.out.z3;have y4:w10.cell? ⟨w.heap.size+1,4,none⟩=some (.int .i64 0):=cell_at (k:=4) HI.out.z3;have zf0:w10.frozen? ⟨w.heap.size,0,none⟩=false:=at_freeL HI.out.z2;have zf1:w10.frozen? ⟨w.heap.size,1,none⟩=false:=at_freeL HI.out.z2;have zf2:w10.frozen? ⟨w.heap.size,2,none⟩=false:=at_freeL HI.out.z2;have zf3:w10.frozen? ⟨w.heap.size,3,none⟩=false:=at_freeL HI.out.z2;have yf0:w10.frozen? ⟨w.heap.size+1,0,none⟩=false:=at_freeL HI.out.z3;have yf1:w10.frozen? ⟨w.heap.size+1,1,none⟩=false:=at_freeL HI.out.z3;have yf2:w10.frozen? ⟨w.heap.size+1,2,none⟩=false:=at_freeL HI.out.z3;have yf3:w10.frozen? ⟨w.heap.size+1,3,none⟩=false:=at_freeL HI.out.z3;have yf4:w10.frozen? ⟨w.heap.size+1,4,none⟩=false:=at_freeL HI.out.z3;go_wp2_with fail;obtain ⟨r1,r2,r3,r4⟩:=both_set HI.out.nw (Nat.le_refl _) HI.out.z2 HI.out.z3 nilS nilS nilS nilS (.int .i64 0) (.int .i64 0) (.int .i64 0) (.int .i64 0) (.int .i64 0);refine bodyPost_ret (results_cct rfl _ _ ⟨w.heap.size,0,none⟩ ⟨w.heap.size+1,0,none⟩ rfl rfl (run_load4 r1) (run_load5 r2)) rfl ?_;rw [HPz.out];exact ⟨rfl,HZ.out,r4⟩
  ·rw [if_neg hc] at hRc;have HL2:=hid (WLit_any w8 g b' xs.length c' at6 0 A' xs b (some ⟨b,o+at6,none⟩) L (c - at6) tlS (xs.drop at6) HI.out.st HI.out.wi hat6 (by rw [List.length_drop];omega) hRc (fun x hx=>HX.out x (List.mem_of_mem_drop hx)) (fun _=>rfl) (by decide) (by decide) (by omega) (by omega));clear hRc;rw [if_pos rfl,tlS_b] at HL2;go_wp2_with fail;refine HL2.out.mono ?_;rintro e w10 ⟨rfl,hk,hlit⟩;have D0:=hid (D0.out.kp hk (.inl rfl));have D1:=hid (D1.out.kp hk (.inl rfl));have D2:=hid (D2.out.kp hk (.inl rfl));have D3:=hid (D3.out.kp hk (.inl rfl));cases hl:litP [75,66,83,84] (xs.drop at6) with
   | error k =>
    rw [hl] at hlit;obtain ⟨q8,hq8,hst⟩:=hlit;have HI:=hid (HI.out.rd hk hst);have HZ:Hid (k≠0):=hid (by have:=(litP_ext _).2.2 hl;omega);have HPz:Hid (P=.error k):=hid (by rw [HPe3.out,hl];rfl);clear hst hk HL2 hl;go_wp2_with fail;have HEn:=WEnd_any w10 g xs.length c' q8 k A' HI.out.st hq8 hm;rw [if_neg (fun k=>HZ.out k.1)] at HEn;have hez:((k:Int) != 0)=true:=by rw [bne_iff_ne];have:=HZ.out;omega
    refine HEn.mono ?_;rintro e w11 ⟨rfl,rfl⟩;clear HEn;have z0:w10.cell? ⟨w.heap.size,0,none⟩=some nilS:=cell_at (k:=0) HI.out.z2;have z1:w10.cell? ⟨w.heap.size,1,none⟩=some nilS:=cell_at (k:=1) HI.out.z2;have z2:w10.cell? ⟨w.heap.size,2,none⟩=some nilS:=cell_at (k:=2) HI.out.z2;have z3:w10.cell? ⟨w.heap.size,3,none⟩=some nilS:=cell_at (k:=3) HI.out.z2;have y0:w10.cell? ⟨w.heap.size+1,0,none⟩=some (.int .i64 0):=cell_at (k:=0) HI.out.z3;have y1:w10.cell? ⟨w.heap.size+1,1,none⟩=some (.int .i64 0):=cell_at (k:=1) HI.out.z3;have y2:w10.cell? ⟨w.heap.size+1,2,none⟩=some (.int .i64 0):=cell_at (k:=2) HI.out.z3;have y3:w10.cell? ⟨w.heap.size+1,3,none⟩=some (.int .i64 0):=cell_at (k:=3) HI.out.z3;have y4:w10.cell? ⟨w.heap.size+1,4,none⟩=some (.int .i64 0):=cell_at (k:=4) HI.out.z3;have zf0:w10.frozen? ⟨w.heap.size,0,none⟩=false:=at_freeL HI.out.z2;have zf1:w10.frozen? ⟨w.heap.size,1,none⟩=false:=at_freeL HI.out.z2;have zf2:w10.frozen? ⟨w.heap.size,2,none⟩=false:=at_freeL HI.out.z2;have zf3:w10.frozen? ⟨w.heap.size,3,none⟩=false:=at_freeL HI.out.z2;have yf0:w10.frozen? ⟨w.heap.size+1,0,none⟩=false:=at_freeL HI.out.z3;have yf1:w10.frozen? ⟨w.heap.size+1,1,none⟩=false:=at_freeL HI.out.z3;have yf2:w10.frozen? ⟨w.heap.size+1,2,none⟩=false:=at_freeL HI.out.z3;have yf3:w10.frozen? ⟨w.heap.size+1,3,none⟩=false:=at_freeL HI.out.z3;have yf4:w10.frozen? ⟨w.heap.size+1,4,none⟩=false:=at_freeL HI.out.z3;go_wp2_with fail;obtain ⟨r1,r2,r3,r4⟩:=both_set HI.out.nw (Nat.le_refl _) HI.out.z2 HI.out.z3 nilS nilS nilS nilS (.int .i64 0) (.int .i64 0) (.int .i64 0) (.int .i64 0) (.int .i64 0);refine bodyPost_ret (results_cct rfl _ _ ⟨w.heap.size,0,none⟩ ⟨w.heap.size+1,0,none⟩ rfl rfl (run_load4 r1) (run_load5 r2)) rfl ?_;rw [HPz.out];exact ⟨rfl,HZ.out,r4⟩
   | ok r =>
    rw [hl] at hlit;have HPr:Hid (P=if r=[] then .ok (l0,l1,l2,l3) else .error 4):=hid (by rw [HPe3.out,hl];rfl);have hrl:r.length≤xs.length:=by
     have:=congrArg List.length (litP_ok hl);rw [List.length_append,List.length_drop] at this;omega
    have HI:=hid (HI.out.rd hk hlit);clear hlit hk HL2 hl;go_wp2_with fail;have HEn:=WEnd_any w10 g xs.length c' (xs.length - r.length) 0 A' HI.out.st (by omega) hm;by_cases hr:r=[]
    ·have HPz:Hid (P=.ok (l0,l1,l2,l3)):=hid (by rw [HPr.out,if_pos hr]);rw [if_neg (fun k=>by have:=k.2;rw [hr] at this;simp at this)] at HEn;refine HEn.mono ?_;rintro e w11 ⟨rfl,rfl⟩;clear HEn hr hrl;have z0:w10.cell? ⟨w.heap.size,0,none⟩=some nilS:=cell_at (k:=0) HI.out.z2;have z1:w10.cell? ⟨w.heap.size,1,none⟩=some nilS:=cell_at (k:=1) HI.out.z2;have z2:w10.cell? ⟨w.heap.size,2,none⟩=some nilS:=cell_at (k:=2) HI.out.z2;have z3:w10.cell? ⟨w.heap.size,3,none⟩=some nilS:=cell_at (k:=3) HI.out.z2;have y0:w10.cell? ⟨w.heap.size+1,0,none⟩=some (.int .i64 0):=cell_at (k:=0) HI.out.z3;have y1:w10.cell? ⟨w.heap.size+1,1,none⟩=some (.int .i64 0):=cell_at (k:=1) HI.out.z3;have y2:w10.cell? ⟨w.heap.size+1,2,none⟩=some (.int .i64 0):=cell_at (k:=2) HI.out.z3;have y3:w10.cell? ⟨w.heap.size+1,3,none⟩=some (.int .i64 0):=cell_at (k:=3) HI.out.z3;have y4:w10.cell? ⟨w.heap.size+1,4,none⟩=some (.int .i64 0):=cell_at (k:=4) HI.out.z3;have zf0:w10.frozen? ⟨w.heap.size,0,none⟩=false:=at_freeL HI.out.z2;have zf1:w10.frozen? ⟨w.heap.size,1,none⟩=false:=at_freeL HI.out.z2;have zf2:w10.frozen? ⟨w.heap.size,2,none⟩=false:=at_freeL HI.out.z2;have zf3:w10.frozen? ⟨w.heap.size,3,none⟩=false:=at_freeL HI.out.z2;have yf0:w10.frozen? ⟨w.heap.size+1,0,none⟩=false:=at_freeL HI.out.z3;have yf1:w10.frozen? ⟨w.heap.size+1,1,none⟩=false:=at_freeL HI.out.z3;have yf2:w10.frozen? ⟨w.heap.size+1,2,none⟩=false:=at_freeL HI.out.z3;have yf3:w10.frozen? ⟨w.heap.size+1,3,none⟩=false:=at_freeL HI.out.z3;have yf4:w10.frozen? ⟨w.heap.size+1,4,none⟩=false:=at_freeL HI.out.z3;have sc0:w10.cell? ⟨w.heap.size+1+1,0,none⟩=some (.slice A0 l0.length c0):=cell_at (k:=0) HI.out.s;have sc1:w10.cell? ⟨w.heap.size+1+1,1,none⟩=some (.slice A1 l1.length c1):=cell_at (k:=1) HI.out.s;have sc2:w10.cell? ⟨w.heap.size+1+1,2,none⟩=some (.slice A2 l2.length c2):=cell_at (k:=2) HI.out.s;have sc3:w10.cell? ⟨w.heap.size+1+1,3,none⟩=some (.slice A3 l3.length c3):=cell_at (k:=3) HI.out.s;have qc0:w10.cell? ⟨w.heap.size+1+1+1,0,none⟩=some (.int .i64 (at0:Int)):=cell_at (k:=0) HI.out.a;have qc1:w10.cell? ⟨w.heap.size+1+1+1,1,none⟩=some (.int .i64 (at1:Int)):=cell_at (k:=1) HI.out.a;have qc2:w10.cell? ⟨w.heap.size+1+1+1,2,none⟩=some (.int .i64 (at2:Int)):=cell_at (k:=2) HI.out.a;have qc3:w10.cell? ⟨w.heap.size+1+1+1,3,none⟩=some (.int .i64 (at3:Int)):=cell_at (k:=3) HI.out.a;have qc4:w10.cell? ⟨w.heap.size+1+1+1,4,none⟩=some (.int .i64 (at4:Int)):=cell_at (k:=4) HI.out.a;go_wp2_with fail;go_region
     go_wp2_with fail;obtain ⟨r1,r2,rk,r5⟩:=both_setd HI.out.nw (Nat.le_refl _) HI.out.z2 HI.out.z3 (.slice A0 l0.length c0) (.slice A1 l1.length c1) (.slice A2 l2.length c2) (.slice A3 l3.length c3) (.int .i64 (at0:Int)) (.int .i64 (at1:Int)) (.int .i64 (at2:Int)) (.int .i64 (at3:Int)) (.int .i64 (at4:Int));have D0:=(D0.out.kp2 rk (by omega) (by omega));have D1:=(D1.out.kp2 rk (by omega) (by omega));have D2:=(D2.out.kp2 rk (by omega) (by omega));have D3:=D3.out.kp2 rk (by omega) (by omega);have hgs:=HI.out.gp;refine bodyPost_ret (results_cct rfl _ _ ⟨w.heap.size,0,none⟩ ⟨w.heap.size+1,0,none⟩ rfl rfl (run_load4 r1) (run_load5 r2)) rfl ?_;rw [HPz.out];exact ⟨g,w.heap.size,_,_,_,_,at0,at1,at2,at3,at4,rfl,D0,D1,D2,D3,by omega,r5⟩
    ·have hr0:r.length≠0:=fun e=>hr (List.eq_nil_of_length_eq_zero e)
     have HPz:Hid (P=.error 4):=hid (by rw [HPr.out,if_neg hr]);have HZ:Hid ((4:Nat)≠0):=hid (by omega);rw [if_pos ⟨rfl,by omega⟩] at HEn;refine HEn.mono ?_;rintro e w11 ⟨rfl,rfl⟩;clear HEn hr hrl hr0;have z0:w10.cell? ⟨w.heap.size,0,none⟩=some nilS:=cell_at (k:=0) HI.out.z2;have z1:w10.cell? ⟨w.heap.size,1,none⟩=some nilS:=cell_at (k:=1) HI.out.z2;have z2:w10.cell? ⟨w.heap.size,2,none⟩=some nilS:=cell_at (k:=2) HI.out.z2;have z3:w10.cell? ⟨w.heap.size,3,none⟩=some nilS:=cell_at (k:=3) HI.out.z2;have y0:w10.cell? ⟨w.heap.size+1,0,none⟩=some (.int .i64 0):=cell_at (k:=0) HI.out.z3;have y1:w10.cell? ⟨w.heap.size+1,1,none⟩=some (.int .i64 0):=cell_at (k:=1) HI.out.z3;have y2:w10.cell? ⟨w.heap.size+1,2,none⟩=some (.int .i64 0):=cell_at (k:=2) HI.out.z3;have y3:w10.cell? ⟨w.heap.size+1,3,none⟩=some (.int .i64 0):=cell_at (k:=3) HI.out.z3;have y4:w10.cell? ⟨w.heap.size+1,4,none⟩=some (.int .i64 0):=cell_at (k:=4) HI.out.z3;have zf0:w10.frozen? ⟨w.heap.size,0,none⟩=false:=at_freeL HI.out.z2;have zf1:w10.frozen? ⟨w.heap.size,1,none⟩=false:=at_freeL HI.out.z2;have zf2:w10.frozen? ⟨w.heap.size,2,none⟩=false:=at_freeL HI.out.z2;have zf3:w10.frozen? ⟨w.heap.size,3,none⟩=false:=at_freeL HI.out.z2;have yf0:w10.frozen? ⟨w.heap.size+1,0,none⟩=false:=at_freeL HI.out.z3;have yf1:w10.frozen? ⟨w.heap.size+1,1,none⟩=false:=at_freeL HI.out.z3;have yf2:w10.frozen? ⟨w.heap.size+1,2,none⟩=false:=at_freeL HI.out.z3;have yf3:w10.frozen? ⟨w.heap.size+1,3,none⟩=false:=at_freeL HI.out.z3;have yf4:w10.frozen? ⟨w.heap.size+1,4,none⟩=false:=at_freeL HI.out.z3;go_wp2_with fail;obtain ⟨r1,r2,r3,r4⟩:=both_set HI.out.nw (Nat.le_refl _) HI.out.z2 HI.out.z3 nilS nilS nilS nilS (.int .i64 0) (.int .i64 0) (.int .i64 0) (.int .i64 0) (.int .i64 0);refine bodyPost_ret (results_cct rfl _ _ ⟨w.heap.size,0,none⟩ ⟨w.heap.size+1,0,none⟩ rfl rfl (run_load4 r1) (run_load5 r2)) rfl ?_;rw [HPz.out];exact ⟨rfl,HZ.out,r4⟩
end
section
open Go Go.RowKit Go.Lib Go.Sort Go.Shelf
theorem BlkGot.trans {w W w':World} {X:Except Nat (List BVal)} {e:Ending} (hN:Nw w W) (h:BlkGot W X e w'):BlkGot w X e w':=by
 obtain ⟨h0,h1⟩:=h;refine ⟨hN.trans h0,?_⟩;cases X with
 | ok B =>
  obtain ⟨l,bo,Ao,co,q1,q2,q3,q4,q5,q6,q7⟩:=h1;exact ⟨l,bo,Ao,co,q1,q2,q3,q4,q5,q6,q7.mono hN.size⟩
 | error k=>exact h1
end
end Go.Proofs.YtmmonehfnfbpbaaGreatDoor
