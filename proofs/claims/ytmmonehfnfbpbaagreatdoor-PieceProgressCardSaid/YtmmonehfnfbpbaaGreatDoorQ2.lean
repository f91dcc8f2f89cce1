/- Laws that the last text builds on. -/
import Derived.Test.YtmmonehfnfbpbaaGreatDoorQ1
import Derived.Test.YtmmonehfnfbpbaaGreatDoorChecked
namespace Go.Proofs.YtmmonehfnfbpbaaGreatDoor
open Go.Lib(hid)
section
open Go Go.RowKit Go.Lib
def WSt (W:World) (g:Nat) (A:Option Addr) (n c at_ err:Nat):Prop :=
 W.heap[g]? = some (.cells #[.slice A n c,.int .i64 (at_:Int),.int .i64 (err:Int)] 271 (0,0))
theorem WSt.nw {W W':World} {g n c at_ err:Nat} {A:Option Addr} (h:WSt W g A n c at_ err) (hN:Nw W W'):WSt W' g A n c at_ err:=(hN.block _ (lt_of_block h)).trans h
theorem WSt.lt {W:World} {g n c at_ err:Nat} {A:Option Addr} (h:WSt W g A n c at_ err):g < W.heap.size:=lt_of_block h
theorem WSt.c0 {W:World} {g n c at_ err:Nat} {A:Option Addr} (h:WSt W g A n c at_ err):W.cell? ⟨g,0,none⟩=some (.slice A n c):=cell_at (k:=0) h
theorem WSt.c1 {W:World} {g n c at_ err:Nat} {A:Option Addr} (h:WSt W g A n c at_ err):W.cell? ⟨g,1,none⟩=some (.int .i64 (at_:Int)):=cell_at (k:=1) h
theorem WSt.c2 {W:World} {g n c at_ err:Nat} {A:Option Addr} (h:WSt W g A n c at_ err):W.cell? ⟨g,2,none⟩=some (.int .i64 (err:Int)):=cell_at (k:=2) h
theorem WSt.s1 {W:World} {g n c at_ err:Nat} {A:Option Addr} (h:WSt W g A n c at_ err) (x:Nat):WSt (W.setCell ⟨g,1,none⟩ (.int .i64 (x:Int))) g A n c x err:=by
 have:=set_at (k:=1) (.int .i64 (x:Int)) h;unfold WSt;simpa using this
theorem WSt.s2 {W:World} {g n c at_ err:Nat} {A:Option Addr} (h:WSt W g A n c at_ err) (x:Nat):WSt (W.setCell ⟨g,2,none⟩ (.int .i64 (x:Int))) g A n c at_ x:=by
 have:=set_at (k:=2) (.int .i64 (x:Int)) h;unfold WSt;simpa using this
theorem WSt.free {W:World} {g n c at_ err:Nat} {A:Option Addr} (h:WSt W g A n c at_ err) (k:Nat):W.frozen? ⟨g,k,none⟩=false:=by simp [World.frozen?,show W.heap[g]? = _ from h]
theorem nil_eqW (g:Nat) (W:World):(binOp .eql 182 (.pointer (some ⟨g,0,none⟩)) (.pointer none)).run Tryz.prog W=.ok (.bool false) W:=by kernel_rfl
theorem nil_neW (g:Nat) (W:World):(binOp .neq 182 (.pointer (some ⟨g,0,none⟩)) (.pointer none)).run Tryz.prog W=.ok (.bool true) W:=by kernel_rfl
theorem WErr_any (w:World) (g n c at_ err:Nat) (A:Option Addr) (h:WSt w g A n c at_ err) :
  Calls Tryz.prog 107 #[.pointer (some ⟨g,0,none⟩)] w fun e w'=>e=.returned (.int .i64 (err:Int))∧w=w':=by
 have c2:=h.c2;have hnil:=nil_eqW g;clear h;go_enter Tryz.func107,Tryz.ntmps107
 go_wp2_with fail;go_ret;exact ⟨rfl,rfl⟩
theorem WAt_any (w:World) (g n c at_ err:Nat) (A:Option Addr) (h:WSt w g A n c at_ err) :
  Calls Tryz.prog 170 #[.pointer (some ⟨g,0,none⟩)] w fun e w'=>e=.returned (.int .i64 (at_:Int))∧w=w':=by
 have c1:=h.c1;have hnil:=nil_eqW g;clear h;go_enter Tryz.func170,Tryz.ntmps170
 go_wp2_with fail;go_ret;exact ⟨rfl,rfl⟩
theorem Wleft_any (w:World) (g n c at_ err p:Nat) (A:Option Addr) (h:WSt w g A n c at_ err) (hp:p≤n) (hm:n≤1000000000) :
  Calls Tryz.prog 177 #[.pointer (some ⟨g,0,none⟩),.int .i64 (p:Int)] w fun e w'=>e=.returned (.int .i64 ((n - p:Nat):Int))∧w=w':=by
 have c0:=h.c0;obtain ⟨L,hL⟩:∃ L,n - p=L:=⟨_,rfl⟩;have hLI:(n:Int) - (p:Int)=(L:Int):=by omega
 rw [hL];clear h hL;go_enter Tryz.func177,Tryz.ntmps177
 go_wp2_with fail;go_ret;exact ⟨rfl,rfl⟩
theorem WFail_any (w:World) (g n c at_ err E:Nat) (A:Option Addr) (h:WSt w g A n c at_ err) :
  Calls Tryz.prog 108 #[.pointer (some ⟨g,0,none⟩),.int .i64 (E:Int)] w fun e w'=>e=.returned (.tuple #[])∧WSt w' g A n c at_ (if err=0 then E else err)∧Kp g g w w':=by
 have c2:=h.c2;have f2:=h.free 2;have hnil:=nil_neW g;have HR:=hid h;clear h;go_enter Tryz.func108,Tryz.ntmps108
 by_cases h0:err=0
 ·subst h0;go_wp2_with fail;go_end0
  exact ⟨rfl,HR.out.s2 E,(Kp.refl g g w).setCell' (.inl rfl) _⟩
 ·have hE:((err:Int) == 0)=false:=by rw [beq_eq_false_iff_ne];omega
  go_wp2_with fail;go_end0
  exact ⟨rfl,HR.out,Kp.refl g g w⟩
theorem WEnd_any (w:World) (g n c at_ err:Nat) (A:Option Addr) (h:WSt w g A n c at_ err) (hat:at_≤n) (hm:n≤1000000000) :
  Calls Tryz.prog 109 #[.pointer (some ⟨g,0,none⟩)] w fun e w'=>e=.returned (.int .i64 ((if err=0∧at_ < n then 4 else err:Nat):Int))∧w=w':=by
 have c1:=h.c1;have HE:=hid (WErr_any w g n c at_ err A h);have HL:=hid (Wleft_any w g n c at_ err at_ A h hat hm);clear h;by_cases h0:err=0
 ·subst h0;by_cases h1:at_ < n
  ·have h1I:(0:Int) < ((n - at_:Nat):Int):=by omega
   rw [if_pos ⟨rfl,h1⟩];generalize n - at_=L at *;clear h1;go_enter Tryz.func109,Tryz.ntmps109
   go_wp2_with fail;refine HE.out.mono ?_;rintro e w2 ⟨rfl,rfl⟩;go_wp2_with fail;refine HL.out.mono ?_;rintro e w2 ⟨rfl,rfl⟩;go_wp2_with fail;go_ret;exact ⟨rfl,rfl⟩
  ·have h1I:¬ (0:Int) < ((n - at_:Nat):Int):=by omega
   rw [if_neg (fun k=>h1 k.2)];generalize n - at_=L at *;clear h1;go_enter Tryz.func109,Tryz.ntmps109
   go_wp2_with fail;refine HE.out.mono ?_;rintro e w2 ⟨rfl,rfl⟩;go_wp2_with fail;refine HL.out.mono ?_;rintro e w2 ⟨rfl,rfl⟩;go_wp2_with fail;go_ret;exact ⟨rfl,rfl⟩
 ·have hE:((err:Int) != 0)=true:=by rw [bne_iff_ne];omega
  rw [if_neg (fun k=>h0 k.1)];clear h0;go_enter Tryz.func109,Tryz.ntmps109
  go_wp2_with fail;refine HE.out.mono ?_;rintro e w2 ⟨rfl,rfl⟩;go_wp2_with fail;go_ret;exact ⟨rfl,rfl⟩
set_option maxRecDepth 100000 in
theorem readB_err (w:World) (g n c at_ err:Nat) (A:Option Addr) (fv:Value) (h:WSt w g A n c at_ err) (h0:err≠0) :
  Calls Tryz.prog 238 #[.pointer (some ⟨g,0,none⟩),fv] w fun e w'=>e=.returned (.slice none 0 0)∧w=w':=by
 have HE:=hid (WErr_any w g n c at_ err A h);have hE:((err:Int) != 0)=true:=by rw [bne_iff_ne];omega
 clear h h0;go_enter Tryz.func238,Tryz.ntmps238
 go_wp2_with fail;refine HE.out.mono ?_;rintro e w2 ⟨rfl,rfl⟩;go_wp2_with fail;go_ret;exact ⟨rfl,rfl⟩
set_option maxRecDepth 100000 in
theorem readB_ok (w:World) (g n c at_ tw:Nat) (A:Option Addr) (F:Nat) (v1 v2:Value) (K:Value→World→Prop) (h:WSt w g A n c at_ 0) (hF:∀ args W,(callFunc F args).run Tryz.prog W=.ok (.enter F args) W)
  (hC:Calls Tryz.prog F #[.int .i64 (at_:Int),v1,v2] w fun e w'=>∃ v,e=.returned (.tuple #[v,.int .i64 (tw:Int),.int .i64 0])∧K v w'∧Nw w w') :
  Calls Tryz.prog 238 #[.pointer (some ⟨g,0,none⟩),.func (.func F) #[] #[v1,v2]] w fun e w'=>∃ v w1,e=.returned v∧K v w1∧Nw w w1∧w'=w1.setCell ⟨g,1,none⟩ (.int .i64 (tw:Int)):=by
 have HE:=hid (WErr_any w g n c at_ 0 A h);have HC:=hid hC;have HR:=hid h;have c1:=h.c1;clear h hC;go_enter Tryz.func238,Tryz.ntmps238
 go_wp2_with fail;refine HE.out.mono ?_;rintro e w2 ⟨rfl,rfl⟩;go_wp2_with fail;refine HC.out.mono ?_;rintro e w2 ⟨v,rfl,hK,hN⟩;have HKN:=hid (And.intro hK hN);have c1':=(HR.out.nw hN).c1;have f1:=(HR.out.nw hN).free 1;clear hK hN c1;go_wp2_with fail;go_ret;exact ⟨v,w2,rfl,HKN.out.1,HKN.out.2,rfl⟩
set_option maxRecDepth 100000 in
theorem readB_bad (w:World) (g n c at_ k:Nat) (A:Option Addr) (F:Nat) (v1 v2:Value) (h:WSt w g A n c at_ 0) (hk:k≠0) (hF:∀ args W,(callFunc F args).run Tryz.prog W=.ok (.enter F args) W)
  (hC:Calls Tryz.prog F #[.int .i64 (at_:Int),v1,v2] w fun e w'=>(∃ v u,e=.returned (.tuple #[v,u,.int .i64 (k:Int)]))∧Nw w w') :
  Calls Tryz.prog 238 #[.pointer (some ⟨g,0,none⟩),.func (.func F) #[] #[v1,v2]] w fun e w'=>∃ w1,e=.returned (.slice none 0 0)∧Nw w w1∧w'=w1.setCell ⟨g,2,none⟩ (.int .i64 (k:Int)):=by
 have HE:=hid (WErr_any w g n c at_ 0 A h);have HC:=hid hC;have HR:=hid h;have c1:=h.c1;have hk2:((k:Int) != 0)=true:=by rw [bne_iff_ne];omega
 clear h hC hk;go_enter Tryz.func238,Tryz.ntmps238
 go_wp2_with fail;refine HE.out.mono ?_;rintro e w2 ⟨rfl,rfl⟩;go_wp2_with fail;refine HC.out.mono ?_;rintro e w2 ⟨⟨v,u,rfl⟩,hN⟩;have HN:=hid hN;have c2':=(HR.out.nw hN).c2;have f2:=(HR.out.nw hN).free 2;clear hN c1;go_wp2_with fail;go_ret;exact ⟨w2,rfl,HN.out,rfl⟩
end
section
def xb {α β:Type} (x:Except Nat α) (f:α→Except Nat β):Except Nat β :=
 match x with
 | .ok a=>f a
 | .error k=>.error k
theorem xb_ok {α β:Type} (a:α) (f:α→Except Nat β):xb (.ok a) f=f a:=rfl
theorem xb_er {α β:Type} (k:Nat) (f:α→Except Nat β):xb (.error k) f=.error k:=rfl
def crcOk (l:List Nat):Bool:=decide (4≤l.length∧l=addCrc (l.take (l.length - 4)))
def sectP (id:Nat) (bs:List Nat):Except Nat (List Nat × List Nat) :=
 match bs with
 | []=>.error 3
 | x::r0 =>
  if x≠id then .error 11 else
  xb (vget0 r0) fun p =>
   if p.2.length < 4∨p.2.length - 4 < p.1 then .error 3
   else if crcOk (bs.take (bs.length - p.2.length+p.1+4)) then .ok (p.2.take p.1,p.2.drop (p.1+4)) else .error 12
def litP (s bs:List Nat):Except Nat (List Nat) :=
 if bs.take s.length≠s.take bs.length then .error 10 else if bs.length < s.length then .error 3 else .ok (bs.drop s.length)
abbrev Secs:=List Nat × List Nat × List Nat × List Nat
def endP (bs:List Nat) (s:Secs) (r:List Nat):Except Nat Secs :=
 if r.length < 4 then .error 3
 else if crcOk (bs.take (bs.length - r.length+4))=false then .error 12
 else xb (litP [75,66,83,84] (r.drop 4)) fun r=>if r=[] then .ok s else .error 4
def parseP (bs:List Nat):Except Nat Secs :=
 xb (litP hd0 bs) fun r0=>xb (sectP 1 r0) fun p1=>xb (sectP 2 p1.2) fun p2=>xb (sectP 3 p2.2) fun p3=>xb (sectP 4 p3.2) fun p4=>xb (sectP 5 p4.2) fun p5 =>
  if p5.1=toc (bs.length - r0.length) (bs.length - p1.2.length) (bs.length - p2.2.length) (bs.length - p3.2.length) then endP bs (p1.1,p2.1,p3.1,p4.1) p5.2 else .error 13
structure PExt {α:Type} (p:List Nat→Except Nat (α × List Nat)):Prop where
 ok:∀ {bs v r},p bs=.ok (v,r)→∀ e,p (bs++e)=.ok (v,r++e)
 er:∀ {bs k},p bs=.error k→k≠3→∀ e,p (bs++e)=.error k
 nz:∀ {bs k},p bs=.error k→k≠0
 sfx:∀ {bs v r},p bs=.ok (v,r)→∃ u,bs=u++r
theorem vgetA_ext:∀ (l:List Nat) (i acc:Nat) (e:List Nat),(∀ x r,vgetA i acc l=.ok (x,r)→vgetA i acc (l++e)=.ok (x,r++e))∧(∀ k,vgetA i acc l=.error k→k≠3→vgetA i acc (l++e)=.error k)∧(∀ k,vgetA i acc l=.error k→k≠0)∧(∀ x r,vgetA i acc l=.ok (x,r)→∃ u,l=u++r)
 | [],i,acc,e=>by
  simp only [vgetA];exact ⟨fun _ _ h=>by simp at h,fun k h=>by simp at h;omega,fun k h=>by simp at h;omega,fun _ _ h=>by simp at h⟩
 | c::l,i,acc,e=>by
  obtain ⟨h1,h2,h3,h4⟩:=vgetA_ext l (i+1) (acc+c % 128*128 ^ i) e;rw [List.cons_append];simp only [vgetA];by_cases q1:i=9∧1 < c
  ·simp only [if_pos q1];exact ⟨fun _ _ h=>by simp at h,fun k h _=>h,fun k h=>by simp at h;omega,fun _ _ h=>by simp at h⟩
  ·simp only [if_neg q1];by_cases q2:c=0∧0 < i
   ·simp only [if_pos q2];exact ⟨fun _ _ h=>by simp at h,fun k h _=>h,fun k h=>by simp at h;omega,fun _ _ h=>by simp at h⟩
   ·simp only [if_neg q2];by_cases q3:c < 128
    ·simp only [if_pos q3];refine ⟨fun x r h=>?_,fun k h=>by simp at h,fun k h=>by simp at h,fun x r h=>?_⟩
     ·injection h with h
      injection h with e1 e2
      rw [e1,e2]
     ·injection h with h
      injection h with e1 e2
      exact ⟨[c],by rw [← e2];rfl⟩
    ·simp only [if_neg q3];refine ⟨h1,h2,h3,fun x r h=>?_⟩;obtain ⟨u,hu⟩:=h4 x r h;exact ⟨c::u,by rw [hu];rfl⟩
theorem vget_ext:PExt vget0:=⟨fun {bs v r} h e=>(vgetA_ext bs 0 0 e).1 v r h,fun {bs k} h hk e=>(vgetA_ext bs 0 0 e).2.1 k h hk,fun {bs k} h=>(vgetA_ext bs 0 0 []).2.2.1 k h,fun {bs v r} h=>(vgetA_ext bs 0 0 []).2.2.2 v r h⟩
theorem sectP_ok {id:Nat} {bs l r:List Nat} (h:sectP id bs=.ok (l,r)):∃ r0 n q,bs=id::r0∧vget0 r0=.ok (n,q)∧4≤q.length∧n+4≤q.length∧crcOk (bs.take (bs.length - q.length+n+4))=true∧l=q.take n∧r=q.drop (n+4):=by
 unfold sectP at h;cases bs with
 | nil=>simp at h
 | cons x r0 =>
  dsimp only at h;split at h
  ·cases h
  ·rename_i hx
   have hx:x=id:=Classical.not_not.1 hx;subst hx;cases hv:vget0 r0 with
   | error k=>rw [hv] at h;cases h
   | ok p =>
    obtain ⟨n,q⟩:=p;rw [hv,xb_ok] at h;dsimp only at h;split at h
    ·cases h
    ·split at h
     ·rename_i h1 h2
      injection h with h
      injection h with e1 e2
      exact ⟨r0,n,q,rfl,hv,by omega,by omega,h2,e1.symm,e2.symm⟩
     ·cases h
theorem take_ext {α:Type} {bs:List α} (e:List α) {k:Nat} (h:k≤bs.length):(bs++e).take k=bs.take k:=by
 rw [List.take_append_of_le_length h]
theorem sect_ext (id:Nat):PExt (sectP id):=by
 refine ⟨fun {bs l r} h e=>?_,fun {bs k} h hk e=>?_,fun {bs k} h=>?_,fun {bs l r} h=>?_⟩
 ·obtain ⟨r0,n,q,rfl,hv,h1,h2,h3,rfl,rfl⟩:=sectP_ok h;have hv2:=vget_ext.ok hv e;obtain ⟨u,hu⟩:=vget_ext.sfx hv;have hl:=congrArg List.length hu;rw [List.length_append] at hl;unfold sectP;rw [List.cons_append];dsimp only;rw [if_neg (by simp),hv2,xb_ok];dsimp only;rw [List.length_append,if_neg (by omega),← List.cons_append,List.length_append,show (id::r0).length+e.length - (q.length+e.length)=(id::r0).length - q.length by omega,
   take_ext e (by rw [List.length_cons];omega),h3,if_pos rfl,List.take_append_of_le_length (by omega),List.drop_append_of_le_length (by omega)]
 ·unfold sectP at h ⊢;cases bs with
  | nil=>simp at h;omega
  | cons x r0 =>
   rw [List.cons_append];dsimp only at h ⊢;by_cases hx:x≠id
   ·rw [if_pos hx] at h ⊢;exact h
   ·rw [if_neg hx] at h ⊢;cases hv:vget0 r0 with
    | error j =>
     rw [hv,xb_er] at h;injection h with h
     subst h;rw [vget_ext.er hv hk e,xb_er]
    | ok p =>
     obtain ⟨n,q⟩:=p;obtain ⟨u,hu⟩:=vget_ext.sfx hv;have hl:=congrArg List.length hu;rw [List.length_append] at hl;rw [hv,xb_ok] at h;rw [vget_ext.ok hv e,xb_ok];dsimp only at h ⊢;split at h
     ·injection h with h;omega
     ·rename_i h1
      split at h
      ·cases h
      ·rename_i h2
       rw [List.length_append,if_neg (by omega),← List.cons_append,List.length_append,show (x::r0).length+e.length - (q.length+e.length)=(x::r0).length - q.length by omega,
        take_ext e (by rw [List.length_cons];omega),if_neg h2]
       exact h
 ·unfold sectP at h;cases bs with
  | nil=>simp at h;omega
  | cons x r0 =>
   dsimp only at h;split at h
   ·simp at h;omega
   ·cases hv:vget0 r0 with
    | error j =>
     rw [hv,xb_er] at h;injection h with h
     subst h;exact vget_ext.nz hv
    | ok p =>
     rw [hv,xb_ok] at h;split at h
     ·simp at h;omega
     ·split at h
      ·cases h
      ·simp at h;omega
 ·obtain ⟨r0,n,q,rfl,hv,h1,h2,h3,rfl,rfl⟩:=sectP_ok h;obtain ⟨u,hu⟩:=vget_ext.sfx hv;exact ⟨id::u++q.take (n+4),by rw [List.append_assoc,List.take_append_drop,List.cons_append,← hu]⟩
theorem sectP_inv {id:Nat} {bs l r:List Nat} (hb:∀ x∈bs,x < 256) (h:sectP id bs=.ok (l,r)):bs=frame id l++r∧(∀ x∈l,x < 256)∧(∀ x∈r,x < 256)∧l.length < 18446744073709551616:=by
 obtain ⟨r0,n,q,rfl,hv,h1,h2,h3,rfl,rfl⟩:=sectP_ok h;obtain ⟨e1,hn⟩:=varget_inv (fun x hx=>hb x (List.mem_cons_of_mem _ hx)) hv;subst e1;have hq:∀ x∈q,x < 256:=fun x hx=>hb x (List.mem_cons_of_mem _ (List.mem_append.2 (.inr hx)))
 refine ⟨?_,fun x hx=>hq x (List.mem_of_mem_take hx),fun x hx=>hq x (List.mem_of_mem_drop hx),by rw [List.length_take];omega⟩;rw [show (id::(vint n++q)).length - q.length+n+4=(id::(vint n++q.take (n+4))).length by simp only [List.length_cons,List.length_append,List.length_take];omega] at h3;have e2:id::(vint n++q)=(id::(vint n++q.take (n+4)))++q.drop (n+4):=by rw [List.cons_append,List.append_assoc,List.take_append_drop]
 conv at h3=>rw [e2,List.take_left]
 conv=>lhs;rw [e2]
 congr 1
 unfold crcOk at h3;rw [decide_eq_true_eq] at h3;rw [h3.2];unfold frame lenB;congr 1
 have hk:(id::(vint n++q.take (n+4))).length - 4=(id::(vint n++q.take n)).length:=by simp only [List.length_cons,List.length_append,List.length_take];omega
 have e3:q.take (n+4)=q.take n++(q.drop n).take 4:=by rw [← List.take_add]
 have e4:id::(vint n++(q.take n++(q.drop n).take 4))=(id::(vint n++q.take n))++(q.drop n).take 4:=by simp
 rw [hk,e3,e4,List.take_left,List.length_take,Nat.min_eq_left (by omega)]
theorem litP_put (s r:List Nat):litP s (s++r)=.ok r:=by
 unfold litP;rw [List.take_left,List.take_of_length_le (by simp),if_neg (by simp),if_neg (by simp),List.drop_left]
theorem litP_ok {s bs r:List Nat} (h:litP s bs=.ok r):bs=s++r:=by
 unfold litP at h;split at h
 ·cases h
 ·rename_i h1
  split at h
  ·cases h
  ·rename_i h2
   injection h with h
   have h1:=Classical.not_not.1 h1;rw [List.take_of_length_le (show s.length≤bs.length by omega)] at h1;rw [← h,← h1,List.length_take,Nat.min_eq_left (by omega),List.take_append_drop]
theorem litP_ext (s:List Nat):(∀ {bs r},litP s bs=.ok r→∀ e,litP s (bs++e)=.ok (r++e))∧(∀ {bs k},litP s bs=.error k→k≠3→∀ e,litP s (bs++e)=.error k)∧(∀ {bs k},litP s bs=.error k→k=3∨k=10):=by
 refine ⟨fun {bs r} h e=>?_,fun {bs k} h hk e=>?_,fun {bs k} h=>?_⟩
 ·have:=litP_ok h;rw [this,List.append_assoc,litP_put]
 ·unfold litP at h ⊢;split at h
  ·rename_i h1
   rw [if_pos]
   ·exact h
   ·intro h2;apply h1
    have:=congrArg (List.take bs.length) h2;rw [List.take_take,List.take_take,List.length_append] at this;rw [show min bs.length (bs.length+e.length)=bs.length by omega] at this;rw [← this,Nat.min_comm,← List.take_take,List.take_left]
  ·split at h
   ·injection h with h;omega
   ·cases h
 ·unfold litP at h;split at h
  ·injection h with h;omega
  ·split at h
   ·injection h with h;omega
   ·cases h
end
section
theorem xb_inv {α β:Type} {x:Except Nat α} {f:α→Except Nat β} {b:β} (h:xb x f=.ok b):∃ a,x=.ok a∧f a=.ok b:=by
 cases x with
 | error k=>cases h
 | ok a=>exact ⟨a,rfl,h⟩
theorem xb_err {α β:Type} {x:Except Nat α} {f:α→Except Nat β} {k:Nat} (h:xb x f=.error k):x=.error k∨∃ a,x=.ok a∧f a=.error k:=by
 cases x with
 | error j=>exact .inl (by injection h with h;rw [h])
 | ok a=>exact .inr ⟨a,rfl,h⟩
theorem endP_ext {bs r:List Nat} {s:Secs} (hr:r.length≤bs.length) {k:Nat} (h:endP bs s r=.error k) (hk:k≠3) (e:List Nat):endP (bs++e) s (r++e)=.error k:=by
 unfold endP at h ⊢;split at h
 ·injection h with h;omega
 ·rename_i h1
  rw [if_neg (by rw [List.length_append];omega),List.length_append,List.length_append,show bs.length+e.length - (r.length+e.length)=bs.length - r.length by omega,take_ext e (by omega)];split at h
  ·rename_i h2
   rw [if_pos h2];exact h
  ·rename_i h2
   rw [if_neg h2,List.drop_append_of_le_length (by omega)];rcases xb_err h with h | ⟨a,h3,h⟩
   ·rw [(litP_ext _).2.1 h hk e];rfl
   ·rw [(litP_ext _).1 h3 e,xb_ok];split at h
    ·cases h
    ·rename_i h4
     rw [if_neg (by simp [h4])];exact h
theorem endP_more {bs r:List Nat} {s t:Secs} (hr:r.length≤bs.length) (h:endP bs s r=.ok t) (e:List Nat) (he:e≠[]):endP (bs++e) s (r++e)=.error 4:=by
 unfold endP at h ⊢;split at h
 ·cases h
 ·rename_i h1
  rw [if_neg (by rw [List.length_append];omega),List.length_append,List.length_append,show bs.length+e.length - (r.length+e.length)=bs.length - r.length by omega,take_ext e (by omega)];split at h
  ·cases h
  ·rename_i h2
   rw [if_neg h2,List.drop_append_of_le_length (by omega)];obtain ⟨a,h3,h⟩:=xb_inv h;rw [(litP_ext _).1 h3 e,xb_ok];rw [if_neg (by simp [he])]
theorem parseP_ext {bs:List Nat} (e:List Nat) (he:e≠[]):(∀ {s},parseP bs=.ok s→parseP (bs++e)=.error 4)∧(∀ {k},parseP bs=.error k→k≠3→parseP (bs++e)=.error k):=by
 have sub:∀ {a b:Nat},a+e.length - (b+e.length)=a - b:=fun {a b}=>by omega
 have suf:∀ {id:Nat} {bs l r:List Nat},sectP id bs=.ok (l,r)→r.length≤bs.length:=fun {id bs l r} h=>by
  obtain ⟨u,hu⟩:=(sect_ext id).sfx h;rw [hu,List.length_append];omega
 constructor
 ·intro s h;unfold parseP at h ⊢;obtain ⟨r0,h0,h⟩:=xb_inv h;obtain ⟨⟨l0,r1⟩,h1,h⟩:=xb_inv h;obtain ⟨⟨l1,r2⟩,h2,h⟩:=xb_inv h;obtain ⟨⟨l2,r3⟩,h3,h⟩:=xb_inv h;obtain ⟨⟨l3,r4⟩,h4,h⟩:=xb_inv h;obtain ⟨⟨c,r5⟩,h5,h⟩:=xb_inv h;dsimp only at h h1 h2 h3 h4 h5;have k0:=congrArg List.length (litP_ok h0);rw [List.length_append] at k0;have k1:=suf h1;have k2:=suf h2;have k3:=suf h3;have k4:=suf h4;have k5:=suf h5;rw [(litP_ext _).1 h0 e,xb_ok,(sect_ext 1).ok h1 e,xb_ok];dsimp only;rw [(sect_ext 2).ok h2 e,xb_ok];dsimp only;rw [(sect_ext 3).ok h3 e,xb_ok];dsimp only;rw [(sect_ext 4).ok h4 e,xb_ok];dsimp only;rw [(sect_ext 5).ok h5 e,xb_ok];dsimp only;simp only [List.length_append,sub];split at h
  ·rename_i hc
   rw [if_pos hc];exact endP_more (by omega) h e he
  ·cases h
 ·intro k h hk;unfold parseP at h ⊢;rcases xb_err h with h | ⟨r0,h0,h⟩
  ·rw [(litP_ext _).2.1 h hk e];rfl
  rw [(litP_ext _).1 h0 e,xb_ok];rcases xb_err h with h | ⟨⟨l0,r1⟩,h1,h⟩
  ·rw [(sect_ext 1).er h hk e];rfl
  rw [(sect_ext 1).ok h1 e,xb_ok];rcases xb_err h with h | ⟨⟨l1,r2⟩,h2,h⟩
  ·dsimp only at h ⊢;rw [(sect_ext 2).er h hk e];rfl
  dsimp only at h2 ⊢;rw [(sect_ext 2).ok h2 e,xb_ok];rcases xb_err h with h | ⟨⟨l2,r3⟩,h3,h⟩
  ·dsimp only at h ⊢;rw [(sect_ext 3).er h hk e];rfl
  dsimp only at h3 ⊢;rw [(sect_ext 3).ok h3 e,xb_ok];rcases xb_err h with h | ⟨⟨l3,r4⟩,h4,h⟩
  ·dsimp only at h ⊢;rw [(sect_ext 4).er h hk e];rfl
  dsimp only at h4 ⊢;rw [(sect_ext 4).ok h4 e,xb_ok];rcases xb_err h with h | ⟨⟨c,r5⟩,h5,h⟩
  ·dsimp only at h ⊢;rw [(sect_ext 5).er h hk e];rfl
  dsimp only at h5 h ⊢;rw [(sect_ext 5).ok h5 e,xb_ok];dsimp only;have k0:=congrArg List.length (litP_ok h0);rw [List.length_append] at k0;have k1:=suf h1;have k2:=suf h2;have k3:=suf h3;have k4:=suf h4;have k5:=suf h5;simp only [List.length_append,sub];split at h
  ·rename_i hc
   rw [if_pos hc];exact endP_ext (by omega) h hk e
  ·rename_i hc
   rw [if_neg hc];exact h
theorem parseP_nz {bs:List Nat} {k:Nat} (h:parseP bs=.error k):k≠0:=by
 unfold parseP at h;rcases xb_err h with h | ⟨r0,_,h⟩
 ·have:=(litP_ext _).2.2 h;omega
 rcases xb_err h with h | ⟨p1,_,h⟩
 ·exact (sect_ext _).nz h
 rcases xb_err h with h | ⟨p2,_,h⟩
 ·exact (sect_ext _).nz h
 rcases xb_err h with h | ⟨p3,_,h⟩
 ·exact (sect_ext _).nz h
 rcases xb_err h with h | ⟨p4,_,h⟩
 ·exact (sect_ext _).nz h
 rcases xb_err h with h | ⟨p5,_,h⟩
 ·exact (sect_ext _).nz h
 split at h
 ·unfold endP at h;split at h
  ·injection h with h;omega
  ·split at h
   ·injection h with h;omega
   ·rcases xb_err h with h | ⟨_,_,h⟩
    ·have:=(litP_ext _).2.2 h;omega
    ·split at h
     ·cases h
     ·injection h with h;omega
 ·injection h with h;omega
def certP (bs:List Nat):Nat :=
 match parseP bs with
 | .ok _=>0
 | .error k=>if k=3 then 0 else k
theorem certP_stays {bs:List Nat} (h:certP bs≠0) (e:List Nat):certP (bs++e)=certP bs:=by
 by_cases he:e=[]
 ·rw [he,List.append_nil]
 unfold certP at h ⊢;cases hp:parseP bs with
 | ok s=>rw [hp] at h;exact (h rfl).elim
 | error k =>
  rw [hp] at h;dsimp only at h;have hk:k≠3:=fun e=>h (by rw [if_pos e])
  rw [(parseP_ext e he).2 hp hk]
end
section
open Go Go.RowKit Go.Lib
theorem crcOk_four (m:List Nat) (y0 y1 y2 y3:Nat):crcOk (m++[y0,y1,y2,y3])=decide (y0=crc m % 256∧y1=crc m / 256 % 256∧y2=crc m / 65536 % 256∧y3=crc m / 16777216 % 256):=by
 unfold crcOk;have h:(m++[y0,y1,y2,y3]).length=m.length+4:=by simp
 rw [h,show m.length+4 - 4=m.length by omega,List.take_left];unfold addCrc sum4;congr 1
 apply propext
 constructor
 ·rintro ⟨_,h⟩;have h:=List.append_cancel_left h;simp only [List.cons.injEq,and_true] at h;exact h
 ·rintro ⟨h0,h1,h2,h3⟩;exact ⟨by omega,by rw [h0,h1,h2,h3]⟩
theorem four_split {l:List Nat} (h:4≤l.length):∃ m y0 y1 y2 y3,l=m++[y0,y1,y2,y3]:=by
 have e:=List.take_append_drop (l.length - 4) l;have hd:(l.drop (l.length - 4)).length=4:=by rw [List.length_drop];omega
 match hq:l.drop (l.length - 4),hd with
 | [a,b,c,d],_=>exact ⟨_,a,b,c,d,by rw [← hq,e]⟩
set_option maxRecDepth 100000 in
set_option maxHeartbeats 1000000 in
theorem WCheck_any (w:World) (b:Nat) (A:Option Addr) (n c:Nat) (l:List Nat) (hn:n=l.length) (hnc:n≤c) (hm:n≤1000000000) (hr:Rd w b A (cN .u8 l)) (hl:∀ x∈l,x < 256) (hG:Gl w) :
  Calls Tryz.prog 173 #[.slice A n c] w fun e w'=>e=.returned (.bool (crcOk l))∧w=w':=by
 by_cases h4:l.length < 4
 ·have h4I:(n:Int) < 4:=by omega
  have hk:crcOk l=false:=by
   unfold crcOk;rw [decide_eq_false_iff_not];exact fun h=>by omega
  rw [hk];clear hr hl hG hn hk h4;go_enter Tryz.func173,Tryz.ntmps173
  go_wp2_with fail;go_ret;exact ⟨rfl,rfl⟩
 ·obtain ⟨m,y0,y1,y2,y3,hl4⟩:=four_split (l:=l) (by omega);have hm4:n=m.length+4:=by rw [hn,hl4];simp
  subst hl4;have hb:∀ x∈m,x < 256:=fun x hx=>hl x (List.mem_append.2 (.inl hx))
  have HS:=hid (Sum_any w b A m.length c m rfl (by omega) (by
   have:=hr.take m.length;rw [show (cN .u8 (m++[y0,y1,y2,y3])).take m.length=cN .u8 m by
    unfold cN;rw [← List.map_take,List.take_left]] at this
   exact this) hb hG)
  rw [crcOk_four];obtain ⟨off,rfl,_,_⟩:=hr.get (k:=m.length) (by simp);have cell:∀ (k y:Nat),([y0,y1,y2,y3]:List Nat)[k]? = some y→w.cell? ⟨b,off+m.length+k,none⟩=some (.int .u8 (y:Int)):=fun k y h=>by
   have hlt:k < 4:=(List.getElem?_eq_some_iff.1 h).1;obtain ⟨o',e',_,hc⟩:=hr.get (k:=m.length+k) (by simp;omega);injection e' with e'
   injection e' with _ e'
   subst e';rw [Nat.add_assoc,hc];unfold cN;rw [List.getElem_map];have:(m++[y0,y1,y2,y3])[m.length+k]'(by simp;omega)=y:=by
    rw [List.getElem_append_right (by omega)];have h2:=(List.getElem?_eq_some_iff.1 h).2;simpa using h2
   rw [this]
  have c0:w.cell? ⟨b,off+m.length,none⟩=some (.int .u8 (y0:Int)):=cell 0 y0 rfl;have c1:=cell 1 y1 rfl;have c2:=cell 2 y2 rfl;have c3:=cell 3 y3 rfl;have hC:=crc_lt m;obtain ⟨L,hL⟩:∃ L,m.length=L:=⟨_,rfl⟩;obtain ⟨C,hC2⟩:∃ C,crc m=C:=⟨_,rfl⟩;rw [hL] at HS c0 c1 c2 c3 hm4;rw [hC2] at HS hC ⊢;have e0:IntKind.u8.wrap (C:Int)=((C % 256:Nat):Int):=by rw [IntKind.wrap_u8];omega
  have e1:IntKind.u8.wrap ((C:Int) / 256)=((C / 256 % 256:Nat):Int):=by rw [IntKind.wrap_u8];omega
  have e2:IntKind.u8.wrap ((C:Int) / 65536)=((C / 65536 % 256:Nat):Int):=by rw [IntKind.wrap_u8];omega
  have e3:IntKind.u8.wrap ((C:Int) / 16777216)=((C / 16777216 % 256:Nat):Int):=by rw [IntKind.wrap_u8];omega
  have hnI:(n:Int) - 4=(L:Int):=by omega
  have hn4:¬ (n:Int) < 4:=by omega
  have hn4':¬ (L:Int) < 0:=by omega
  have hcL:¬ c=L:=by omega
  have hnL:n - L=4:=by omega
  have hnLI:(n:Int) - (L:Int)=4:=by omega
  have HB:=hid (And.intro hl (And.intro hr (And.intro hG (And.intro hn (And.intro hm4 (And.intro hL hC2))))));clear hl hr hG hn hL hC2 cell hb h4 hm4;go_enter Tryz.func173,Tryz.ntmps173
  go_wp2_with fail;refine HS.out.mono ?_;rintro e w2 ⟨rfl,rfl⟩;go_wp2_with fail;refine wp_loop_rounds 5 ?_;have HD:=hid (show ∀ q:Prop,[Decidable q]→¬ q→Ending.returned (.bool false)=.returned (.bool (decide q)) from fun q _ h=>by rw [decide_eq_false h]);rw [rounds_succ];by_cases q0:y0=C % 256
  case neg =>
   have t0:((y0:Int) != (C:Int) % 256)=true:=by rw [bne_iff_ne];omega
   have Q:=hid q0;clear q0;go_wp2_with fail;go_ret;exact ⟨HD.out _ fun h=>Q.out (h.1),rfl⟩
  have t0:((y0:Int) != (C:Int) % 256)=false:=by rw [bne_eq_false_iff_eq];omega
  have Q0:=hid q0;clear q0;go_wp2_with fail;rw [rounds_succ];by_cases q1:y1=C / 256 % 256
  case neg =>
   have t1:((y1:Int) != (C:Int) / 256 % 256)=true:=by rw [bne_iff_ne];omega
   have Q:=hid q1;clear q1;go_wp2_with fail;go_ret;exact ⟨HD.out _ fun h=>Q.out (h.2.1),rfl⟩
  have t1:((y1:Int) != (C:Int) / 256 % 256)=false:=by rw [bne_eq_false_iff_eq];omega
  have Q1:=hid q1;clear q1;go_wp2_with fail;rw [rounds_succ];by_cases q2:y2=C / 65536 % 256
  case neg =>
   have t2:((y2:Int) != (C:Int) / 65536 % 256)=true:=by rw [bne_iff_ne];omega
   have Q:=hid q2;clear q2;go_wp2_with fail;go_ret;exact ⟨HD.out _ fun h=>Q.out (h.2.2.1),rfl⟩
  have t2:((y2:Int) != (C:Int) / 65536 % 256)=false:=by rw [bne_eq_false_iff_eq];omega
  have Q2:=hid q2;clear q2;go_wp2_with fail;rw [rounds_succ];by_cases q3:y3=C / 16777216 % 256
  case neg =>
   have t3:((y3:Int) != (C:Int) / 16777216 % 256)=true:=by rw [bne_iff_ne];omega
   have Q:=hid q3;clear q3;go_wp2_with fail;go_ret;exact ⟨HD.out _ fun h=>Q.out (h.2.2.2),rfl⟩
  have t3:((y3:Int) != (C:Int) / 16777216 % 256)=false:=by rw [bne_eq_false_iff_eq];omega
  have Q3:=hid q3;clear q3;go_wp2_with fail;rw [rounds_succ];go_wp2_with fail;go_ret;exact ⟨by rw [decide_eq_true ⟨Q0.out,Q1.out,Q2.out,Q3.out⟩];rfl,rfl⟩
end
section
open Go Go.RowKit
theorem ret_bool {a b:Bool} (h:a=b):Ending.returned (.bool a)=.returned (.bool b):=by rw [h]
end
section
open Go Go.RowKit
theorem E_u64:ElemT Tryz.prog 224 97 (.int .u64 0) 1 8:=ElemT.mk' Tryz.underlying224 (by kernel_rfl) (by kernel_rfl) (by omega)
theorem oc_N (k:IntKind) (xs:List Nat):∀ u∈cN k xs,u.oneCell'=true:=by
 intro u hu;obtain ⟨x,_,rfl⟩:=List.mem_map.1 hu;rfl
theorem CloneB_any (w:World) (b:Nat) (A:Option Addr) (n c:Nat) (xs:List Nat) (hn:n=xs.length) (hm:n≤140737488355328) (hr:Rd w b A (cN .u8 xs)) (hA:A=none→c=0) :
  Calls Tryz.prog 174 #[.slice A n c] w fun e w'=>∃ b' A' c',e=.returned (.slice A' n c')∧Ow w' b' 5 1 A' n c' (cN .u8 xs)∧w.heap.size≤b'∧Nw w w':=by
 subst hn;cases A with
 | none =>
  obtain rfl:xs=[]:=by
   rcases hr with h | ⟨o,h,_⟩
   ·simpa using h
   ·cases h
  obtain rfl:=hA rfl;have hnil:=fun W=>Lib.run_eql_slice_nil (P:=Tryz.prog) W 22 5 none 0 0 0 0 Tryz.underlying22
  go_enter Tryz.func174,Tryz.ntmps174
  go_wp2;go_ret;exact ⟨w.heap.size,none,0,rfl,Ow.nil _ _ _ _,Nat.le_refl _,Nw.refl w⟩
 | some ad =>
  have hnil:=fun W=>Lib.run_eql_slice_nil (P:=Tryz.prog) W 22 5 (some ad) xs.length c 0 0 Tryz.underlying22
  go_enter Tryz.func174,Tryz.ntmps174
  go_wp2_with (at_builtin;refine wpList_app E_u8 rfl (.tmp 5) (.tmp 6) rfl rfl (Ow.empty w _ _) rfl (hr.nw (Nw.alloc' (Nw.refl w) _)) (by simp) (by intro h;cases h) (oc_N _ _) (by simp only [maxLen];omega) (by omega) ?_;intro b' A' c' w' h1 h2 h3 _)
  go_ret;refine ⟨b',A',c',by simp,by simpa using h1,?_,Kp.nw (Nw.alloc' (Nw.refl w) _) h3 (by simp) (by simp)⟩;have:=(Nw.alloc' (Nw.refl w) (.cells #[] 5)).size;rcases h2 with h2 | h2<;>omega
end
section
open Go Go.RowKit
section
variable {α:Type} (xs ys:List α) (k:Nat)
end
theorem bytesIn_of {w:World} {b:Nat} {A:Option Addr} {xs:List Nat} (h:Rd w b A (cN .u8 xs)):Lib.BytesIn w A xs.length (xs.map fun x:Nat=>(x:Int)):=by
 intro h0;obtain ⟨o,rfl,hlt,_⟩:=h.get (k:=0) (by simpa using h0);refine ⟨b,o,rfl,fun i hi=>?_⟩;obtain ⟨o',had,_,hc⟩:=h.get (k:=i) (by simpa using hi);obtain rfl:o=o':=by simpa using had
 rw [hc,List.getElem_map];simp [List.getD,hi]
theorem bytesOf_inj (xs:List Nat):∀ (ys:List Nat),(∀ x∈xs,x < 256)→(∀ y∈ys,y < 256) →
  (Lib.bytesOf (xs.map fun x:Nat=>(x:Int)) == Lib.bytesOf (ys.map fun x:Nat=>(x:Int)))=decide (xs=ys):=by
 induction xs with
 | nil=>intro ys _ _;cases ys<;>simp [Lib.bytesOf]
 | cons a l ih =>
  intro ys hx hy;cases ys with
  | nil=>simp [Lib.bytesOf]
  | cons a' l' =>
   have h1:a < 256:=hx a (by simp);have h2:a' < 256:=hy a' (by simp);have:=ih l' (fun x h=>hx x (by simp [h])) (fun x h=>hy x (by simp [h]));have e:(UInt8.ofNat a == UInt8.ofNat a')=decide (a=a'):=by
    rw [Bool.eq_iff_iff];simp only [beq_iff_eq,decide_eq_true_eq];constructor
    ·intro h;have:=congrArg UInt8.toNat h;simp [UInt8.toNat_ofNat'] at this;omega
    ·rintro rfl;rfl
   simp only [Lib.bytesOf,List.map_cons,List.map_map,Int.toNat_natCast,List.cons_beq_cons,e] at this ⊢;rw [this];simp
theorem bytesEqual_any (w:World) (b b':Nat) (A A':Option Addr) (n c n' c':Nat) (xs ys:List Nat) (hn:n=xs.length) (hn':n'=ys.length)
  (hr:Rd w b A (cN .u8 xs)) (hr':Rd w b' A' (cN .u8 ys)) (hx:∀ x∈xs,x < 256) (hy:∀ y∈ys,y < 256) :
  Calls Tryz.prog 40 #[.slice A n c,.slice A' n' c'] w fun e w'=>e=.returned (.bool (decide (xs=ys)))∧w=w':=by
 refine (Tryz.bytes_Equal_all A A' n c n' c' (xs.map fun x:Nat=>(x:Int)) (ys.map fun x:Nat=>(x:Int)) w (by simp [hn]) (by simp [hn']) (by rw [hn];exact bytesIn_of hr) (by rw [hn'];exact bytesIn_of hr')).mono ?_;rintro e w' ⟨rfl,rfl⟩;exact ⟨ret_bool (bytesOf_inj xs ys hx hy),rfl⟩
end
section
open Go Go.RowKit Go.Lib Go.Sort Go.Shelf
def RSt (W:World) (g:Nat) (A:Option Addr) (n c at_ err:Nat):Prop :=
 W.heap[g]? = some (.cells #[.slice A n c,.int .i64 (at_:Int),.int .i64 (err:Int)] 89 (0,0))
theorem RSt.nw {W W':World} {g n c at_ err:Nat} {A:Option Addr} (h:RSt W g A n c at_ err) (hN:Nw W W'):RSt W' g A n c at_ err:=(hN.block _ (lt_of_block h)).trans h
theorem RSt.c0 {W:World} {g n c at_ err:Nat} {A:Option Addr} (h:RSt W g A n c at_ err):W.cell? ⟨g,0,none⟩=some (.slice A n c):=cell_at (k:=0) h
theorem RSt.c1 {W:World} {g n c at_ err:Nat} {A:Option Addr} (h:RSt W g A n c at_ err):W.cell? ⟨g,1,none⟩=some (.int .i64 (at_:Int)):=cell_at (k:=1) h
theorem RSt.c2 {W:World} {g n c at_ err:Nat} {A:Option Addr} (h:RSt W g A n c at_ err):W.cell? ⟨g,2,none⟩=some (.int .i64 (err:Int)):=cell_at (k:=2) h
theorem RSt.s1 {W:World} {g n c at_ err:Nat} {A:Option Addr} (h:RSt W g A n c at_ err) (x:Nat):RSt (W.setCell ⟨g,1,none⟩ (.int .i64 (x:Int))) g A n c x err:=by
 have:=set_at (k:=1) (.int .i64 (x:Int)) h;unfold RSt;simpa using this
theorem RSt.s2 {W:World} {g n c at_ err:Nat} {A:Option Addr} (h:RSt W g A n c at_ err) (x:Nat):RSt (W.setCell ⟨g,2,none⟩ (.int .i64 (x:Int))) g A n c at_ x:=by
 have:=set_at (k:=2) (.int .i64 (x:Int)) h;unfold RSt;simpa using this
theorem RSt.free {W:World} {g n c at_ err:Nat} {A:Option Addr} (h:RSt W g A n c at_ err) (k:Nat):W.frozen? ⟨g,k,none⟩=false:=by simp [World.frozen?,show W.heap[g]? = _ from h]
theorem Fail_any (w:World) (g n c at_ err E:Nat) (A:Option Addr) (h:RSt w g A n c at_ err) :
  Calls Tryz.prog 84 #[.pointer (some ⟨g,0,none⟩),.int .i64 (E:Int)] w fun e w'=>e=.returned (.tuple #[])∧RSt w' g A n c at_ (if err=0 then E else err)∧Kp g g w w':=by
 have c2:=h.c2;have f2:=h.free 2;have HR:=hid h;clear h;go_enter Tryz.func84,Tryz.ntmps84
 by_cases h0:err=0
 ·subst h0;go_wp2_with fail;go_end0
  exact ⟨rfl,HR.out.s2 E,(Kp.refl g g w).setCell' (.inl rfl) _⟩
 ·have hE:((err:Int) == 0)=false:=by rw [beq_eq_false_iff_ne];omega
  go_wp2_with fail;go_end0
  exact ⟨rfl,HR.out,Kp.refl g g w⟩
def uintP (most:Nat) (bs:List Nat):Except Nat (Nat × List Nat) :=
 match vget0 bs with
 | .ok (x,r)=>if most < x then .error 7 else .ok (x,r)
 | .error k=>.error k
theorem vgetA_len:∀ (l:List Nat) (i acc x:Nat) (r:List Nat),vgetA i acc l=.ok (x,r)→r.length < l.length
 | [],i,acc,x,r,h=>by unfold vgetA at h;cases h
 | y::l,i,acc,x,r,h=>by
  unfold vgetA at h;split at h
  ·cases h
  ·split at h
   ·cases h
   ·split at h
    ·injection h with h
     injection h with h1 h2
     rw [← h2,List.length_cons];omega
    ·have:=vgetA_len l _ _ x r h;rw [List.length_cons];omega
end
section
open Go Go.RowKit Go.Lib
theorem drop_sfx {xs r:List Nat} {k v:Nat} (h:vget0 (xs.drop k)=.ok (v,r)):r=xs.drop (xs.length - r.length)∧k+r.length < xs.length∧k≤xs.length:=by
 obtain ⟨u,hu⟩:=vget_ext.sfx h;have h1:=vgetA_len _ _ _ _ _ h;have h2:=congrArg List.length hu;rw [List.length_drop] at h1 h2;rw [List.length_append] at h2;refine ⟨?_,by omega,by omega⟩;have h3:=congrArg (List.drop u.length) hu;rw [List.drop_left,List.drop_drop,show k+u.length=xs.length - r.length by omega] at h3;exact h3.symm
theorem cell_lt {w:World} {b k:Nat} {v:Value} (h:w.cell? ⟨b,k,none⟩=some v):b < w.heap.size:=by
 by_cases hb:b < w.heap.size
 ·exact hb
 ·simp [World.cell?,Array.getElem?_eq_none (Nat.le_of_not_lt hb)] at h
theorem cell_keep {w w':World} {b k:Nat} {v:Value} (hN:Nw w w') (h:w.cell? ⟨b,k,none⟩=some v):w'.cell? ⟨b,k,none⟩=some v:=cell_old hN (cell_lt h) h
def SectR (w:World) (n:Nat) (X:Except Nat (List Nat × List Nat)) (e:Ending) (w':World):Prop :=
 match X with
 | .ok (l,r)=>∃ b' A' c',e=.returned (.tuple #[.slice A' l.length c',.int .i64 ((n - r.length:Nat):Int),.int .i64 0])∧Ow w' b' 5 1 A' l.length c' (cN .u8 l)∧w.heap.size≤b'∧Nw w w'
 | .error k=>(∃ v u,e=.returned (.tuple #[v,u,.int .i64 (k:Int)]))∧Nw w w'
theorem SectR.er {w w':World} {n k:Nat} {v u:Value} {X:Except Nat (List Nat × List Nat)} (hX:X=.error k) (hN:Nw w w'):SectR w n X (.returned (.tuple #[v,u,.int .i64 (k:Int)])) w':=by
 subst hX;exact ⟨⟨_,_,rfl⟩,hN⟩
set_option maxRecDepth 100000 in
set_option maxHeartbeats 1000000 in
theorem Sect1_any (w:World) (g p1 p2 b n c at_ id:Nat) (A:Option Addr) (xs:List Nat) (h:WSt w g A n c at_ 0) (h1:w.cell? ⟨p1,0,none⟩=some (.pointer (some ⟨g,0,none⟩))) (h2:w.cell? ⟨p2,0,none⟩=some (.int .u8 (id:Int)))
  (hn:n=xs.length) (hnc:n≤c) (hm:n≤1000000000) (hr:Rd w b A (cN .u8 xs)) (hx:∀ x∈xs,x < 256) (hat:at_≤n) (hG:Gl w) :
  Calls Tryz.prog 239 #[.int .i64 (at_:Int),.pointer (some ⟨p1,0,none⟩),.pointer (some ⟨p2,0,none⟩)] w (SectR w n (sectP id (xs.drop at_))):=by
 obtain ⟨X,hX⟩:∃ X,sectP id (xs.drop at_)=X:=⟨_,rfl⟩;have HX:=hid hX;rw [hX];have HL:=hid fun (W:World) (hN:Nw w W) (p:Nat) (hp:p≤n)=>Wleft_any W g n c at_ 0 p A (h.nw hN) hp hm
 have HH:=hid h;have HR:=hid hr;have HB:=hid hx;have HG:=hid hG;have HN:=hid hn;have H1:=hid fun (W:World) (hN:Nw w W)=>cell_keep hN h1
 have H2:=hid fun (W:World) (hN:Nw w W)=>cell_keep hN h2
 clear hX hr hx hG;by_cases ha:at_=n
 ·have hl0:n - at_=0:=by omega
  have hXe:X=.error 3:=by
   rw [← HX.out,List.drop_of_length_le (by omega)];rfl
  have HL1:=HL.out w (Nw.refl w) at_ (by omega);rw [hl0] at HL1;have HL1:=hid HL1;have HXe:=hid hXe;clear ha hl0 hXe hn h h2;go_enter Tryz.func239,Tryz.ntmps239
  go_wp2_with fail;refine HL1.out.mono ?_;rintro e w2 ⟨rfl,rfl⟩;go_wp2_with fail
  go_ret3
  exact SectR.er HXe.out (Nw.refl _)
 ·have hlt:at_ < xs.length:=by omega
  obtain ⟨o,rfl,_,hc⟩:=HR.out.get (k:=at_) (by simpa using hlt);unfold cN at hc;rw [List.getElem_map] at hc;have hd:=HX.out;rw [List.drop_eq_getElem_cons hlt] at hd;have hbt:=HB.out xs[at_] (List.getElem_mem hlt);have HCo:=hid (List.drop_eq_getElem_cons hlt).symm;generalize xs[at_]=y at *;have HL1:=hid (HL.out w (Nw.refl w) at_ (by omega));obtain ⟨L,hL⟩:∃ L,n - at_=L:=⟨_,rfl⟩;rw [hL] at HL1;have hL1:¬ (L:Int) < 1:=by omega
  have c0:=h.c0;have hatI:(at_:Int) < (n:Int):=by omega
  by_cases hy:y=id
  case neg =>
   have hyb:((y:Int) != (id:Int))=true:=by rw [bne_iff_ne];omega
   have hXe:X=.error 11:=by
    rw [← hd];unfold sectP;dsimp only;rw [if_pos hy]
   have HXe:=hid hXe;clear ha hXe hn h hd hy hL hlt;go_enter Tryz.func239,Tryz.ntmps239
   go_wp2_with fail;refine HL1.out.mono ?_;rintro e w2 ⟨rfl,rfl⟩;go_wp2_with fail;go_quiet (fail)
   go_wp2_with fail
   go_ret3
   exact SectR.er HXe.out (Nw.drewN _ _)
  have hyb:((y:Int) != (id:Int))=false:=by rw [bne_eq_false_iff_eq];omega
  have hd2:xb (vget0 (xs.drop (at_+1))) (fun p=>if p.2.length < 4∨p.2.length - 4 < p.1 then .error 3 else if crcOk ((y::xs.drop (at_+1)).take ((y::xs.drop (at_+1)).length - p.2.length+p.1+4)) then .ok (p.2.take p.1,p.2.drop (p.1+4)) else .error 12)=X:=by
   rw [← hd];unfold sectP;dsimp only;rw [if_neg (by simp [hy])]
  have hby:∀ x∈xs.drop (at_+1),x < 256:=fun x hx=>HB.out x (List.mem_of_mem_drop hx)
  have HV:=hid fun (W:World) (hN:Nw w W)=>VGet_any W b (some ⟨b,o,none⟩) n c xs HN.out hnc hm (HR.out.nw hN) HB.out (at_+1) (by omega)
  have hat1:(at_:Int)+1=((at_+1:Nat):Int):=by omega
  cases hv:vget0 (xs.drop (at_+1)) with
  | error k =>
   rw [hv,xb_er] at hd2;have HXe:=hid hd2.symm;have hk:=vget_ext.nz hv;have hk2:((k:Int) != 0)=true:=by rw [bne_iff_ne];omega
   rw [hv] at HV;have HV:=hid fun (W:World) (hN:Nw w W)=>show Calls Tryz.prog 104 #[.slice (some ⟨b,o,none⟩) n c,.int .i64 ((at_+1:Nat):Int)] W fun e w'=>e=.returned (.tuple #[.int .u64 0,.int .i64 0,.int .i64 (k:Int)])∧W=w' from HV.out W hN
   obtain ⟨J,hJ⟩:∃ J,at_+1=J:=⟨_,rfl⟩;rw [hJ] at HV hat1;clear ha hn hd hd2 hy hL hlt hv hk hby hJ;go_enter Tryz.func239,Tryz.ntmps239
   go_wp2_with fail;refine HL1.out.mono ?_;rintro e w2 ⟨rfl,rfl⟩;go_wp2_with fail;go_quiet (fail)
   have hN1:=Nw.drewN w nq;have HN1:=hid hN1;have c01:=(HH.out.nw hN1).c0;have c11:=H1.out _ hN1;clear hN1 h c0 h1 h2 hc;generalize World.drewN w nq=w1 at *;go_wp2_with fail;refine (HV.out _ HN1.out).mono ?_;rintro e w2 ⟨rfl,rfl⟩;go_wp2_with fail
   go_ret3
   exact SectR.er HXe.out HN1.out
  | ok q =>
   obtain ⟨v,r⟩:=q;obtain ⟨hr1,hr2,_⟩:=drop_sfx hv;rw [hv,xb_ok] at hd2;dsimp only at hd2;rw [HCo.out] at hd2;obtain ⟨F,hF⟩:∃ F,n - r.length=F:=⟨_,rfl⟩;have hFle:F≤n:=by omega
   have hvl:v < 18446744073709551616:=(varget_inv hby hv).2;have HV:=hid fun (W:World) (hN:Nw w W)=>show Calls Tryz.prog 104 #[.slice (some ⟨b,o,none⟩) n c,.int .i64 ((at_+1:Nat):Int)] W fun e w'=>e=.returned (.tuple #[.int .u64 (v:Int),.int .i64 (F:Int),.int .i64 0])∧W=w' from (HV.out W hN).mono fun e w' h=>⟨by rw [h.1,hv,← hF];rfl,h.2⟩
   have hLF:n - F=r.length:=by omega
   have HL2:=hid fun (W:World) (hN:Nw w W)=>HL.out W hN F hFle
   rw [hLF] at HL2;obtain ⟨J,hJ⟩:∃ J,at_+1=J:=⟨_,rfl⟩;rw [hJ] at HV hat1;have HD2:=hid hd2;have HF:=hid (And.intro hF (And.intro hr1 (And.intro hr2 hJ)));have hrl:r.length≤1000000000:=by omega
   have HBr:Hid (∀ x∈r,x < 256):=hid fun x hx=>HB.out x (by rw [hr1] at hx;exact List.mem_of_mem_drop hx)
   by_cases h4:r.length < 4
   case pos =>
    have h4I:(r.length:Int) < 4:=by omega
    have h4I':(r.length:Int) - 4 < 0:=by omega
    have HXe:=hid (show X=.error 3 by rw [← HD2.out,if_pos (.inl h4)]);clear ha hn hd hd2 hy hL hlt hv hby hJ hF hr1 hr2 hLF h4 hvl;go_enter Tryz.func239,Tryz.ntmps239
    go_wp2_with fail;refine HL1.out.mono ?_;rintro e w2 ⟨rfl,rfl⟩;go_wp2_with fail;go_quiet (fail)
    have hN1:=Nw.drewN w nq;have HN1:=hid hN1;have c01:=(HH.out.nw hN1).c0;have c11:=H1.out _ hN1;clear hN1 h c0 h1 h2 hc;generalize World.drewN w nq=w1 at *;go_wp2_with fail;refine (HV.out _ HN1.out).mono ?_;rintro e w2 ⟨rfl,rfl⟩;go_wp2_with fail;refine (HL2.out _ HN1.out).mono ?_;rintro e w2 ⟨rfl,rfl⟩;go_wp2_with fail
    go_ret3
    exact SectR.er HXe.out HN1.out
   obtain ⟨Q,hQ⟩:∃ Q,r.length - 4=Q:=⟨_,rfl⟩;have hQI:(r.length:Int) - 4=(Q:Int):=by omega
   have hQ0:¬ (Q:Int) < 0:=by omega
   have HQb:=hid (show 0≤(Q:Int)∧(Q:Int)≤18446744073709551615 by omega);by_cases h5:Q < v
   case pos =>
    have h5I:(Q:Int) < (v:Int):=by omega
    have HXe:=hid (show X=.error 3 by rw [← HD2.out,if_pos (.inr (by omega))]);clear ha hn hd hd2 hy hL hlt hv hby hJ hF hr1 hr2 hLF h4 hvl hQ h5;have hQw:IntKind.u64.wrap (Q:Int)=(Q:Int):=IntWalk.u64_in _ HQb.out;go_enter Tryz.func239,Tryz.ntmps239
    go_wp2_with fail;refine HL1.out.mono ?_;rintro e w2 ⟨rfl,rfl⟩;go_wp2_with fail;go_quiet (fail)
    have hN1:=Nw.drewN w nq;have HN1:=hid hN1;have c01:=(HH.out.nw hN1).c0;have c11:=H1.out _ hN1;clear hN1 h c0 h1 h2 hc;generalize World.drewN w nq=w1 at *;go_wp2_with fail;refine (HV.out _ HN1.out).mono ?_;rintro e w2 ⟨rfl,rfl⟩;go_wp2_with fail;refine (HL2.out _ HN1.out).mono ?_;rintro e w2 ⟨rfl,rfl⟩;go_wp2_with fail
    go_ret3
    exact SectR.er HXe.out HN1.out
   have h5I:¬ (Q:Int) < (v:Int):=by omega
   have HVb:=hid (show -9223372036854775808≤(v:Int)∧(v:Int)≤9223372036854775807 by omega);obtain ⟨T,hT⟩:∃ T,F+v=T:=⟨_,rfl⟩;have hTI:(F:Int)+(v:Int)=(T:Int):=by omega
   obtain ⟨T4,hT4⟩:∃ T4,T+4=T4:=⟨_,rfl⟩;have hT4I:(T:Int)+4=(T4:Int):=by omega
   obtain ⟨M,hM⟩:∃ M,T4 - at_=M:=⟨_,rfl⟩;have hMI:(T4:Int) - (at_:Int)=(M:Int):=by omega
   have hMl:M≤xs.length - at_:=by omega
   have hTF:T - F=v:=by omega
   have hTFI:(T:Int) - (F:Int)=(v:Int):=by omega
   have hca:¬ c=at_:=by omega
   have hcF:¬ c=F:=by omega
   have ha1:at_≤T4:=by omega
   have ha2:T4≤c:=by omega
   have ha3:F≤T:=by omega
   have ha4:T≤c:=by omega
   have HR1:=hid fun (W:World) (hN:Nw w W)=>((HR.out.nw hN).cut (k:=at_) (cap:=c) (size:=1) (by simp;omega)).take M
   have HR2:=hid fun (W:World) (hN:Nw w W)=>((HR.out.nw hN).cut (k:=F) (cap:=c) (size:=1) (by simp;omega)).take v
   rw [if_neg hca] at HR1;rw [if_neg hcF] at HR2;simp only [Option.map_some,add_lit',Nat.mul_one] at HR1 HR2;have hl1:((xs.drop at_).take M).length=M:=by rw [List.length_take,List.length_drop];omega
   have hl2:((xs.drop F).take v).length=v:=by rw [List.length_take,List.length_drop];omega
   have HCk:=hid fun (W:World) (hN:Nw w W)=>WCheck_any W b (some ⟨b,o+at_,none⟩) M (c - at_) ((xs.drop at_).take M) hl1.symm (by omega) (by omega) (by
    have:=HR1.out W hN;unfold cN at this ⊢;rw [List.map_take,List.map_drop];exact this) (fun x hx=>HB.out x (List.mem_of_mem_drop (List.mem_of_mem_take hx))) (HG.out.nw hN)
   have HCl:=hid fun (W:World) (hN:Nw w W)=>CloneB_any W b (some ⟨b,o+F,none⟩) v (c - F) ((xs.drop F).take v) hl2.symm (by omega) (by
    have:=HR2.out W hN;unfold cN at this ⊢;rw [List.map_take,List.map_drop];exact this) (fun e=>by cases e)
   have hXe:X=if crcOk ((xs.drop at_).take M) then .ok ((xs.drop F).take v,r.drop (v+4)) else .error 12:=by
    rw [← HD2.out,if_neg (by omega),List.length_drop,show xs.length - at_ - r.length+v+4=M by omega];rw [show (xs.drop F).take v=r.take v by rw [show xs.drop F=r by rw [← hF,HN.out];exact hr1.symm]]
   have HXe:=hid hXe;have HTo:Hid (n - (r.drop (v+4)).length=T4):=hid (by rw [List.length_drop];omega);have HL22:=hid hl2;generalize (xs.drop at_).take M=ck at *;generalize (xs.drop F).take v=ld at *;clear ha hn hd hd2 hy hL hlt hv hby hJ hF hr1 hr2 hLF h4 hvl hQ h5 hXe HR1 HR2 hl1 hl2;obtain ⟨k,hk⟩:∃ k,crcOk ck=k:=⟨_,rfl⟩;rw [hk] at HCk HXe;clear hk;have hvb:(v:Int)≤9223372036854775807:=HVb.out.2;go_enter Tryz.func239,Tryz.ntmps239
   go_wp2_with fail;refine HL1.out.mono ?_;rintro e w2 ⟨rfl,rfl⟩;go_wp2_with fail;go_quiet (fail)
   have hN1:=Nw.drewN w nq;have HN1:=hid hN1;have c01:=(HH.out.nw hN1).c0;have c11:=H1.out _ hN1;clear hN1 h c0 h1 h2 hc;generalize World.drewN w nq=w1 at *;go_wp2_with fail;refine (HV.out _ HN1.out).mono ?_;rintro e w2 ⟨rfl,rfl⟩;go_wp2_with fail;refine (HL2.out _ HN1.out).mono ?_;rintro e w2 ⟨rfl,rfl⟩;clear hT hT4;go_wp2_with fail;refine (HCk.out _ HN1.out).mono ?_;rintro e w2 ⟨rfl,rfl⟩;cases k
   ·go_wp2_with fail
    go_ret3
    exact SectR.er (by rw [HXe.out];rfl) HN1.out
   ·go_wp2_with fail;refine (HCl.out _ HN1.out).mono ?_;rintro e w2 ⟨b',A',c',rfl,hO,hb',hN2⟩;have HO:=hid hO;have HN2:=hid hN2;clear hO hN2;go_wp2_with fail
    go_ret3
    rw [HXe.out];refine ⟨b',A',c',?_,?_,?_,?_⟩
    ·rw [HTo.out,HL22.out];rfl
    ·rw [HL22.out];exact HO.out
    ·exact Nat.le_trans HN1.out.size hb'
    ·exact HN1.out.trans HN2.out
end
section
open Go Go.RowKit Go.Lib
def UintR (w:World) (n:Nat) (X:Except Nat (Nat × List Nat)) (e:Ending) (w':World):Prop :=
 match X with
 | .ok (v,r)=>e=.returned (.tuple #[.int .u64 (v:Int),.int .i64 ((n - r.length:Nat):Int),.int .i64 0])∧w=w'
 | .error k=>(∃ v u,e=.returned (.tuple #[v,u,.int .i64 (k:Int)]))∧w=w'
set_option maxRecDepth 100000 in
theorem Uint1_any (w:World) (g p1 p2 b n c at_ most:Nat) (A:Option Addr) (xs:List Nat) (h:WSt w g A n c at_ 0) (h1:w.cell? ⟨p1,0,none⟩=some (.pointer (some ⟨g,0,none⟩))) (h2:w.cell? ⟨p2,0,none⟩=some (.int .u64 (most:Int)))
  (hn:n=xs.length) (hnc:n≤c) (hm:n≤1000000000) (hr:Rd w b A (cN .u8 xs)) (hx:∀ x∈xs,x < 256) (hat:at_≤n) :
  Calls Tryz.prog 250 #[.int .i64 (at_:Int),.pointer (some ⟨p1,0,none⟩),.pointer (some ⟨p2,0,none⟩)] w (UintR w n (uintP most (xs.drop at_))):=by
 have HV:=VGet_any w b A n c xs hn hnc hm hr hx at_ hat;have c0:=h.c0;unfold uintP;cases hv:vget0 (xs.drop at_) with
 | error k =>
  have hk:=vget_ext.nz hv;have hk1:((k:Int) == 0)=false:=by rw [beq_eq_false_iff_ne];omega
  rw [hv] at HV;have HV:=hid (show Calls Tryz.prog 104 #[.slice A n c,.int .i64 (at_:Int)] w fun e w'=>e=.returned (.tuple #[.int .u64 0,.int .i64 0,.int .i64 (k:Int)])∧w=w' from HV);clear h hn hr hx hv hk;go_enter Tryz.func250,Tryz.ntmps250
  go_wp2_with fail;refine HV.out.mono ?_;rintro e w2 ⟨rfl,rfl⟩;go_wp2_with fail
  go_ret3
  exact ⟨⟨_,_,rfl⟩,rfl⟩
 | ok q =>
  obtain ⟨v,r⟩:=q;dsimp only;obtain ⟨F,hF⟩:∃ F,n - r.length=F:=⟨_,rfl⟩;rw [hv] at HV;have HV:=hid (show Calls Tryz.prog 104 #[.slice A n c,.int .i64 (at_:Int)] w fun e w'=>e=.returned (.tuple #[.int .u64 (v:Int),.int .i64 (F:Int),.int .i64 0])∧w=w' from HV.mono fun e w' h=>⟨by rw [h.1,← hF];rfl,h.2⟩);have HF:=hid hF;by_cases hlt:most < v
  ·have hltI:(most:Int) < (v:Int):=by omega
   rw [if_pos hlt];clear h hn hr hx hv hF hlt;go_enter Tryz.func250,Tryz.ntmps250
   go_wp2_with fail;refine HV.out.mono ?_;rintro e w2 ⟨rfl,rfl⟩;go_wp2_with fail
   go_ret3
   exact ⟨⟨_,_,rfl⟩,rfl⟩
  ·have hltI:¬ (most:Int) < (v:Int):=by omega
   rw [if_neg hlt];clear h hn hr hx hv hF hlt;go_enter Tryz.func250,Tryz.ntmps250
   go_wp2_with fail;refine HV.out.mono ?_;rintro e w2 ⟨rfl,rfl⟩;go_wp2_with fail
   go_ret3
   exact ⟨by rw [HF.out];rfl,rfl⟩
def takeP (k:Nat) (bs:List Nat):Except Nat (List Nat × List Nat):=if bs.length < k then .error 3 else .ok (bs.take k,bs.drop k)
set_option maxRecDepth 100000 in
theorem Take1_any (w:World) (g p1 p2 b n c at_ k:Nat) (A:Option Addr) (xs:List Nat) (h:WSt w g A n c at_ 0) (h1:w.cell? ⟨p1,0,none⟩=some (.int .i64 (k:Int))) (h2:w.cell? ⟨p2,0,none⟩=some (.pointer (some ⟨g,0,none⟩)))
  (hn:n=xs.length) (hnc:n≤c) (hm:n≤1000000000) (hr:Rd w b A (cN .u8 xs)) (hat:at_≤n) (hk:k≤1000000000) (hkp:0 < k) :
  Calls Tryz.prog 240 #[.int .i64 (at_:Int),.pointer (some ⟨p1,0,none⟩),.pointer (some ⟨p2,0,none⟩)] w (SectR w n (takeP k (xs.drop at_))):=by
 have HL:=hid fun (W:World) (hN:Nw w W)=>Wleft_any W g n c at_ 0 at_ A (h.nw hN) hat hm
 have HH:=hid h;have H1:=hid fun (W:World) (hN:Nw w W)=>cell_keep hN h1
 have H2:=hid fun (W:World) (hN:Nw w W)=>cell_keep hN h2
 have hk0:¬ (k:Int) < 0:=by omega
 obtain ⟨L,hL⟩:∃ L,n - at_=L:=⟨_,rfl⟩;rw [hL] at HL;by_cases hlt:L < k
 ·have hltI:(L:Int) < (k:Int):=by omega
  have HX:=hid (show takeP k (xs.drop at_)=.error 3 by unfold takeP;rw [if_pos (by rw [List.length_drop];omega)]);generalize takeP k (xs.drop at_)=X at *;clear h hn hr hlt hL;go_enter Tryz.func240,Tryz.ntmps240
  go_wp2_with fail;go_quiet ((go_at_call 177;exact Calls.quiet_of_same ((HL.out _ (Nw.drewN _ _)).mono fun _ _ h=>⟨h.1,h.2.symm⟩)))
  go_wp2_with fail
  go_ret3
  exact SectR.er HX.out (Nw.drewN _ _)
 ·have hltI:¬ (L:Int) < (k:Int):=by omega
  obtain ⟨o,rfl,-,-⟩:=hr.get (k:=at_) (by simp;omega);have hca:¬ c=at_:=by omega
  obtain ⟨T,hT⟩:∃ T,at_+k=T:=⟨_,rfl⟩;have hTI:(at_:Int)+(k:Int)=(T:Int):=by omega
  have hTk:T - at_=k:=by omega
  have hTkI:(T:Int) - (at_:Int)=(k:Int):=by omega
  have ha1:at_≤T:=by omega
  have ha2:T≤c:=by omega
  have haI1:(at_:Int)≤(T:Int):=by omega
  have haI2:(T:Int)≤(c:Int):=by omega
  have haI3:(0:Int)≤(at_:Int):=by omega
  have haI4:(0:Int)≤(T:Int):=by omega
  have HWb:=hid (show -9223372036854775808≤(at_:Int)+(k:Int)∧(at_:Int)+(k:Int)≤9223372036854775807 by omega);have hl2:((xs.drop at_).take k).length=k:=by rw [List.length_take,List.length_drop];omega
  have HCl:=hid fun (W:World) (hN:Nw w W)=>CloneB_any W b (some ⟨b,o+at_,none⟩) k (c - at_) ((xs.drop at_).take k) hl2.symm (by omega) (by
   have:=((hr.nw hN).cut (k:=at_) (cap:=c) (size:=1) (by simp;omega)).take k;rw [if_neg hca] at this;simp only [Option.map_some,add_lit',Nat.mul_one] at this;unfold cN at this ⊢;rw [List.map_take,List.map_drop];exact this) (fun e=>by cases e)
  have HX:=hid (show takeP k (xs.drop at_)=.ok ((xs.drop at_).take k,xs.drop T) by unfold takeP;rw [if_neg (by rw [List.length_drop];omega),List.drop_drop,hT]);have HTo:Hid (n - (xs.drop T).length=T):=hid (by rw [List.length_drop];omega);have HL2:=hid hl2;generalize takeP k (xs.drop at_)=X at *;generalize (xs.drop at_).take k=ld at *;have c0:=h.c0;have HTT:=hid hT;clear h hn hr hlt hL hl2 hT;go_enter Tryz.func240,Tryz.ntmps240
  go_wp2_with fail;go_quiet ((go_at_call 177;exact Calls.quiet_of_same ((HL.out _ (Nw.drewN _ _)).mono fun _ _ h=>⟨h.1,h.2.symm⟩)))
  have hN1:=Nw.drewN w nq;have HN1:=hid hN1;have HH1:=hid (HH.out.nw hN1);have HP1:=hid (H1.out _ hN1);have HP2:=hid (H2.out _ hN1);clear hN1 h1 h2 c0;generalize World.drewN w nq=w1 at *;have c0:=HH1.out.c0;have h1:=HP1.out;have h2:=HP2.out;go_wp2_with fail;have H0:Hid (∀ W,Nw w1 W→W.cell? ⟨p1,0,none⟩=some (.int .i64 (k:Int))∧W.cell? ⟨p2,0,none⟩=some (.pointer (some ⟨g,0,none⟩))∧W.cell? ⟨g,0,none⟩=some (.slice (some ⟨b,o,none⟩) n c)):=hid fun W hN=>⟨cell_keep hN HP1.out,cell_keep hN HP2.out,(HH1.out.nw hN).c0⟩
  have E0:Hid ((w1.cell? ⟨p1,0,none⟩=some (.int .i64 (k:Int))∧w1.cell? ⟨p2,0,none⟩=some (.pointer (some ⟨g,0,none⟩))∧w1.cell? ⟨g,0,none⟩=some (.slice (some ⟨b,o,none⟩) n c))∧Nw w1 w1):=hid ⟨⟨h1,h2,c0⟩,Nw.refl w1⟩;have A1:Hid (∀ W,((W.cell? ⟨p1,0,none⟩=some (.int .i64 (k:Int))∧W.cell? ⟨p2,0,none⟩=some (.pointer (some ⟨g,0,none⟩))∧W.cell? ⟨g,0,none⟩=some (.slice (some ⟨b,o,none⟩) n c))∧Nw w1 W)→Calls Tryz.prog 174 #[.slice (some ⟨b,o+at_,none⟩) k (c - at_)] W fun e w'=>∃ b' A' c',e=.returned (.slice A' k c')∧Hid (Ow w' b' 5 1 A' k c' (cN .u8 ld)∧w1.heap.size≤b')∧((w'.cell? ⟨p1,0,none⟩=some (.int .i64 (k:Int))∧w'.cell? ⟨p2,0,none⟩=some (.pointer (some ⟨g,0,none⟩))∧w'.cell? ⟨g,0,none⟩=some (.slice (some ⟨b,o,none⟩) n c))∧Nw w1 w')):=hid fun W hS =>
   (HCl.out W (HN1.out.trans hS.2)).mono fun e w' ⟨b',A',c',h1,h2,h3,h4⟩=>⟨b',A',c',h1,hid ⟨h2,Nat.le_trans hS.2.size h3⟩,H0.out _ (hS.2.trans h4),hS.2.trans h4⟩
  have hWr:IntKind.i64.wrap ((at_:Int)+(k:Int))=(T:Int):=(IntWalk.i64_in _ HWb.out).trans hTI;have hWr2:IntKind.i64.wrap (T:Int)=(T:Int):=IntWalk.i64_in _ (by have:=HWb.out;rw [hTI] at this;exact this);go_region_held3 (fun w'=>(w'.cell? ⟨p1,0,none⟩=some (.int .i64 (k:Int))∧w'.cell? ⟨p2,0,none⟩=some (.pointer (some ⟨g,0,none⟩))∧w'.cell? ⟨g,0,none⟩=some (.slice (some ⟨b,o,none⟩) n c))∧Nw w1 w')
   (first | exact ⟨H0.out _ (Nw.drewN w1 1),Nw.drewN w1 1⟩ | exact E0.out | assumption)
   (first
    | (go_at_call 174;refine (A1.out _ (by assumption)).mono ?_;rintro e w5 ⟨b',A',c',rfl,HO,hS⟩))
  all_goals
   have hH:=hS.2;clear hWr hWr2;go_wp2_with fail
   go_ret3
   rw [HX.out];refine ⟨b',A',c',?_,?_,Nat.le_trans HN1.out.size HO.out.2,HN1.out.trans hH⟩
   ·rw [HTo.out,HL2.out];rfl
   ·rw [HL2.out];exact HO.out.1
end
section
open Go Go.RowKit Go.Lib
def WTookB (w W':World) (g:Nat) (A:Option Addr) (n c:Nat) (x:Except Nat (List Nat × List Nat)) (e:Ending):Prop :=
 match x with
 | .ok (l,r)=>(∃ b' A' c',e=.returned (.slice A' l.length c')∧Ow W' b' 5 1 A' l.length c' (cN .u8 l)∧w.heap.size≤b')∧WSt W' g A n c (n - r.length) 0
 | .error k=>e=.returned (.slice none 0 0)∧k≠0∧∃ at_,at_≤n∧WSt W' g A n c at_ k
theorem takeP_nz {m k:Nat} {bs:List Nat} (h:takeP m bs=.error k):k≠0:=by
 unfold takeP at h;split at h
 ·injection h with h;omega
 ·cases h
set_option maxRecDepth 100000 in
theorem WTake_any (w:World) (g b n c at_ err m:Nat) (A:Option Addr) (xs:List Nat) (h:WSt w g A n c at_ err)
  (hn:n=xs.length) (hnc:n≤c) (hm:n≤1000000000) (hr:Rd w b A (cN .u8 xs)) (hat:at_≤n) (hk0:m≤1000000000) (hkp:err=0→0 < m) :
  Calls Tryz.prog 172 #[.pointer (some ⟨g,0,none⟩),.int .i64 (m:Int)] w fun e w'=>WTookB w w' g A n c (if err=0 then takeP m (xs.drop at_) else .error err) e∧Kp g g w w':=by
 have hmf:∀ (fn:Fn) (first cap:Array Value) (w:World),(Instr.makeFunc fn first cap).run Tryz.prog w=.ok (.func fn first cap) w:=fun _ _ _ _=>rfl
 have hN:Nw w ((w.alloc (.cells #[.pointer (some ⟨g,0,none⟩)] 182)).alloc (.cells #[.int .i64 (m:Int)] 3)):=((Nw.refl w).alloc' _).alloc' _;have hs:=h.nw hN;have k1:((w.alloc (.cells #[.pointer (some ⟨g,0,none⟩)] 182)).alloc (.cells #[.int .i64 (m:Int)] 3)).cell? ⟨w.heap.size,0,none⟩=some (.pointer (some ⟨g,0,none⟩)):=by
  have:((w.alloc (.cells #[.pointer (some ⟨g,0,none⟩)] 182)).alloc (.cells #[.int .i64 (m:Int)] 3)).heap[w.heap.size]? = some (.cells #[.pointer (some ⟨g,0,none⟩)] 182):=(heap_alloc_old _ _ (by simp)).trans (heap_alloc_new w _);exact cell_at (k:=0) this
 have k2:((w.alloc (.cells #[.pointer (some ⟨g,0,none⟩)] 182)).alloc (.cells #[.int .i64 (m:Int)] 3)).cell? ⟨w.heap.size+1,0,none⟩=some (.int .i64 (m:Int)):=by
  have:((w.alloc (.cells #[.pointer (some ⟨g,0,none⟩)] 182)).alloc (.cells #[.int .i64 (m:Int)] 3)).heap[w.heap.size+1]? = some (.cells #[.int .i64 (m:Int)] 3):=by have:=heap_alloc_new (w.alloc (.cells #[.pointer (some ⟨g,0,none⟩)] 182)) (.cells #[.int .i64 (m:Int)] 3);simpa using this
  exact cell_at (k:=0) this
 have ent:∀ args W,(callFunc 240 args).run Tryz.prog W=.ok (.enter 240 args) W:=enters_of Tryz.func240 (by kernel_rfl) rfl;by_cases h0:err=0
 ·subst h0;have hC:=Take1_any _ g (w.heap.size+1) w.heap.size b n c at_ m A xs hs k2 k1 hn hnc hm (hr.nw hN) hat hk0 (hkp rfl);rw [if_pos rfl];generalize hX:takeP m (xs.drop at_)=X at *;cases X with
  | error k =>
   have hk:=takeP_nz hX;have HR:=hid (readB_bad _ g n c at_ k A 240 (.pointer (some ⟨w.heap.size+1,0,none⟩)) (.pointer (some ⟨w.heap.size,0,none⟩)) hs hk ent (hC.mono fun e w' h=>by obtain ⟨⟨v,u,h1⟩,h2⟩:=h;exact ⟨⟨v,u,h1⟩,h2⟩));have HS:=hid hs;have HK:=hid hk;have HN:=hid hN;clear hC hX hs hN h hr hn k1 k2 ent hk;go_enter Tryz.func172,Tryz.ntmps172
   go_wp2_with fail;refine HR.out.mono ?_;rintro e w3 ⟨w1,rfl,hN3,rfl⟩;go_wp2_with fail;go_ret;exact ⟨⟨rfl,HK.out,at_,hat,(HS.out.nw hN3).s2 k⟩,((HN.out.trans hN3).kp g g).setCell' (.inl rfl) _⟩
  | ok q =>
   obtain ⟨v,r⟩:=q;obtain ⟨T,hT⟩:∃ T,n - r.length=T:=⟨_,rfl⟩;have HR:=hid (readB_ok _ g n c at_ T A 240 (.pointer (some ⟨w.heap.size+1,0,none⟩)) (.pointer (some ⟨w.heap.size,0,none⟩)) (fun v' w'=>∃ b' A' c',v'=.slice A' v.length c'∧Ow w' b' 5 1 A' v.length c' (cN .u8 v)∧w.heap.size≤b') hs ent (hC.mono fun e w' h=>by obtain ⟨b',A',c',h1,h2,h3,h4⟩:=h;exact ⟨_,by rw [h1,hT],⟨b',A',c',rfl,h2,Nat.le_trans hN.size h3⟩,h4⟩));have HS:=hid hs;have HG0:=hid h.lt;have HT:=hid hT;have HN:=hid hN;clear hC hX hs hN h hr hn k1 k2 ent hT;go_enter Tryz.func172,Tryz.ntmps172
   go_wp2_with fail;refine HR.out.mono ?_;rintro e w3 ⟨u,w1,rfl,hK,hN3,rfl⟩;have HK:=hid hK;clear hK;go_wp2_with fail;go_ret;refine ⟨?_,((HN.out.trans hN3).kp g g).setCell' (.inl rfl) _⟩;obtain ⟨b',A',c',rfl,hO,hb'⟩:=HK.out;refine ⟨⟨b',A',c',rfl,hO.kp ((Kp.refl g g w1).setCell' (.inl rfl) _) (by have:=HS.out.lt;have:=HG0.out;omega) (by have:=HG0.out;omega),hb'⟩,?_⟩;rw [HT.out];exact (HS.out.nw hN3).s1 T
 ·have HR:=hid (readB_err _ g n c at_ err A (.func (.func 240) #[] #[(.pointer (some ⟨w.heap.size+1,0,none⟩)),(.pointer (some ⟨w.heap.size,0,none⟩))]) hs h0);rw [if_neg h0];have HS:=hid hs;have HK:=hid h0;have HN:=hid hN;clear hs hN h hr hn k1 k2 ent h0;go_enter Tryz.func172,Tryz.ntmps172
  go_wp2_with fail;refine HR.out.mono ?_;rintro e w3 ⟨rfl,rfl⟩;go_wp2_with fail;go_ret;exact ⟨⟨rfl,HK.out,at_,hat,HS.out⟩,HN.out.kp g g⟩
set_option maxRecDepth 100000 in
theorem WSection_any (w:World) (g b n c at_ err id:Nat) (A:Option Addr) (xs:List Nat) (h:WSt w g A n c at_ err)
  (hn:n=xs.length) (hnc:n≤c) (hm:n≤1000000000) (hr:Rd w b A (cN .u8 xs)) (hx:∀ x∈xs,x < 256) (hat:at_≤n) (hG:Gl w) :
  Calls Tryz.prog 171 #[.pointer (some ⟨g,0,none⟩),.int .u8 (id:Int)] w fun e w'=>WTookB w w' g A n c (if err=0 then sectP id (xs.drop at_) else .error err) e∧Kp g g w w':=by
 have hmf:∀ (fn:Fn) (first cap:Array Value) (w:World),(Instr.makeFunc fn first cap).run Tryz.prog w=.ok (.func fn first cap) w:=fun _ _ _ _=>rfl
 have hN:Nw w ((w.alloc (.cells #[.pointer (some ⟨g,0,none⟩)] 182)).alloc (.cells #[.int .u8 (id:Int)] 5)):=((Nw.refl w).alloc' _).alloc' _;have hs:=h.nw hN;have k1:((w.alloc (.cells #[.pointer (some ⟨g,0,none⟩)] 182)).alloc (.cells #[.int .u8 (id:Int)] 5)).cell? ⟨w.heap.size,0,none⟩=some (.pointer (some ⟨g,0,none⟩)):=by
  have:((w.alloc (.cells #[.pointer (some ⟨g,0,none⟩)] 182)).alloc (.cells #[.int .u8 (id:Int)] 5)).heap[w.heap.size]? = some (.cells #[.pointer (some ⟨g,0,none⟩)] 182):=(heap_alloc_old _ _ (by simp)).trans (heap_alloc_new w _);exact cell_at (k:=0) this
 have k2:((w.alloc (.cells #[.pointer (some ⟨g,0,none⟩)] 182)).alloc (.cells #[.int .u8 (id:Int)] 5)).cell? ⟨w.heap.size+1,0,none⟩=some (.int .u8 (id:Int)):=by
  have:((w.alloc (.cells #[.pointer (some ⟨g,0,none⟩)] 182)).alloc (.cells #[.int .u8 (id:Int)] 5)).heap[w.heap.size+1]? = some (.cells #[.int .u8 (id:Int)] 5):=by have:=heap_alloc_new (w.alloc (.cells #[.pointer (some ⟨g,0,none⟩)] 182)) (.cells #[.int .u8 (id:Int)] 5);simpa using this
  exact cell_at (k:=0) this
 have ent:∀ args W,(callFunc 239 args).run Tryz.prog W=.ok (.enter 239 args) W:=enters_of Tryz.func239 (by kernel_rfl) rfl;by_cases h0:err=0
 ·subst h0;have hC:=Sect1_any _ g w.heap.size (w.heap.size+1) b n c at_ id A xs hs k1 k2 hn hnc hm (hr.nw hN) hx hat (hG.nw hN);rw [if_pos rfl];generalize hX:sectP id (xs.drop at_)=X at *;cases X with
  | error k =>
   have hk:=(sect_ext id).nz hX;have HR:=hid (readB_bad _ g n c at_ k A 239 (.pointer (some ⟨w.heap.size,0,none⟩)) (.pointer (some ⟨w.heap.size+1,0,none⟩)) hs hk ent (hC.mono fun e w' h=>by obtain ⟨⟨v,u,h1⟩,h2⟩:=h;exact ⟨⟨v,u,h1⟩,h2⟩));have HS:=hid hs;have HK:=hid hk;have HN:=hid hN;clear hC hX hs hN h hr hx hn k1 k2 ent hk;go_enter Tryz.func171,Tryz.ntmps171
   go_wp2_with fail;refine HR.out.mono ?_;rintro e w3 ⟨w1,rfl,hN3,rfl⟩;go_wp2_with fail;go_ret;exact ⟨⟨rfl,HK.out,at_,hat,(HS.out.nw hN3).s2 k⟩,((HN.out.trans hN3).kp g g).setCell' (.inl rfl) _⟩
  | ok q =>
   obtain ⟨v,r⟩:=q;obtain ⟨T,hT⟩:∃ T,n - r.length=T:=⟨_,rfl⟩;have HR:=hid (readB_ok _ g n c at_ T A 239 (.pointer (some ⟨w.heap.size,0,none⟩)) (.pointer (some ⟨w.heap.size+1,0,none⟩)) (fun v' w'=>∃ b' A' c',v'=.slice A' v.length c'∧Ow w' b' 5 1 A' v.length c' (cN .u8 v)∧w.heap.size≤b') hs ent (hC.mono fun e w' h=>by obtain ⟨b',A',c',h1,h2,h3,h4⟩:=h;exact ⟨_,by rw [h1,hT],⟨b',A',c',rfl,h2,Nat.le_trans hN.size h3⟩,h4⟩));have HS:=hid hs;have HG0:=hid h.lt;have HT:=hid hT;have HN:=hid hN;clear hC hX hs hN h hr hx hn k1 k2 ent hT;go_enter Tryz.func171,Tryz.ntmps171
   go_wp2_with fail;refine HR.out.mono ?_;rintro e w3 ⟨u,w1,rfl,hK,hN3,rfl⟩;have HK:=hid hK;clear hK;go_wp2_with fail;go_ret;refine ⟨?_,((HN.out.trans hN3).kp g g).setCell' (.inl rfl) _⟩;obtain ⟨b',A',c',rfl,hO,hb'⟩:=HK.out;refine ⟨⟨b',A',c',rfl,hO.kp ((Kp.refl g g w1).setCell' (.inl rfl) _) (by have:=HS.out.lt;have:=HG0.out;omega) (by have:=HG0.out;omega),hb'⟩,?_⟩;rw [HT.out];exact (HS.out.nw hN3).s1 T
 ·have HR:=hid (readB_err _ g n c at_ err A (.func (.func 239) #[] #[(.pointer (some ⟨w.heap.size,0,none⟩)),(.pointer (some ⟨w.heap.size+1,0,none⟩))]) hs h0);rw [if_neg h0];have HS:=hid hs;have HK:=hid h0;have HN:=hid hN;clear hs hN h hr hx hn k1 k2 ent h0;go_enter Tryz.func171,Tryz.ntmps171
  go_wp2_with fail;refine HR.out.mono ?_;rintro e w3 ⟨rfl,rfl⟩;go_wp2_with fail;go_ret;exact ⟨⟨rfl,HK.out,at_,hat,HS.out⟩,HN.out.kp g g⟩
end
section
open Go Go.RowKit Go.Lib
structure WIn (W:World) (g b:Nat) (A:Option Addr) (n c:Nat) (xs:List Nat):Prop where
 rd:Rd W b A (cN .u8 xs)
 ne:b≠g
 len:n=xs.length
 cap:n≤c
 small:n≤1000000000
 byte:∀ x∈xs,x < 256
theorem WIn.nw {W W':World} {g b n c:Nat} {A:Option Addr} {xs:List Nat} (h:WIn W g b A n c xs) (hN:Nw W W'):WIn W' g b A n c xs:=⟨h.rd.nw hN,h.ne,h.len,h.cap,h.small,h.byte⟩
theorem WIn.kp {W W':World} {g b n c:Nat} {A:Option Addr} {xs:List Nat} (h:WIn W g b A n c xs) (hN:Kp g g W W'):WIn W' g b A n c xs:=⟨h.rd.kp hN h.ne h.ne,h.ne,h.len,h.cap,h.small,h.byte⟩
set_option maxRecDepth 100000 in
theorem WNew_any (w:World) (b:Nat) (A:Option Addr) (n c:Nat) (xs:List Nat) (hn:n=xs.length) (hm:n≤1000000000) (hr:Rd w b A (cN .u8 xs)) (hA:A=none→c=0) (hx:∀ x∈xs,x < 256) :
  Calls Tryz.prog 105 #[.slice A n c] w fun e w'=>∃ g b' A' c',e=.returned (.pointer (some ⟨g,0,none⟩))∧WSt w' g A' n c' 0 0∧WIn w' g b' A' n c' xs∧w.heap.size≤b'∧w.heap.size≤g∧Nw w w':=by
 have HC:=hid (CloneB_any w b A n c xs hn (by omega) hr hA);have HI:=hid (And.intro hn (And.intro hm hx));clear hr hA hx hn;go_enter Tryz.func105,Tryz.ntmps105
 go_wp2_with fail;refine HC.out.mono ?_;rintro e w1 ⟨b',A',c',rfl,hO,hb',hN1⟩;have HO:=hid hO;have HN1:=hid (And.intro hb' hN1);clear hO hb' hN1;go_wp2_with fail;go_ret;obtain ⟨hb',hN1⟩:=HN1.out;obtain ⟨h1,h2,h3⟩:=HI.out;have hO:=HO.out;have hNa:Nw w1 (w1.alloc (.cells #[.slice A' n c',.int .i64 0,.int .i64 0] 271)):=(Nw.refl w1).alloc' _;have hcap:n≤c':=hO.cap.1;cases A' with
 | none =>
  have hx0:xs=[]:=by
   rcases hO with ⟨_,_,_,h⟩ | ⟨h,_⟩
   ·exact List.map_eq_nil_iff.1 h
   ·cases h
  subst hx0;exact ⟨w1.heap.size,w1.heap.size+1,none,c',rfl,heap_alloc_new w1 _,⟨Rd.nil _ _ _,by omega,h1,hcap,h2,h3⟩,by have:=hN1.size;omega,hN1.size,hN1.trans hNa⟩
 | some a =>
  have hlt:b' < w1.heap.size:=by
   rcases hO with ⟨h,_⟩ | ⟨_,h,_⟩
   ·cases h
   ·exact h
  exact ⟨w1.heap.size,b',some a,c',rfl,heap_alloc_new w1 _,⟨(hO.nw hNa).rd,by omega,h1,hcap,h2,h3⟩,hb',hN1.size,hN1.trans hNa⟩
theorem bS_eq {l:List Nat} {s:ByteArray} (hl:∀ x∈l,x < 256):((bS l).toList == s.toList)=decide (l=sB s):=by
 by_cases h:l=sB s
 ·rw [decide_eq_true h,beq_iff_eq,h];have:bS (sB s)=s:=sB_inj (sB_bS (sB_lt s));rw [this]
 ·rw [decide_eq_false h,beq_eq_false_iff_ne];intro e;apply h
  have:=bytes_ext e;rw [← this,sB_bS hl]
def LitW (w':World) (g:Nat) (A:Option Addr) (n c:Nat) (X:Except Nat (List Nat)):Prop :=
 match X with
 | .ok r=>WSt w' g A n c (n - r.length) 0
 | .error k=>∃ q,q≤n∧WSt w' g A n c q k
theorem LitW.er {w':World} {g n c q k E err:Nat} {A:Option Addr} {X:Except Nat (List Nat)} (h:WSt w' g A n c q k) (hq:q≤n) (hX:X=.error E) (hk:k=if err=0 then E else err):LitW w' g A n c (if err=0 then X else .error err):=by
 subst hX;by_cases h0:err=0
 ·rw [if_pos h0] at hk ⊢;subst hk;exact ⟨q,hq,h⟩
 ·rw [if_neg h0] at hk ⊢;subst hk;exact ⟨q,hq,h⟩
theorem Take_off {w:World} {g b n c at_ err m:Nat} {A:Option Addr} {xs:List Nat} (h:WSt w g A n c at_ err) (hI:WIn w g b A n c xs) (hat:at_≤n) (h0:err≠0) (hm:m≤1000000000) :
  Calls Tryz.prog 172 #[.pointer (some ⟨g,0,none⟩),.int .i64 (m:Int)] w fun e w'=>e=.returned (.slice none 0 0)∧(∃ q,q≤n∧WSt w' g A n c q err)∧Kp g g w w' :=
 (WTake_any w g b n c at_ err m A xs h hI.len hI.cap hI.small hI.rd hat hm (fun e=>(h0 e).elim)).mono fun e w' ⟨h1,h2⟩=>by
  rw [if_neg h0] at h1;exact ⟨h1.1,h1.2.2,h2⟩
set_option maxRecDepth 100000 in
set_option maxHeartbeats 1000000 in
theorem WLit_any (w:World) (g b n c at_ err:Nat) (A:Option Addr) (xs:List Nat) (b2:Nat) (A2:Option Addr) (n2 c2:Nat) (s:ByteArray) (ys:List Nat) (h:WSt w g A n c at_ err) (hI:WIn w g b A n c xs) (hat:at_≤n)
  (hn2:n2=ys.length) (hr2:Rd w b2 A2 (cN .u8 ys)) (hy:∀ x∈ys,x < 256) (hys:err=0→xs.drop at_=ys) (hs:s.size≤100) (hs0:0 < s.size) (hc2:n2≤c2) (hn2m:n2≤1000000000) :
  Calls Tryz.prog 169 #[.pointer (some ⟨g,0,none⟩),.slice A2 n2 c2,.string s] w fun e w'=>e=.returned (.tuple #[])∧Kp g g w w'∧LitW w' g A n c (if err=0 then litP (sB s) ys else .error err):=by
 subst hn2;have HI:=hid hI;have HH:=hid h;have HY:=hid hys;have HF:=hid fun (W:World) (hN:Nw w W) (E:Nat)=>WFail_any W g n c at_ err E A (h.nw hN)
 obtain ⟨X,hX⟩:∃ X,litP (sB s) ys=X:=⟨_,rfl⟩;rw [hX];obtain ⟨Z,hZ⟩:∃ Z,(if err=0 then X else .error err)=Z:=⟨_,rfl⟩;rw [hZ];have HZ:=hid hZ;clear hZ;have HX:=hid hX;have HSl:=hid (sB_length s);clear hX hI h hys;by_cases hl:s.size≤ys.length
 ·have hmn:min (ys.length:Int) (s.size:Int)=(s.size:Int):=by omega
  have hcv:∀ q,(convert 22 9 (.slice A2 s.size c2)).run Tryz.prog (w.drewN q)=.ok (.string (bS (ys.take s.size))) (w.drewN q):=fun q=>run_str (by rw [List.length_take];omega) (by
   have:=(hr2.drewN q).take s.size;unfold cN at this ⊢;rw [List.map_take];exact this)
  have hsI:(s.size:Int)≤(ys.length:Int):=by omega
  have hsI0:(0:Int)≤(s.size:Int):=by omega
  have hsc:(s.size:Int)≤(c2:Int):=by omega
  have hss:¬ (s.size:Int) < (s.size:Int):=by omega
  have hty:∀ x∈ys.take s.size,x < 256:=fun x hx=>hy x (List.mem_of_mem_take hx)
  by_cases he:ys.take s.size=sB s
  ·have hb:((bS (ys.take s.size)).toList == s.toList)=true:=by rw [bS_eq hty,decide_eq_true he]
   have HXo:Hid (X=.ok (ys.drop s.size)):=hid (by
    rw [← HX.out];unfold litP;rw [HSl.out,show (sB s).take ys.length=sB s from List.take_of_length_le (by rw [HSl.out];exact hl),if_neg (by simp [he]),if_neg (by omega)])
   clear hr2 he hy hty;generalize bS (ys.take s.size)=t at *;go_enter Tryz.func169,Tryz.ntmps169
   go_wp2_with fail;go_quiet (fail)
   have hN1:=Nw.drewN w nq;have HN1:=hid hN1;clear hN1 hcv;generalize World.drewN w nq=w1 at *;go_wp2_with fail;by_cases h0:err=0
   ·subst h0;have hxy:=HY.out rfl;have hlen:n - at_=ys.length:=by rw [← hxy,List.length_drop,HI.out.len]
    have HI1:=(HI.out.nw HN1.out);refine (WTake_any w1 g b n c at_ 0 s.size A xs (HH.out.nw HN1.out) HI1.len HI1.cap HI1.small HI1.rd hat (by omega) (fun _=>hs0)).mono ?_;rintro e w2 ⟨h1,h2⟩;rw [if_pos rfl,hxy] at h1;have htk:takeP s.size ys=.ok (ys.take s.size,ys.drop s.size):=by unfold takeP;rw [if_neg (by omega)]
    rw [htk] at h1;obtain ⟨⟨b',A',c',rfl,_,_⟩,hst⟩:=h1;have HS:=hid hst;have HK:=hid h2;clear h2 hst hxy htk hlen HI1;go_wp2_with fail;go_end0
    refine ⟨rfl,(HN1.out.kp g g).trans HK.out (.inl rfl) (.inl rfl),?_⟩;have hzx:Z=X:=by rw [← HZ.out];simp
    rw [hzx,HXo.out];exact HS.out
   ·refine (Take_off (HH.out.nw HN1.out) (HI.out.nw HN1.out) hat h0 (by omega)).mono ?_;rintro e w2 ⟨rfl,⟨q,hq,hst⟩,h2⟩;have HS:=hid hst;have HK:=hid h2;clear h2 hst;go_wp2_with fail;go_end0
    refine ⟨rfl,(HN1.out.kp g g).trans HK.out (.inl rfl) (.inl rfl),?_⟩;rw [← HZ.out,if_neg h0];exact ⟨q,hq,HS.out⟩
  ·have hb:((bS (ys.take s.size)).toList == s.toList)=false:=by rw [bS_eq hty,decide_eq_false he]
   have HXo:Hid (X=.error 10):=hid (by
    rw [← HX.out];unfold litP;rw [HSl.out,show (sB s).take ys.length=sB s from List.take_of_length_le (by rw [HSl.out];exact hl),if_pos he])
   clear hr2 he hy hty;generalize bS (ys.take s.size)=t at *;go_enter Tryz.func169,Tryz.ntmps169
   go_wp2_with fail;go_quiet (fail)
   have hN1:=Nw.drewN w nq;have HN1:=hid hN1;clear hN1 hcv;generalize World.drewN w nq=w1 at *;go_wp2_with fail;refine (HF.out _ HN1.out 10).mono ?_;rintro e w2 ⟨rfl,hst,hk⟩;have hne:(if err=0 then 10 else err)≠0:=by split<;>omega
   have HT:=hid (Take_off (m:=s.size) hst ((HI.out.nw HN1.out).kp hk) hat hne (by omega));have HK:=hid hk;clear hst hk hne;go_wp2_with fail;refine HT.out.mono ?_;rintro e w3 ⟨rfl,⟨q,hq,hst⟩,h2⟩;have HS:=hid hst;have HK2:=hid h2;clear h2 hst;go_wp2_with fail;go_end0
   exact ⟨rfl,((HN1.out.kp g g).trans HK.out (.inl rfl) (.inl rfl)).trans HK2.out (.inl rfl) (.inl rfl),by rw [← HZ.out];exact LitW.er HS.out hq HXo.out rfl⟩
 ·have hmn:min (ys.length:Int) (s.size:Int)=(ys.length:Int):=by omega
  have hcv:∀ q,(convert 22 9 (.slice A2 ys.length c2)).run Tryz.prog (w.drewN q)=.ok (.string (bS ys)) (w.drewN q):=fun q=>run_str rfl (hr2.drewN q)
  have hsI:(ys.length:Int)≤(s.size:Int):=by omega
  have hsI0:(0:Int)≤(ys.length:Int):=by omega
  have hsc:(ys.length:Int)≤(c2:Int):=by omega
  have hss:(ys.length:Int) < (s.size:Int):=by omega
  have hex:sB (s.extract 0 ys.length)=(sB s).take ys.length:=by
   unfold sB;rw [Lib.extract_data,← List.map_take];simp
  have hbe:((bS ys).toList == (s.extract 0 ys.length).toList)=decide (ys=(sB s).take ys.length):=by rw [bS_eq hy,hex]
  by_cases he:ys=(sB s).take ys.length
  ·have HXo:Hid (X=.error 3):=hid (by
    rw [← HX.out];unfold litP;rw [HSl.out,List.take_of_length_le (show ys.length≤s.size by omega),if_neg (by simp [← he]),if_pos (by omega)])
   rw [decide_eq_true he] at hbe;clear hr2 he hy hex;generalize bS ys=t at *;go_enter Tryz.func169,Tryz.ntmps169
   go_wp2_with fail;go_quiet (fail)
   have hN1:=Nw.drewN w nq;have HN1:=hid hN1;clear hN1 hcv;generalize World.drewN w nq=w1 at *;go_wp2_with fail;refine (HF.out _ HN1.out 3).mono ?_;rintro e w2 ⟨rfl,hst,hk⟩;have hne:(if err=0 then 3 else err)≠0:=by split<;>omega
   have HT:=hid (Take_off (m:=ys.length) hst ((HI.out.nw HN1.out).kp hk) hat hne hn2m);have HK:=hid hk;clear hst hk hne;go_wp2_with fail;refine HT.out.mono ?_;rintro e w3 ⟨rfl,⟨q,hq,hst⟩,h2⟩;have HS:=hid hst;have HK2:=hid h2;clear h2 hst;go_wp2_with fail;go_end0
   exact ⟨rfl,((HN1.out.kp g g).trans HK.out (.inl rfl) (.inl rfl)).trans HK2.out (.inl rfl) (.inl rfl),by rw [← HZ.out];exact LitW.er HS.out hq HXo.out rfl⟩
  ·have HXo:Hid (X=.error 10):=hid (by
    rw [← HX.out];unfold litP;rw [HSl.out,List.take_of_length_le (show ys.length≤s.size by omega),if_pos he])
   rw [decide_eq_false he] at hbe;clear hr2 he hy hex;generalize bS ys=t at *;go_enter Tryz.func169,Tryz.ntmps169
   go_wp2_with fail;go_quiet (fail)
   have hN1:=Nw.drewN w nq;have HN1:=hid hN1;clear hN1 hcv;generalize World.drewN w nq=w1 at *;go_wp2_with fail;refine (HF.out _ HN1.out 10).mono ?_;rintro e w2 ⟨rfl,hst,hk⟩;have hne:(if err=0 then 10 else err)≠0:=by split<;>omega
   have HT:=hid (Take_off (m:=ys.length) hst ((HI.out.nw HN1.out).kp hk) hat hne hn2m);have HK:=hid hk;clear hst hk hne;go_wp2_with fail;refine HT.out.mono ?_;rintro e w3 ⟨rfl,⟨q,hq,hst⟩,h2⟩;have HS:=hid hst;have HK2:=hid h2;clear h2 hst;go_wp2_with fail;go_end0
   exact ⟨rfl,((HN1.out.kp g g).trans HK.out (.inl rfl) (.inl rfl)).trans HK2.out (.inl rfl) (.inl rfl),by rw [← HZ.out];exact LitW.er HS.out hq HXo.out rfl⟩
end
section
def finP (bs:List Nat) (acc:List (List Nat × Nat)) (r:List Nat):Except Nat Secs :=
 match acc with
 | [a,b,c,d,e]=>if e.1=toc a.2 b.2 c.2 d.2 then endP bs (a.1,b.1,c.1,d.1) r else .error 13
 | _=>.error 13
def restP (bs:List Nat):Nat→List (List Nat × Nat)→List Nat→Except Nat Secs
 | 0,acc,r=>finP bs acc r
 | k+1,acc,r=>xb (sectP (5 - k) r) fun p=>restP bs k (acc++[(p.1,bs.length - r.length)]) p.2
theorem parseP_rest (bs:List Nat):parseP bs=xb (litP hd0 bs) fun r=>restP bs 5 [] r:=rfl
def cntS:Nat→List Nat→Nat
 | 0,_=>0
 | k+1,r =>
  match sectP (5 - k) r with
  | .ok p=>1+cntS k p.2
  | .error _=>0
def partsP (bs:List Nat):Nat :=
 match parseP bs with
 | .ok _=>7
 | .error k =>
  if k=4 then 7
  else match litP hd0 bs with
  | .error _=>0
  | .ok r=>if cntS 5 r=5∧k=13 then 5 else 1+cntS 5 r
def endQ (p:Nat) (b:List Nat) (at_:Nat):Option Nat :=
 if p=0 then (if at_+5≤b.length then some (at_+5) else none)
 else if p≤5 then
  (if b.length≤at_ then none else
   match vget0 (b.drop (at_+1)) with
   | .error _=>none
   | .ok (n,r)=>if r.length < 4∨r.length - 4 < n then none else some (b.length - r.length+n+4))
 else if p=6 then (if at_+8≤b.length then some (at_+8) else none)
 else none
def Prs (p:Nat) (u:List Nat):Prop :=
 if p=0 then u=[]
 else if p≤5 then ∃ acc,∀ e,(∃ r,litP hd0 (u++e)=.ok r∧cntS 5 r=p - 1+cntS (6 - p) e)∧parseP (u++e)=restP (u++e) (6 - p) acc e
 else if p=6 then ∃ s,∀ e,(∃ r,litP hd0 (u++e)=.ok r∧cntS 5 r=5)∧parseP (u++e)=endP (u++e) s e
 else ∃ s,parseP u=.ok s
theorem cntS_le:∀ (k:Nat) (r:List Nat),cntS k r≤k
 | 0,_=>Nat.le_refl _
 | k+1,r=>by
  rw [cntS];split
  ·have:=cntS_le k ‹List Nat × List Nat›.2;omega
  ·omega
theorem vget_codes:∀ (l:List Nat) (i acc k:Nat),vgetA i acc l=.error k→k=3∨k=5∨k=6
 | [],i,acc,k,h=>by unfold vgetA at h;injection h with h;omega
 | y::l,i,acc,k,h=>by
  unfold vgetA at h;split at h
  ·injection h with h;omega
  ·split at h
   ·injection h with h;omega
   ·split at h
    ·cases h
    ·exact vget_codes l _ _ k h
theorem sect_codes {id k:Nat} {r:List Nat} (h:sectP id r=.error k):k=3∨k=5∨k=6∨k=11∨k=12:=by
 unfold sectP at h;cases r with
 | nil=>injection h with h;omega
 | cons x r0 =>
  dsimp only at h;split at h
  ·injection h with h;omega
  ·rcases xb_err h with h | ⟨q,_,h⟩
   ·have:=vget_codes r0 0 0 k h;omega
   ·split at h
    ·injection h with h;omega
    ·split at h
     ·cases h
     ·injection h with h;omega
theorem cntS_succ_ok {k:Nat} {r l q:List Nat} (h:sectP (5 - k) r=.ok (l,q)):cntS (k+1) r=1+cntS k q:=by rw [cntS,h]
theorem cntS_succ_er {k j:Nat} {r:List Nat} (h:sectP (5 - k) r=.error j):cntS (k+1) r=0:=by rw [cntS,h]
theorem sectP_nil (id:Nat):sectP id []=.error 3:=rfl
theorem partsP_of {bs r:List Nat} {k:Nat} (h:parseP bs=.error k) (hk:k≠4) (h1:litP hd0 bs=.ok r):partsP bs=if cntS 5 r=5∧k=13 then 5 else 1+cntS 5 r:=by
 unfold partsP;rw [h];dsimp only;rw [if_neg hk,h1]
theorem certP_er {bs:List Nat} {k:Nat} (h:parseP bs=.error k):certP bs=if k=3 then 0 else k:=by unfold certP;rw [h]
theorem certP_ok {bs:List Nat} {s:Secs} (h:parseP bs=.ok s):certP bs=0:=by unfold certP;rw [h]
theorem parse_same {bs:List Nat} {k:Nat} (h:parseP bs=.error k) (hk:k≠3) (e:List Nat):parseP (bs++e)=.error k:=by
 by_cases he:e=[]
 ·rw [he,List.append_nil];exact h
 ·exact (parseP_ext e he).2 h hk
theorem sect_none {p at_:Nat} {b:List Nat} (h0:p≠0) (h5:p≤5) (h:endQ p b at_=none):∃ k,sectP p (b.drop at_)=.error k:=by
 unfold endQ at h;rw [if_neg h0,if_pos h5] at h;split at h
 ·rename_i h1
  exact ⟨3,by rw [List.drop_of_length_le h1];rfl⟩
 ·rename_i h1
  have hl:at_ < b.length:=by omega
  rw [List.drop_eq_getElem_cons hl];unfold sectP;dsimp only;split
  ·exact ⟨_,rfl⟩
  ·cases hv:vget0 (b.drop (at_+1)) with
   | error k=>exact ⟨k,rfl⟩
   | ok q =>
    obtain ⟨n,r⟩:=q;rw [hv] at h;dsimp only at h;split at h
    ·rename_i h2
     rw [xb_ok];dsimp only;rw [if_pos h2];exact ⟨_,rfl⟩
    ·cases h
theorem sect_some {p at_ tw:Nat} {b:List Nat} (hb:∀ x∈b,x < 256) (h0:p≠0) (h5:p≤5) (h:endQ p b at_=some tw) :
  at_ < tw∧tw≤b.length∧((∃ l,sectP p ((b.drop at_).take (tw - at_))=.ok (l,[]))∨∃ k,sectP p ((b.drop at_).take (tw - at_))=.error k∧k≠3∧k≠4∧k≠13):=by
 unfold endQ at h;rw [if_neg h0,if_pos h5] at h;split at h
 ·cases h
 ·rename_i h1
  have hl:at_ < b.length:=by omega
  cases hv:vget0 (b.drop (at_+1)) with
  | error k=>rw [hv] at h;cases h
  | ok q =>
   obtain ⟨n,r⟩:=q;rw [hv] at h;dsimp only at h;split at h
   ·cases h
   ·rename_i h2
    injection h with h
    obtain ⟨e1,e2⟩:=varget_inv (fun x hx=>hb x (List.mem_of_mem_drop hx)) hv;have k1:=congrArg List.length e1;rw [List.length_drop,List.length_append] at k1;have kv:=vint_pos n;refine ⟨by omega,by omega,?_⟩;have e3:(b.drop at_).take (tw - at_)=b[at_]::(vint n++r.take (n+4)):=by
     rw [List.drop_eq_getElem_cons hl,e1,show tw - at_=((vint n).length+(n+4))+1 by omega,List.take_succ_cons,List.take_length_add_append]
    rw [e3];unfold sectP;dsimp only;split
    ·exact .inr ⟨11,rfl,by omega,by omega,by omega⟩
    ·rw [vget_vint n e2,xb_ok];dsimp only;have hrl:(r.take (n+4)).length=n+4:=by rw [List.length_take];omega
     rw [hrl,if_neg (by omega)];split
     ·left
      exact ⟨_,by rw [List.drop_of_length_le (by omega)]⟩
     ·exact .inr ⟨12,rfl,by omega,by omega,by omega⟩
theorem prs_split {at_:Nat} {b:List Nat} (hle:at_≤b.length):b=b.take at_++b.drop at_∧(b.take at_).length=at_:=⟨(List.take_append_drop _ _).symm,by rw [List.length_take];omega⟩
theorem take_to {at_ tw:Nat} {b:List Nat} (h1:at_≤tw):b.take tw=b.take at_++(b.drop at_).take (tw - at_)∧b.drop at_=(b.drop at_).take (tw - at_)++b.drop tw:=by
 constructor
 ·rw [← List.take_add,show at_+(tw - at_)=tw by omega]
 ·rw [show tw=at_+(tw - at_) by omega,← List.drop_drop,show at_+(tw - at_) - at_=tw - at_ by omega,List.take_append_drop]
theorem endP_short {bs r:List Nat} {s:Secs} (h:r.length < 8):∃ k,endP bs s r=.error k∧k≠4∧k≠13:=by
 unfold endP;split
 ·exact ⟨3,rfl,by omega,by omega⟩
 ·split
  ·exact ⟨12,rfl,by omega,by omega⟩
  ·cases hl:litP [75,66,83,84] (r.drop 4) with
   | error k =>
    have:=(litP_ext _).2.2 hl;exact ⟨k,rfl,by omega,by omega⟩
   | ok q =>
    have:=congrArg List.length (litP_ok hl);rw [List.length_drop,List.length_append] at this;simp at this;omega
theorem endP_eight {bs r:List Nat} {s:Secs} (h:r.length=8):endP bs s r=.ok s∨∃ k,endP bs s r=.error k∧k≠3∧k≠4∧k≠13:=by
 unfold endP;rw [if_neg (by omega)];split
 ·exact .inr ⟨12,rfl,by omega,by omega,by omega⟩
 ·have hd:(r.drop 4).length=4:=by rw [List.length_drop];omega
  cases hl:litP [75,66,83,84] (r.drop 4) with
  | error k =>
   right
   refine ⟨k,rfl,?_,?_,?_⟩
   ·intro e;subst e;unfold litP at hl;split at hl
    ·injection hl with hl;omega
    ·split at hl
     ·rename_i h2
      rw [hd] at h2;simp at h2
     ·cases hl
   ·have:=(litP_ext _).2.2 hl;omega
   ·have:=(litP_ext _).2.2 hl;omega
  | ok q =>
   have:=congrArg List.length (litP_ok hl);rw [hd,List.length_append,show [75,66,83,84].length=4 from rfl] at this;have hq:q=[]:=List.eq_nil_of_length_eq_zero (by omega);left
   rw [xb_ok,if_pos hq]
theorem lit_short {b:List Nat} (h:b.length < 5):∃ k,litP hd0 b=.error k:=by
 cases hl:litP hd0 b with
 | error k=>exact ⟨k,rfl⟩
 | ok r =>
  have:=congrArg List.length (litP_ok hl);rw [List.length_append,show hd0.length=5 from rfl] at this;omega
theorem parts_lit {b:List Nat} {k:Nat} (h:litP hd0 b=.error k):partsP b=0∧parseP b=.error k:=by
 have hp:parseP b=.error k:=by rw [parseP_rest,h];rfl
 have:=(litP_ext _).2.2 h;refine ⟨?_,hp⟩;unfold partsP;rw [hp];dsimp only;rw [if_neg (by omega),h]
theorem adv_none {p at_:Nat} {b:List Nat} (hp:p≤6) (hle:at_≤b.length) (hP:Prs p (b.take at_)) (h:endQ p b at_=none):partsP b=p:=by
 obtain ⟨hb,hl⟩:=prs_split hle;unfold Prs at hP;by_cases h0:p=0
 ·rw [if_pos h0] at hP;unfold endQ at h;rw [if_pos h0] at h;split at h
  ·cases h
  ·rw [hP] at hl;obtain ⟨k,hk⟩:=lit_short (b:=b) (by simp at hl;omega);rw [(parts_lit hk).1,h0]
 rw [if_neg h0] at hP;by_cases h5:p≤5
 ·rw [if_pos h5] at hP;obtain ⟨acc,hP⟩:=hP;obtain ⟨⟨r,hr,hc⟩,hq⟩:=hP (b.drop at_);rw [← hb] at hr hq;obtain ⟨k,hk⟩:=sect_none h0 h5 h;have hcode:=sect_codes hk;have e:6 - p=(5 - p)+1:=by omega
  have hk':sectP (5 - (5 - p)) (b.drop at_)=.error k:=by rw [show 5 - (5 - p)=p by omega];exact hk
  rw [e,restP,hk',xb_er] at hq;rw [e,cntS_succ_er hk'] at hc;rw [partsP_of hq (by omega) hr,if_neg (by omega),hc];omega
 ·rw [if_neg h5,if_pos (by omega)] at hP;obtain ⟨s,hP⟩:=hP;obtain ⟨⟨r,hr,hc⟩,hq⟩:=hP (b.drop at_);rw [← hb] at hr hq;unfold endQ at h;rw [if_neg h0,if_neg h5,if_pos (by omega)] at h;split at h
  ·cases h
  ·obtain ⟨k,hk,h4,h13⟩:=endP_short (bs:=b) (r:=b.drop at_) (s:=s) (by rw [List.length_drop];omega);rw [hk] at hq;rw [partsP_of hq h4 hr,if_neg (by omega),hc];omega
theorem adv_some {p at_ tw:Nat} {b:List Nat} (hy:∀ x∈b,x < 256) (hp:p≤6) (hle:at_≤b.length) (hP:Prs p (b.take at_)) (h:endQ p b at_=some tw) :
  at_ < tw∧tw≤b.length∧(certP (b.take tw)≠0→partsP b=p)∧(certP (b.take tw)=0→Prs (p+1) (b.take tw)):=by
 obtain ⟨hb,hl⟩:=prs_split hle;unfold Prs at hP;by_cases h0:p=0
 ·rw [if_pos h0] at hP;unfold endQ at h;rw [if_pos h0] at h;split at h
  ·rename_i h5
   injection h with h
   rw [hP] at hl;have ha:at_=0:=by simpa using hl.symm
   subst ha h h0;refine ⟨by omega,h5,fun hc=>?_,fun hc=>?_⟩
   ·cases hq:litP hd0 (b.take (0+5)) with
    | ok r =>
     exfalso
     apply hc
     have:=congrArg List.length (litP_ok hq);rw [List.length_take,List.length_append,show hd0.length=5 from rfl] at this;have hr:r=[]:=List.eq_nil_of_length_eq_zero (by omega);have:parseP (b.take (0+5))=.error 3:=by rw [parseP_rest,hq,hr];rfl
     rw [certP_er this];rfl
    | error k =>
     have h3:k≠3:=fun e=>hc (by rw [certP_er (parts_lit hq).2,if_pos e])
     have:=(litP_ext _).2.1 hq h3 (b.drop (0+5));rw [List.take_append_drop] at this;exact (parts_lit this).1
   ·cases hq:litP hd0 (b.take (0+5)) with
    | error k =>
     exfalso
     have h3:k=3∨k=10:=(litP_ext _).2.2 hq;rw [certP_er (parts_lit hq).2] at hc;have:k=3:=by
      rcases h3 with h3 | h3
      ·exact h3
      ·rw [h3] at hc;simp at hc
     subst this;unfold litP at hq;split at hq
     ·injection hq with hq;omega
     ·split at hq
      ·rename_i h2
       rw [List.length_take,show hd0.length=5 from rfl] at h2;omega
      ·cases hq
    | ok r =>
     have e:=litP_ok hq;have:=congrArg List.length e;rw [List.length_take,List.length_append,show hd0.length=5 from rfl] at this;have hr:r=[]:=List.eq_nil_of_length_eq_zero (by omega);rw [hr,List.append_nil] at e;rw [e];unfold Prs;rw [if_neg (by omega),if_pos (by omega)];refine ⟨[],fun q=>⟨⟨q,litP_put _ _,by simp⟩,?_⟩⟩;rw [parseP_rest,litP_put,xb_ok]
  ·cases h
 rw [if_neg h0] at hP;by_cases h5:p≤5
 ·rw [if_pos h5] at hP;obtain ⟨acc,hP⟩:=hP;obtain ⟨h1,h2,hs⟩:=sect_some hy h0 h5 h;obtain ⟨t1,t2⟩:=take_to (b:=b) (show at_≤tw by omega);refine ⟨h1,h2,?_⟩;obtain ⟨E,hE⟩:∃ E,(b.drop at_).take (tw - at_)=E:=⟨_,rfl⟩;rw [hE] at hs t1 t2;have hbt:b=(b.take at_++E)++b.drop tw:=by rw [← t1,List.take_append_drop]
  have e:6 - p=(5 - p)+1:=by omega
  have e5:5 - (5 - p)=p:=by omega
  rcases hs with ⟨l,hs⟩ | ⟨k,hs,k3,k4,k13⟩
  ·
   have step:∀ q,parseP (b.take at_++(E++q))=restP (b.take at_++(E++q)) (5 - p) (acc++[(l,at_)]) q∧∃ r,litP hd0 (b.take at_++(E++q))=.ok r∧cntS 5 r=p+cntS (5 - p) q:=fun q=>by
    obtain ⟨⟨r,hr,hc⟩,hq⟩:=hP (E++q);have hs2:=(sect_ext p).ok hs q;rw [List.nil_append] at hs2;have hs3:sectP (5 - (5 - p)) (E++q)=.ok (l,q):=by rw [e5];exact hs2
    rw [e,restP,hs3,xb_ok] at hq;rw [e,cntS_succ_ok hs3] at hc;refine ⟨?_,r,hr,by rw [hc];omega⟩;rw [hq];dsimp only;rw [show (b.take at_++(E++q)).length - (E++q).length=at_ by rw [List.length_append,hl];omega]
   have s0:=step [];rw [List.append_nil] at s0;obtain ⟨s0,_⟩:=s0;by_cases hp5:p=5
   ·subst hp5;rw [show 5 - 5=0 from rfl,restP] at s0;refine ⟨fun hc=>?_,fun hc=>?_⟩
    ·rw [t1] at hc;have h13:parseP (b.take at_++E)=.error 13:=by
      rw [s0];rw [s0.symm] at s0;unfold finP;split
      ·rename_i a b' c d e' he
       split
       ·rename_i ht
        exfalso
        apply hc
        have:parseP (b.take at_++E)=.error 3:=by
         have:=(step []).1;rw [List.append_nil] at this;rw [this,show 5 - 5=0 from rfl,restP];unfold finP;rw [he];dsimp only;rw [if_pos ht];rfl
        rw [certP_er this];rfl
       ·rfl
      ·rfl
     have hbig:=parse_same h13 (by omega) (b.drop tw);rw [← hbt] at hbig;obtain ⟨_,r,hr,hcn⟩:=step (b.drop tw);rw [← List.append_assoc,← hbt] at hr;rw [show 5 - 5=0 from rfl,cntS] at hcn;rw [partsP_of hbig (by omega) hr,if_pos ⟨hcn,rfl⟩]
    ·rw [t1] at hc ⊢;unfold Prs;rw [if_neg (by omega),if_neg (by omega),if_pos rfl];have hne:parseP (b.take at_++E)≠.error 13:=fun h=>by rw [certP_er h] at hc;simp at hc
     rw [s0] at hne;unfold finP at hne;split at hne
     ·rename_i a b' c d e' he
      split at hne
      ·rename_i ht
       refine ⟨(a.1,b'.1,c.1,d.1),fun q=>?_⟩;obtain ⟨h1,r,hr,hcn⟩:=step q;rw [List.append_assoc];refine ⟨⟨r,hr,by rw [show 5 - 5=0 from rfl,cntS] at hcn;exact hcn⟩,?_⟩;rw [h1,show 5 - 5=0 from rfl,restP];unfold finP;rw [he];dsimp only;rw [if_pos ht]
      ·exact (hne rfl).elim
     ·exact (hne rfl).elim
   ·have s3:parseP (b.take at_++E)=.error 3:=by
     rw [s0,show 5 - p=(4 - p)+1 by omega,restP,sectP_nil];rfl
    refine ⟨fun hc=>?_,fun hc=>?_⟩
    ·rw [t1,certP_er s3] at hc;exact (hc rfl).elim
    ·rw [t1];unfold Prs;rw [if_neg (by omega),if_pos (by omega)];refine ⟨acc++[(l,at_)],fun q=>?_⟩;obtain ⟨h1,r,hr,hcn⟩:=step q;rw [List.append_assoc];exact ⟨⟨r,hr,by rw [hcn,show 6 - (p+1)=5 - p by omega];omega⟩,by rw [h1,show 6 - (p+1)=5 - p by omega]⟩
  ·
   have hs':sectP (5 - (5 - p)) E=.error k:=by rw [e5];exact hs
   obtain ⟨_,hq⟩:=hP E;rw [e,restP,hs',xb_er] at hq;refine ⟨fun _=>?_,fun hc=>?_⟩
   ·have hbig:=parse_same hq k3 (b.drop tw);rw [← hbt] at hbig;obtain ⟨⟨r,hr,hcn⟩,_⟩:=hP (b.drop at_);rw [← hb] at hr;have hs4:=(sect_ext p).er hs k3 (b.drop tw);rw [← t2] at hs4;have hs5:sectP (5 - (5 - p)) (b.drop at_)=.error k:=by rw [e5];exact hs4
    rw [e,cntS_succ_er hs5] at hcn;rw [partsP_of hbig k4 hr,if_neg (by omega),hcn];omega
   ·rw [t1,certP_er hq,if_neg k3] at hc;have:=sect_codes hs;omega
 ·rw [if_neg h5,if_pos (by omega)] at hP;obtain ⟨s,hP⟩:=hP;unfold endQ at h;rw [if_neg h0,if_neg h5,if_pos (by omega)] at h;split at h
  ·rename_i h8
   injection h with h
   subst h;obtain ⟨t1,t2⟩:=take_to (b:=b) (show at_≤at_+8 by omega);refine ⟨by omega,h8,?_⟩;obtain ⟨E,hE⟩:∃ E,(b.drop at_).take (at_+8 - at_)=E:=⟨_,rfl⟩;have hEl:E.length=8:=by rw [← hE,List.length_take,List.length_drop];omega
   rw [hE] at t1 t2;have hbt:b=(b.take at_++E)++b.drop (at_+8):=by rw [← t1,List.take_append_drop]
   obtain ⟨_,hq⟩:=hP E;rcases endP_eight (bs:=b.take at_++E) (s:=s) hEl with hk | ⟨k,hk,k3,k4,k13⟩
   ·rw [hk] at hq;refine ⟨fun hc=>?_,fun _=>?_⟩
    ·rw [t1,certP_ok hq] at hc;exact (hc rfl).elim
    ·rw [t1];unfold Prs;rw [if_neg (by omega),if_neg (by omega),if_neg (by omega)];exact ⟨s,hq⟩
   ·rw [hk] at hq;refine ⟨fun _=>?_,fun hc=>?_⟩
    ·have hbig:=parse_same hq k3 (b.drop (at_+8));rw [← hbt] at hbig;obtain ⟨⟨r,hr,hcn⟩,_⟩:=hP (b.drop at_);rw [← hb] at hr;rw [partsP_of hbig k4 hr,if_neg (by omega),hcn];omega
    ·rw [t1,certP_er hq,if_neg k3] at hc;have:=parseP_nz hq;omega
  ·cases h
theorem adv_done {at_:Nat} {b:List Nat} (hle:at_≤b.length) (hP:Prs 7 (b.take at_)):partsP b=7∧(at_=b.length→certP b=0):=by
 unfold Prs at hP;rw [if_neg (by omega),if_neg (by omega),if_neg (by omega)] at hP;obtain ⟨s,hP⟩:=hP;by_cases h:at_=b.length
 ·rw [h,List.take_length] at hP;refine ⟨?_,fun _=>certP_ok hP⟩;unfold partsP;rw [hP]
 ·have:=(parseP_ext (b.drop at_) (fun e=>by
   have:=congrArg List.length e;rw [List.length_drop,List.length_nil] at this;omega)).1 hP
  rw [List.take_append_drop] at this;refine ⟨?_,fun e=>(h e).elim⟩;unfold partsP;rw [this];rfl
theorem prs_nil (b:List Nat):Prs 0 (b.take 0):=by
 unfold Prs;rw [if_pos rfl];rfl
theorem prs_more {p at_:Nat} {b e:List Nat} (hle:at_≤b.length) (h:Prs p (b.take at_)):Prs p ((b++e).take at_):=by rwa [take_ext e hle]
theorem partsP_le (b:List Nat):partsP b≤7:=by
 unfold partsP;split
 ·omega
 ·split
  ·omega
  ·split
   ·omega
   ·split
    ·omega
    ·have:=cntS_le 5 ‹List Nat›;omega
end
section
open Go Go.RowKit Go.Shelf
variable {F:Fence} {n:Nat} {P:Program}
def KtyL (T:List TypeId) (W W':World):Prop:=(∀ (k:Nat) (o:Obj),W.heap[k]? = some o→(∀ cs e fr,e∈T→o≠.cells cs e fr)→W'.heap[k]? = some o)∧W.heap.size≤W'.heap.size
theorem KtyL.trans {T:List TypeId} {A B C:World} (h:KtyL T A B) (h':KtyL T B C):KtyL T A C:=⟨fun k o ho hne=>h'.1 k o (h.1 k o ho hne) hne,Nat.le_trans h.2 h'.2⟩
theorem KtyL.nw {T:List TypeId} {A B:World} (h:Nw A B):KtyL T A B:=⟨fun k _ ho _=>(h.block k (lt_of_block ho)).trans ho,h.size⟩
end
section
open Go Go.RowKit
section
variable {w w':World} {g b:Nat} {bytes:List Nat} {pos:Nat}
end
def rest (bytes:List Nat) (pos:Nat):List Bool:=(up bytes).drop pos
end
section
open Go Go.RowKit
theorem Nw.drew1 (w:World):Nw w w.drew:=⟨rfl,rfl,rfl,Nat.le_refl _,fun _ _=>rfl⟩
end
section
open Go Go.RowKit Go.Sort
def Ap (g:Nat) (l:List Ser):Prop:=l.Pairwise (fun s t=>s.bs≠t.bs∧s.bs≠t.bl∧s.bl≠t.bs∧s.bl≠t.bl)∧∀ s∈l,s.bs≠g∧s.bl≠g∧s.bs≠s.bl
section
variable {w w':World} {lo g g' b n c:Nat} {A:Option Addr} {s:Ser} {e:TypeId} {size:Nat} {xs:List Value}
end
end
section
open Go Go.RowKit Go.Lib Go.Sort Go.Shelf
attribute [local go_sem] Oper.semAt_some
def Kty (e:TypeId) (W W':World):Prop:=∀ (k:Nat) (o:Obj),W.heap[k]? = some o→(∀ cs fr,o≠.cells cs e fr)→W'.heap[k]? = some o
theorem Nw.kty {W W':World} (h:Nw W W') (e:TypeId):Kty e W W':=fun k _ ho _=>(h.block k (lt_of_block ho)).trans ho
theorem Kp.kty {g:Nat} {e:TypeId} {W W':World} (h:Kp g g W W') {cs:Array Value} {fr:Nat × Nat} (hg:W.heap[g]? = some (.cells cs e fr)):Kty e W W':=fun k o ho hne=>by
 refine (h.block k (lt_of_block ho) ?_ ?_).trans ho
 ·rintro rfl;rw [hg] at ho;cases ho;exact hne _ _ rfl
 ·rintro rfl;rw [hg] at ho;cases ho;exact hne _ _ rfl
section
variable {w W W':World} {D LB LR:Nat} {l:List Ser} {dat:List Nat} {ls:Nat→List Nat}
end
theorem app_kty {W W1:World} {bd n cd:Nat} {e:TypeId} {size:Nat} {Ad:Option Addr} {xs:List Value} (hO:Ow W bd e size Ad n cd xs) (r3:Kp bd bd W W1) (r4:Ad=none→Nw W W1):Kty e W W1:=by
 cases Ad with
 | none=>exact (r4 rfl).kty _
 | some a =>
  obtain ⟨cs,fr,hbk⟩:=hO.blk;exact r3.kty hbk
theorem Kty.toL {T:List TypeId} {e:TypeId} {W W':World} (h:Kty e W W') (hs:W.heap.size≤W'.heap.size) (he:e∈T):KtyL T W W':=⟨fun k o ho hne=>h k o ho (fun cs fr=>hne cs e fr he),hs⟩
end
section
open Go Go.RowKit Go.Lib Go.Sort Go.Shelf
attribute [local go_sem] Oper.semAt_some
theorem results_ct {P:Program} {fn:Func} {p q:Tmp} {t1:TypeId} {u:Value} (h:fn.results=#[.cell p t1,.tmp q]) (tmps:Array Value) (w:World) (a:Addr) (hp:tmps.getD p undef=.pointer (some a))
  (h1:(loadVar t1 a).run P w=.ok u w):(results fn tmps).run P w=.ok (.tuple #[u,tmps.getD q undef]) w:=by
 simp only [Array.getD_eq_getD_getElem?] at hp;simp only [results,h];simp [Result.andThen,asAddr,hp,h1]
theorem run_load4 {W:World} {g:Nat} {a b c d:Value} {t:TypeId} (h:W.heap[g]? = some (.cells #[a,b,c,d] t (0,0))):(loadVar 52 ⟨g,0,none⟩).run Tryz.prog W=.ok (.agg #[a,b,c,d]) W:=by
 have c0:W.cell? ⟨g,0,none⟩=some a:=cell_at (k:=0) h;have c1:W.cell? ⟨g,1,none⟩=some b:=cell_at (k:=1) h;have c2:W.cell? ⟨g,2,none⟩=some c:=cell_at (k:=2) h;have c3:W.cell? ⟨g,3,none⟩=some d:=cell_at (k:=3) h;simp [loadVar,loadCells,loadCellsFrom,go_sem,c0,c1,c2,c3]
theorem set4_at {W:World} {g:Nat} {a b c d:Value} {t:TypeId} (h:W.heap[g]? = some (.cells #[a,b,c,d] t (0,0))) (a' b' c' d':Value) :
  ((((W.setCell ⟨g,0,none⟩ a').setCell ⟨g,1,none⟩ b').setCell ⟨g,2,none⟩ c').setCell ⟨g,3,none⟩ d').heap[g]? = some (.cells #[a',b',c',d'] t (0,0)):=by
 have:=set_at (k:=3) d' (set_at (k:=2) c' (set_at (k:=1) b' (set_at (k:=0) a' h)));simpa using this
theorem set4_kp (W:World) (g:Nat) (a' b' c' d':Value):Kp g g W ((((W.setCell ⟨g,0,none⟩ a').setCell ⟨g,1,none⟩ b').setCell ⟨g,2,none⟩ c').setCell ⟨g,3,none⟩ d') :=
 ((((Kp.refl g g W).setCell' (p:=⟨g,0,none⟩) (.inl rfl) _).setCell' (p:=⟨g,1,none⟩) (.inl rfl) _).setCell' (p:=⟨g,2,none⟩) (.inl rfl) _).setCell' (p:=⟨g,3,none⟩) (.inl rfl) _
abbrev nilS:Value:=.slice none 0 0
section
variable {W0 W W':World} {p:Nat} {v0 v1 v2 v3 u:Value}
end
end
section
open Go Go.RowKit Go.Lib
def PH (xs:List Nat) (m:Nat) (acc:List (List Nat × Nat)) (at_ err:Nat):Prop :=
 (err=0→parseP xs=restP xs m acc (xs.drop at_))∧(err≠0→parseP xs=.error err)
def SecD (W:World) (g p:Nat) (v:Value) (l:List Nat):Prop :=
 ∃ b' A' c',v=.slice A' l.length c'∧Rd W b' A' (cN .u8 l)∧(A'=none→c'=0)∧l.length≤c'∧g < b'∧p+3 < b'∧∀ x∈l,x < 256
theorem SecD.kp {W W':World} {g p k:Nat} {v:Value} {l:List Nat} (h:SecD W g p v l) (hk:Kp k k W W') (e:k=g∨k≤p+3):SecD W' g p v l:=by
 obtain ⟨b',A',c',h1,h2,h3,h4,h5,h6,h7⟩:=h;exact ⟨b',A',c',h1,h2.kp hk (by omega) (by omega),h3,h4,h5,h6,h7⟩
theorem SecD.kp2 {W W':World} {g p k k':Nat} {v:Value} {l:List Nat} (h:SecD W g p v l) (hk:Kp k k' W W') (e:k≤p+3) (e':k'≤p+3):SecD W' g p v l:=by
 obtain ⟨b',A',c',h1,h2,h3,h4,h5,h6,h7⟩:=h;exact ⟨b',A',c',h1,h2.kp hk (by omega) (by omega),h3,h4,h5,h6,h7⟩
theorem SecD.nw {W W':World} {g p:Nat} {v:Value} {l:List Nat} (h:SecD W g p v l) (hN:Nw W W'):SecD W' g p v l:=h.kp (hN.kp g g) (.inl rfl)
structure PIv (w W:World) (p g b:Nat) (A:Option Addr) (n c:Nat) (xs:List Nat) (s0 s1 s2 s3:Value) (q0 q1 q2 q3 q4 at_ err:Nat):Prop where
 nw:Nw w W
 lo:w.heap.size=p
 gp:p+4≤g
 bp:p+4≤b
 z2:W.heap[p]? = some (.cells #[nilS,nilS,nilS,nilS] 52 (0,0))
 z3:W.heap[p+1]? = some (.cells #[.int .i64 0,.int .i64 0,.int .i64 0,.int .i64 0,.int .i64 0] 80 (0,0))
 s:W.heap[p+2]? = some (.cells #[s0,s1,s2,s3] 52 (0,0))
 a:W.heap[p+3]? = some (.cells #[.int .i64 (q0:Int),.int .i64 (q1:Int),.int .i64 (q2:Int),.int .i64 (q3:Int),.int .i64 (q4:Int)] 80 (0,0))
 st:WSt W g A n c at_ err
 wi:WIn W g b A n c xs
section
variable {w W W':World} {p g b:Nat} {A:Option Addr} {n c:Nat} {xs:List Nat} {s0 s1 s2 s3:Value} {q0 q1 q2 q3 q4 at_ err at' err':Nat}
theorem PIv.rd (h:PIv w W p g b A n c xs s0 s1 s2 s3 q0 q1 q2 q3 q4 at_ err) (hk:Kp g g W W') (hs:WSt W' g A n c at' err'):PIv w W' p g b A n c xs s0 s1 s2 s3 q0 q1 q2 q3 q4 at' err':=by
 obtain ⟨h1,h2,h3,h4,h5,h6,h7,h8,h9,h10⟩:=h;have o:=fun (k:Nat) (hk2:k≤p+3) (o:Obj) (hb:W.heap[k]? = some o)=>(hk.block k (lt_of_block hb) (by omega) (by omega)).trans hb
 exact ⟨Kp.nw h1 hk (by omega) (by omega),h2,h3,h4,o _ (by omega) _ h5,o _ (by omega) _ h6,o _ (by omega) _ h7,o _ (by omega) _ h8,hs,h10.kp hk⟩
theorem PIv.new (h:PIv w W p g b A n c xs s0 s1 s2 s3 q0 q1 q2 q3 q4 at_ err) (hN:Nw W W'):PIv w W' p g b A n c xs s0 s1 s2 s3 q0 q1 q2 q3 q4 at_ err:=h.rd (hN.kp g g) (h.st.nw hN)
theorem PIv.blk (h:PIv w W p g b A n c xs s0 s1 s2 s3 q0 q1 q2 q3 q4 at_ err) (k i:Nat) (v:Value) (hk:k=p+2∨k=p+3) :
  Kp k k W (W.setCell ⟨k,i,none⟩ v)∧Nw w (W.setCell ⟨k,i,none⟩ v)∧WSt (W.setCell ⟨k,i,none⟩ v) g A n c at_ err∧WIn (W.setCell ⟨k,i,none⟩ v) g b A n c xs∧(∀ j o,j≠k→W.heap[j]? = some o→(W.setCell ⟨k,i,none⟩ v).heap[j]? = some o):=by
 have hK:Kp k k W (W.setCell ⟨k,i,none⟩ v):=(Kp.refl k k W).setCell' (.inl rfl) _;have hlo:=h.lo;have hgp:=h.gp;have hbp:=h.bp;refine ⟨hK,Kp.nw h.nw hK (by omega) (by omega),?_,⟨h.wi.rd.kp hK (by omega) (by omega),h.wi.ne,h.wi.len,h.wi.cap,h.wi.small,h.wi.byte⟩,fun j o hj hb=>(hK.block j (lt_of_block hb) hj hj).trans hb⟩;exact (hK.block g (lt_of_block h.st) (by omega) (by omega)).trans h.st
end
theorem PH.step {xs:List Nat} {m at_ err:Nat} {acc:List (List Nat × Nat)} (h:PH xs (m+1) acc at_ err) (hat:at_≤xs.length) (hx:∀ x∈xs,x < 256) {w W':World} {g:Nat} {A:Option Addr} {c:Nat} {e:Ending} {p:Nat}
  (hT:WTookB w W' g A xs.length c (if err=0 then sectP (5 - m) (xs.drop at_) else .error err) e) (hg:g < w.heap.size) (hp:p+3 < w.heap.size) :
  ∃ Av cv l at' err',e=.returned (.slice Av l.length cv)∧SecD W' g p (.slice Av l.length cv) l∧WSt W' g A xs.length c at' err'∧at'≤xs.length∧PH xs m (acc++[(l,at_)]) at' err':=by
 by_cases h0:err=0
 ·rw [if_pos h0] at hT;have h1:=h.1 h0;rw [restP] at h1;cases hs:sectP (5 - m) (xs.drop at_) with
  | error k =>
   rw [hs] at hT h1;obtain ⟨rfl,hk,q,hq,hst⟩:=hT;exact ⟨none,0,[],q,k,rfl,⟨w.heap.size+g+p,none,0,rfl,Rd.nil _ _ _,fun _=>rfl,Nat.le_refl _,by omega,by omega,by simp⟩,hst,hq,fun e=>(hk e).elim,fun _=>h1⟩
  | ok x =>
   obtain ⟨l,r⟩:=x;rw [hs] at hT h1;obtain ⟨⟨b',A',c',rfl,hO,hb⟩,hst⟩:=hT;obtain ⟨u,hu⟩:=(sect_ext (5 - m)).sfx hs;have hi:=sectP_inv (fun x hx'=>hx x (List.mem_of_mem_drop hx')) hs;have hl:=congrArg List.length hu;rw [List.length_drop,List.length_append] at hl;have hr:r=xs.drop (xs.length - r.length):=by
    have:=congrArg (List.drop u.length) hu;rw [List.drop_left,List.drop_drop,show at_+u.length=xs.length - r.length by omega] at this;exact this.symm
   rw [xb_ok,List.length_drop,show xs.length - (xs.length - at_)=at_ by omega] at h1;dsimp only at h1;refine ⟨A',c',l,xs.length - r.length,0,rfl,?_,hst,by omega,fun _=>by rw [← hr];exact h1,fun e=>(e rfl).elim⟩;have hcap:=hO.cap.1;exact ⟨b',A',c',rfl,hO.rd,hO.nilc,hcap,by omega,by omega,hi.2.1⟩
 ·rw [if_neg h0] at hT;obtain ⟨rfl,hk,q,hq,hst⟩:=hT;exact ⟨none,0,[],q,err,rfl,⟨w.heap.size+g+p,none,0,rfl,Rd.nil _ _ _,fun _=>rfl,Nat.le_refl _,by omega,by omega,by simp⟩,hst,hq,fun e=>(h0 e).elim,fun _=>h.2 h0⟩
def ParW (w:World) (X:Except Nat Secs) (e:Ending) (w':World):Prop :=
 match X with
 | .ok s=>∃ (g p:Nat) (v0 v1 v2 v3:Value) (q0 q1 q2 q3 q4:Nat),e=.returned (.tuple #[.agg #[v0,v1,v2,v3],.agg #[.int .i64 (q0:Int),.int .i64 (q1:Int),.int .i64 (q2:Int),.int .i64 (q3:Int),.int .i64 (q4:Int)],.int .i64 0])∧SecD w' g p v0 s.1∧SecD w' g p v1 s.2.1∧SecD w' g p v2 s.2.2.1∧SecD w' g p v3 s.2.2.2∧w.heap.size≤g∧Nw w w'
 | .error k=>e=.returned (.tuple #[.agg #[nilS,nilS,nilS,nilS],.agg #[.int .i64 0,.int .i64 0,.int .i64 0,.int .i64 0,.int .i64 0],.int .i64 (k:Int)])∧k≠0∧Nw w w'
end
end Go.Proofs.YtmmonehfnfbpbaaGreatDoor
