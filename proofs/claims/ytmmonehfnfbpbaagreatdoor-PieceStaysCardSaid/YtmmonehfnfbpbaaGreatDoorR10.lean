/- Laws that the last text builds on. -/
import Derived.Test.YtmmonehfnfbpbaaGreatDoorR9
namespace Go.Proofs.YtmmonehfnfbpbaaGreatDoor
open Go.Lib(hid)
section
open Go Go.RowKit Go.Lib Go.Sort Go.Shelf
theorem sym_of (t:List ByteArray) (x:Rest):xb x (symP t)=match xb x vget0 with | .ok (v,r)=>if t.length≤v then .error 14 else .ok (t.getD v .empty,r) | .error k=>.error k:=by cases x<;>rfl
theorem count_of (x:Rest):xb x countP=match xb x vget0 with | .ok (v,r)=>if r.length < v then .error 3 else .ok (v,r) | .error k=>.error k:=by cases x<;>rfl
def RrS (W:World) (rb g:Nat) (At:Option Addr) (nt ct n:Nat):Prop :=
 W.heap[rb]? = some (.cells #[.pointer (some ⟨g,0,none⟩),.slice At nt ct,.int .i64 (n:Int)] 187 (0,0))
section
variable {W W':World} {rb g nt ct n c:Nat} {A At:Option Addr} {xs:List Nat} {x:Rest}
theorem RrS.nw (h:RrS W rb g At nt ct n) (hN:Nw W W'):RrS W' rb g At nt ct n:=(hN.block _ (lt_of_block h)).trans h
theorem RrS.keep {T:List TypeId} (h:RrS W rb g At nt ct n) (hk:KtyL T W W') (he:187 ∉ T):RrS W' rb g At nt ct n:=hk.get h he
theorem RrS.kp (h:RrS W rb g At nt ct n) (hx:WX W g A n c xs x) (hk:Kp g g W W'):RrS W' rb g At nt ct n:=h.keep (hx.ktl hk) (by decide)
theorem RrS.c0 (h:RrS W rb g At nt ct n):W.cell? ⟨rb,0,none⟩=some (.pointer (some ⟨g,0,none⟩)):=cell_at (k:=0) h
theorem RrS.c1 (h:RrS W rb g At nt ct n):W.cell? ⟨rb,1,none⟩=some (.slice At nt ct):=cell_at (k:=1) h
theorem RrS.c2 (h:RrS W rb g At nt ct n):W.cell? ⟨rb,2,none⟩=some (.int .i64 (n:Int)):=cell_at (k:=2) h
end
def PTook {α:Type} (w:World) (g:Nat) (A:Option Addr) (n c:Nat) (xs:List Nat) (f:α→Value) (d:α) (X:Except Nat (α × List Nat)) (e:Ending) (w':World):Prop :=
 e=.returned (f (vOf d X))∧WX w' g A n c xs (sOf X)∧Kp g g w w'
section
variable (w:World) (rb g b n c bt nt ct:Nat) (A At:Option Addr) (xs:List Nat) (x:Rest) (t:List ByteArray)
set_option maxRecDepth 100000 in
theorem PSymbol_u (h:WX w g A n c xs x) (hI:WIn w g b A n c xs) (hR:RrS w rb g At nt ct n) (hT:TIn w g bt At nt t) :
  Calls Tryz.prog 241 #[.pointer (some ⟨rb,0,none⟩)] w (PTook w g A n c xs (fun v:ByteArray=>.string v) .empty (xb x (symP t))):=by
 have HU:=hid (WUint_u w g b n c A xs x h hI);have HR:Hid (∀ W,Kp g g w W→RrS W rb g At nt ct n):=hid fun W hK=>hR.kp h hK
 have HT:Hid (∀ W,Kp g g w W→TIn W g bt At nt t):=hid fun W hK=>hT.kp hK
 have c0:=hR.c0;have hnt:=hT.len;have hmt:=hT.max;rw [sym_of];cases hX:xb x vget0 with
 | error k =>
  rw [hX] at HU;simp only [vOf,sOf] at HU;dsimp only;clear h hI hR hT hX hnt hmt;go_enter Tryz.func241,Tryz.ntmps241
  go_wp2_with fail;refine HU.out.mono ?_;rintro e w2 ⟨rfl,hX2,hK2⟩;have hk:k≠0:=hX2.1;have hk1:((k:Int) == 0)=false:=by rw [beq_eq_false_iff_ne];omega
  have hk2:((k:Int) != 0)=true:=by rw [bne_iff_ne];omega
  have HX2:=hid hX2;have HK2:=hid hK2;have c0':=(HR.out w2 hK2).c0;have HE:Hid (Calls Tryz.prog 107 #[.pointer (some ⟨g,0,none⟩)] w2 fun e w'=>e=.returned (.int .i64 (k:Int))∧w2=w'):=hid (WErr_u w2 g n c A xs _ hX2);clear hX2 hK2 hk c0;go_wp2_with fail;refine HE.out.mono ?_;rintro e w3 ⟨rfl,rfl⟩;go_wp2_with fail;refine HE.out.mono ?_;rintro e w3 ⟨rfl,rfl⟩;go_wp2_with fail;go_ret;exact ⟨rfl,HX2.out,HK2.out⟩
 | ok p =>
  obtain ⟨v,r⟩:=p;rw [hX] at HU;simp only [vOf,sOf] at HU;dsimp only;obtain ⟨Z,hZ⟩:∃ Z,(if t.length≤v then (.error 14:Except Nat (ByteArray × List Nat)) else .ok (t.getD v .empty,r))=Z:=⟨_,rfl⟩;rw [hZ];have HZ:=hid hZ;clear hZ;have hL:IntKind.u64.wrap (nt:Int)=(nt:Int):=IntWalk.u64_in _ (by omega);have HN:=hid hnt;have HM:=hid hmt;clear h hI hR hT hX hnt;go_enter Tryz.func241,Tryz.ntmps241
  go_wp2_with fail;refine HU.out.mono ?_;rintro e w2 ⟨rfl,hX2,hK2⟩;have HX2:=hid hX2;have HK2:=hid hK2;have c0':=(HR.out w2 hK2).c0;have c1':=(HR.out w2 hK2).c1;have HE:Hid (Calls Tryz.prog 107 #[.pointer (some ⟨g,0,none⟩)] w2 fun e w'=>e=.returned (.int .i64 0)∧w2=w'):=hid (WErr_u w2 g n c A xs _ hX2);clear hX2 hK2 c0 hmt;go_wp2_with fail;refine HE.out.mono ?_;rintro e w3 ⟨rfl,rfl⟩;by_cases hv:nt≤v
  ·have hvI:(nt:Int)≤(v:Int):=by omega
   have HV:=hid hv;have HF:=hid (WFail_u w2 g n c A xs _ 14 (by omega) HX2.out);clear hv HE;go_wp2_with fail;refine HF.out.mono ?_;rintro e w4 ⟨rfl,hX4,hK4⟩;have HX4:=hid hX4;have HK4:=hid (HK2.out.trans hK4 (.inl rfl) (.inl rfl));have c04:=(HR.out w4 HK4.out).c0;have HE:Hid (Calls Tryz.prog 107 #[.pointer (some ⟨g,0,none⟩)] w4 fun e w'=>e=.returned (.int .i64 14)∧w4=w'):=hid (WErr_u w4 g n c A xs _ hX4);clear hX4 hK4 c0' c1';go_wp2_with fail;refine HE.out.mono ?_;rintro e w3 ⟨rfl,rfl⟩;go_wp2_with fail;go_ret;rw [← HZ.out,if_pos (by have:=HN.out;have:=HV.out;omega)];exact ⟨rfl,HX4.out,HK4.out⟩
  ·have hvI:¬ (nt:Int)≤(v:Int):=by omega
   have hxt:v < t.length:=by have:=HN.out;omega
   have hvlt:(v:Int) < (nt:Int):=by omega
   obtain ⟨o,rfl,_,hc⟩:=((HT.out w2 HK2.out).rd).get (k:=v) (by simpa using hxt);rw [List.getElem_map] at hc;obtain ⟨s,hs⟩:∃ s,t[v]=s:=⟨_,rfl⟩;rw [hs] at hc;have HS:Hid (t.getD v .empty=s):=hid (by simp [List.getD,hxt,hs]);have HXT:=hid hxt;clear hv hs hxt;go_wp2_with fail;refine HE.out.mono ?_;rintro e w3 ⟨rfl,rfl⟩;go_wp2_with fail;go_ret;rw [← HZ.out,if_neg (by have:=HXT.out;omega),HS.out];exact ⟨rfl,HX2.out,HK2.out⟩
set_option maxRecDepth 100000 in
theorem PCount_u (h:WX w g A n c xs x) (hI:WIn w g b A n c xs) (hR:RrS w rb g At nt ct n) :
  Calls Tryz.prog 178 #[.pointer (some ⟨rb,0,none⟩)] w (PTook w g A n c xs (fun v:Nat=>.int .i64 (v:Int)) 0 (xb x countP)):=by
 have HU:=hid (WUint_u w g b n c A xs x h hI);have HR:Hid (∀ W,Kp g g w W→RrS W rb g At nt ct n):=hid fun W hK=>hR.kp h hK
 have HIn:=hid hI;have c0:=hR.c0;have hm:=hI.small;rw [count_of];cases hX:xb x vget0 with
 | error k =>
  rw [hX] at HU;simp only [vOf,sOf] at HU;dsimp only;clear h hI hR hX;go_enter Tryz.func178,Tryz.ntmps178
  go_wp2_with fail;refine HU.out.mono ?_;rintro e w2 ⟨rfl,hX2,hK2⟩;have hk:k≠0:=hX2.1;have hk1:((k:Int) == 0)=false:=by rw [beq_eq_false_iff_ne];omega
  have hk2:((k:Int) != 0)=true:=by rw [bne_iff_ne];omega
  have HX2:=hid hX2;have HK2:=hid hK2;have c0':=(HR.out w2 hK2).c0;have HE:Hid (∀ W,Nw w2 W→Calls Tryz.prog 107 #[.pointer (some ⟨g,0,none⟩)] W fun e w'=>e=.returned (.int .i64 (k:Int))∧W=w'):=hid fun W hN=>WErr_u W g n c A xs _ (HX2.out.nw hN)
  clear hX2 hK2 hk c0;go_wp2_with fail;go_quiet ((go_at_call 107;exact quiet1 (HE.out _ (Nw.drewN _ _))))
  have HN3:=hid (Nw.drewN w2 nq);have c03:=(HR.out _ (HK2.out.drewN' nq)).c0;clear c0';generalize World.drewN w2 nq=w3 at *;go_wp2_with fail;refine (HE.out w3 HN3.out).mono ?_;rintro e w4 ⟨rfl,rfl⟩;go_wp2_with fail;go_ret;exact ⟨rfl,HX2.out.nw HN3.out,HK2.out.nw' HN3.out⟩
 | ok p =>
  obtain ⟨v,r⟩:=p;rw [hX] at HU;simp only [vOf,sOf] at HU;dsimp only;obtain ⟨Z,hZ⟩:∃ Z,(if r.length < v then (.error 3:Except Nat (Nat × List Nat)) else .ok (v,r))=Z:=⟨_,rfl⟩;rw [hZ];have HZ:=hid hZ;clear hZ;clear h hI hR hX;go_enter Tryz.func178,Tryz.ntmps178
  go_wp2_with fail;refine HU.out.mono ?_;rintro e w2 ⟨rfl,hX2,hK2⟩;obtain ⟨h1,h2,h3⟩:=hX2.sfx HIn.out.len;have HX2:=hid hX2;have HK2:=hid hK2;have c0':=(HR.out w2 hK2).c0;have c2':=(HR.out w2 hK2).c2;obtain ⟨T,hT⟩:∃ T,n - r.length=T:=⟨_,rfl⟩;have hTI:(n:Int) - (T:Int)=(r.length:Int):=by omega
  have hL:IntKind.u64.wrap (r.length:Int)=(r.length:Int):=IntWalk.u64_in _ (by omega);have hW:wrap64 (r.length:Int)=(r.length:Int):=IntWalk.wrap64_in _ (by omega);have hW2:IntKind.i64.wrap (r.length:Int)=(r.length:Int):=IntWalk.i64_in _ (by omega);have HE:Hid (∀ W,Nw w2 W→Calls Tryz.prog 107 #[.pointer (some ⟨g,0,none⟩)] W fun e w'=>e=.returned (.int .i64 0)∧W=w'):=hid fun W hN=>WErr_u W g n c A xs _ (HX2.out.nw hN)
  have HA:Hid (∀ W,Nw w2 W→Calls Tryz.prog 170 #[.pointer (some ⟨g,0,none⟩)] W fun e w'=>e=.returned (.int .i64 (T:Int))∧W=w'):=hid fun W hN=>by
   have:=WAt_any W g n c _ 0 A (HX2.out.nw hN).1;rw [hT] at this;exact this
  have HH:=hid (And.intro h1 (And.intro h2 hT));clear hX2 hK2 c0 h1 h2 h3 hT hm;by_cases hv:r.length < v
  ·have hvI:(r.length:Int) < (v:Int):=by omega
   have HV:=hid hv;clear hv;go_wp2_with fail;go_quiet ((first | (go_at_call 107;first | exact quiet1 (HE.out _ (Nw.drewN _ _)) | exact quiet2 (HE.out _ (Nw.drewN _ _))) | (go_at_call 170;first | exact quiet1 (HA.out _ (Nw.drewN _ _)) | exact quiet2 (HA.out _ (Nw.drewN _ _)))))
   have HN3:=hid (Nw.drewN w2 nq);have c03:=(HR.out _ (HK2.out.drewN' nq)).c0;clear c0' c2' hTI hL hW hW2;generalize World.drewN w2 nq=w3 at *;have HF:=hid (WFail_u w3 g n c A xs _ 3 (by omega) (HX2.out.nw HN3.out));go_wp2_with fail;refine HF.out.mono ?_;rintro e w4 ⟨rfl,hX4,hK4⟩;have HX4:=hid hX4;have HK4:=hid ((HK2.out.nw' HN3.out).trans hK4 (.inl rfl) (.inl rfl));have c04:=(HR.out w4 HK4.out).c0;have HE4:Hid (Calls Tryz.prog 107 #[.pointer (some ⟨g,0,none⟩)] w4 fun e w'=>e=.returned (.int .i64 3)∧w4=w'):=hid (WErr_u w4 g n c A xs _ hX4);clear hX4 hK4 c03;go_wp2_with fail;refine HE4.out.mono ?_;rintro e w5 ⟨rfl,rfl⟩;go_wp2_with fail;go_ret;rw [← HZ.out,if_pos HV.out];exact ⟨rfl,HX4.out,HK4.out⟩
  ·have hvI:¬ (r.length:Int) < (v:Int):=by omega
   have HV:=hid hv;have hv9:(v:Int)≤1000000000:=by have:=HH.out.2.1;have:=HIn.out.small;omega
   clear hv;go_wp2_with fail;go_quiet ((first | (go_at_call 107;first | exact quiet1 (HE.out _ (Nw.drewN _ _)) | exact quiet2 (HE.out _ (Nw.drewN _ _))) | (go_at_call 170;first | exact quiet1 (HA.out _ (Nw.drewN _ _)) | exact quiet2 (HA.out _ (Nw.drewN _ _)))))
   have HN3:=hid (Nw.drewN w2 nq);have c03:=(HR.out _ (HK2.out.drewN' nq)).c0;clear c0' c2' hTI hL hW hW2;generalize World.drewN w2 nq=w3 at *;go_wp2_with fail;refine (HE.out w3 HN3.out).mono ?_;rintro e w4 ⟨rfl,rfl⟩;go_wp2_with fail;go_ret;rw [← HZ.out,if_neg HV.out];exact ⟨rfl,HX2.out.nw HN3.out,HK2.out.nw' HN3.out⟩
end
end
section
open Go Go.RowKit Go.Lib Go.Sort Go.Shelf
def PrS (W:World) (rb g:Nat) (At:Option Addr) (nt ct n:Nat):Prop :=
 W.heap[rb]? = some (.cells #[.pointer (some ⟨g,0,none⟩),.slice At nt ct,.int .i64 (n:Int)] 201 (0,0))
section
variable {W W':World} {rb g nt ct n c:Nat} {A At:Option Addr} {xs:List Nat} {x:Rest}
theorem PrS.keep {T:List TypeId} (h:PrS W rb g At nt ct n) (hk:KtyL T W W') (he:201 ∉ T):PrS W' rb g At nt ct n:=hk.get h he
theorem PrS.kp (h:PrS W rb g At nt ct n) (hx:WX W g A n c xs x) (hk:Kp g g W W'):PrS W' rb g At nt ct n:=h.keep (hx.ktl hk) (by decide)
theorem PrS.c0 (h:PrS W rb g At nt ct n):W.cell? ⟨rb,0,none⟩=some (.pointer (some ⟨g,0,none⟩)):=cell_at (k:=0) h
theorem PrS.c1 (h:PrS W rb g At nt ct n):W.cell? ⟨rb,1,none⟩=some (.slice At nt ct):=cell_at (k:=1) h
theorem PrS.c2 (h:PrS W rb g At nt ct n):W.cell? ⟨rb,2,none⟩=some (.int .i64 (n:Int)):=cell_at (k:=2) h
end
def chkX (ok:Bool) (E:Nat) (x:Rest):Rest:=match ok with | true=>x | false=>failX E x
def okB (x:Rest):Bool:=match x with | .ok _=>true | .error _=>false
theorem okB_eq {W:World} {g n c:Nat} {A:Option Addr} {xs:List Nat} {x:Rest} (h:WX W g A n c xs x):((eOf x:Int) == 0)=okB x:=by
 cases x with
 | ok r=>rfl
 | error k =>
  have:=h.1;show ((k:Int) == 0)=false
  rw [beq_eq_false_iff_ne];omega
section
variable (w:World) (rb g b n c bt nt ct:Nat) (A At:Option Addr) (xs:List Nat) (x:Rest) (t:List ByteArray)
set_option maxRecDepth 100000 in
theorem PCheck_u (ok:Bool) (E:Nat) (hE:E≠0) (h:WX w g A n c xs x) (hR:PrS w rb g At nt ct n) :
  Calls Tryz.prog 122 #[.pointer (some ⟨rb,0,none⟩),.bool ok,.int .i64 (E:Int)] w fun e w'=>e=.returned (.bool (okB (chkX ok E x)))∧WX w' g A n c xs (chkX ok E x)∧Kp g g w w':=by
 have c0:=hR.c0;cases ok with
 | true =>
  have HE:=hid (WErr_u w g n c A xs x h);have HQ:=hid (okB_eq h);have HX:=hid h;clear h hR;go_enter Tryz.func122,Tryz.ntmps122
  go_wp2_with fail;refine HE.out.mono ?_;rintro e w2 ⟨rfl,rfl⟩;go_wp2_with fail;go_ret;refine ⟨?_,HX.out,Kp.refl g g w⟩;show Ending.returned (.bool ((eOf x:Int) == 0))=_
  rw [HQ.out];rfl
 | false =>
  have HF:=hid (WFail_u w g n c A xs x E hE h);have HR:Hid (∀ W,Kp g g w W→PrS W rb g At nt ct n):=hid fun W hK=>hR.kp h hK
  clear h hR;go_enter Tryz.func122,Tryz.ntmps122
  go_wp2_with fail;refine HF.out.mono ?_;rintro e w2 ⟨rfl,hX2,hK2⟩;have HE:=hid (WErr_u w2 g n c A xs _ hX2);have HQ:=hid (okB_eq hX2);have HX2:=hid hX2;have HK2:=hid hK2;have c02:=(HR.out w2 hK2).c0;clear hX2 hK2 c0;go_wp2_with fail;refine HE.out.mono ?_;rintro e w3 ⟨rfl,rfl⟩;go_wp2_with fail;go_ret;refine ⟨?_,HX2.out,HK2.out⟩;show Ending.returned (.bool ((eOf (failX E x):Int) == 0))=_
  rw [HQ.out];rfl
set_option maxRecDepth 100000 in
theorem PPSym_u (h:WX w g A n c xs x) (hI:WIn w g b A n c xs) (hR:PrS w rb g At nt ct n) (hT:TIn w g bt At nt t) :
  Calls Tryz.prog 121 #[.pointer (some ⟨rb,0,none⟩)] w (PTook w g A n c xs (fun v:ByteArray=>.string v) .empty (xb x (symP t))):=by
 have HU:=hid (WUint_u w g b n c A xs x h hI);have HR:Hid (∀ W,Kp g g w W→PrS W rb g At nt ct n):=hid fun W hK=>hR.kp h hK
 have HT:Hid (∀ W,Kp g g w W→TIn W g bt At nt t):=hid fun W hK=>hT.kp hK
 have c0:=hR.c0;have hnt:=hT.len;have hmt:=hT.max;rw [sym_of];cases hX:xb x vget0 with
 | error k =>
  rw [hX] at HU;simp only [vOf,sOf] at HU;dsimp only;have hL:IntKind.u64.wrap (nt:Int)=(nt:Int):=IntWalk.u64_in _ (by omega);clear h hI hR hT hX hnt hmt;go_enter Tryz.func121,Tryz.ntmps121
  go_wp2_with fail;refine HU.out.mono ?_;rintro e w2 ⟨rfl,hX2,hK2⟩;have HX2:=hid hX2;have HK2:=hid hK2;have c0':=(HR.out w2 hK2).c0;have c1':=(HR.out w2 hK2).c1;have HC:Hid (∀ ok:Bool,Calls Tryz.prog 122 #[.pointer (some ⟨rb,0,none⟩),.bool ok,.int .i64 14] w2 fun e w'=>e=.returned (.bool false)∧WX w' g A n c xs (.error k)∧Kp g g w2 w'):=hid fun ok=>by
   have:=PCheck_u w2 rb g n c nt ct A At xs _ ok 14 (by omega) HX2.out (HR.out w2 HK2.out);cases ok<;>exact this
  clear hX2 hK2 c0;go_wp2_with fail;refine (HC.out _).mono ?_;rintro e w3 ⟨rfl,hX3,hK3⟩;have HX3:=hid hX3;have HK3:=hid (HK2.out.trans hK3 (.inl rfl) (.inl rfl));clear hX3 hK3;go_wp2_with fail;go_ret;exact ⟨rfl,HX3.out,HK3.out⟩
 | ok p =>
  obtain ⟨v,r⟩:=p;rw [hX] at HU;simp only [vOf,sOf] at HU;dsimp only;obtain ⟨Z,hZ⟩:∃ Z,(if t.length≤v then (.error 14:Except Nat (ByteArray × List Nat)) else .ok (t.getD v .empty,r))=Z:=⟨_,rfl⟩;rw [hZ];have HZ:=hid hZ;clear hZ;have hL:IntKind.u64.wrap (nt:Int)=(nt:Int):=IntWalk.u64_in _ (by omega);have HN:=hid hnt;have HM:=hid hmt;clear h hI hR hT hX hnt;go_enter Tryz.func121,Tryz.ntmps121
  go_wp2_with fail;refine HU.out.mono ?_;rintro e w2 ⟨rfl,hX2,hK2⟩;have HX2:=hid hX2;have HK2:=hid hK2;have c0':=(HR.out w2 hK2).c0;have c1':=(HR.out w2 hK2).c1;clear hX2 hK2 c0 hmt;by_cases hv:v < nt
  ·have hvI:(v:Int) < (nt:Int):=by omega
   have hvD:decide (v < nt)=true:=decide_eq_true hv;have hxt:v < t.length:=by have:=HN.out;omega
   have HC:Hid (Calls Tryz.prog 122 #[.pointer (some ⟨rb,0,none⟩),.bool true,.int .i64 14] w2 fun e w'=>e=.returned (.bool true)∧WX w' g A n c xs (.ok r)∧Kp g g w2 w'):=hid (PCheck_u w2 rb g n c nt ct A At xs _ true 14 (by omega) HX2.out (HR.out w2 HK2.out));obtain ⟨s,hs⟩:∃ s,t[v]=s:=⟨_,rfl⟩;have HS:Hid (t.getD v .empty=s):=hid (by simp [List.getD,hxt,hs]);have HSs:=hid hs;have HXT:=hid hxt;clear hs;go_wp2_with fail;refine HC.out.mono ?_;rintro e w3 ⟨rfl,hX3,hK3⟩;have HX3:=hid hX3;have HK3:=hid (HK2.out.trans hK3 (.inl rfl) (.inl rfl));have c03:=(HR.out w3 HK3.out).c0;have c13:=(HR.out w3 HK3.out).c1;obtain ⟨o,rfl,_,hc0⟩:=((HT.out w3 HK3.out).rd).get (k:=v) (by simpa using HXT.out);rw [List.getElem_map] at hc0;have hc:w3.cell? ⟨bt,o+v,none⟩=some (.string s):=by rw [hc0,HSs.out]
   clear hX3 hK3 c0' c1' hc0;go_wp2_with fail;go_ret;rw [← HZ.out,if_neg (by have:=HXT.out;omega),HS.out];exact ⟨rfl,HX3.out,HK3.out⟩
  ·have hvI:¬ (v:Int) < (nt:Int):=by omega
   have hvD:decide (v < nt)=false:=decide_eq_false hv;have HV:=hid hv;have HC:Hid (Calls Tryz.prog 122 #[.pointer (some ⟨rb,0,none⟩),.bool false,.int .i64 14] w2 fun e w'=>e=.returned (.bool false)∧WX w' g A n c xs (.error 14)∧Kp g g w2 w'):=hid (PCheck_u w2 rb g n c nt ct A At xs _ false 14 (by omega) HX2.out (HR.out w2 HK2.out));clear hv;go_wp2_with fail;refine HC.out.mono ?_;rintro e w3 ⟨rfl,hX3,hK3⟩;have HX3:=hid hX3;have HK3:=hid (HK2.out.trans hK3 (.inl rfl) (.inl rfl));clear hX3 hK3;go_wp2_with fail;go_ret;rw [← HZ.out,if_pos (by have:=HN.out;have:=HV.out;omega)];exact ⟨rfl,HX3.out,HK3.out⟩
set_option maxRecDepth 100000 in
set_option maxHeartbeats 1000000 in
theorem PPCount_u (h:WX w g A n c xs x) (hI:WIn w g b A n c xs) (hR:PrS w rb g At nt ct n) :
  Calls Tryz.prog 120 #[.pointer (some ⟨rb,0,none⟩)] w (PTook w g A n c xs (fun v:Nat=>.int .i64 (v:Int)) 0 (xb x countP)):=by
 have HU:=hid (WUint_u w g b n c A xs x h hI);have HR:Hid (∀ W,Kp g g w W→PrS W rb g At nt ct n):=hid fun W hK=>hR.kp h hK
 have HIn:=hid hI;have c0:=hR.c0;have hm:=hI.small;rw [count_of];cases hX:xb x vget0 with
 | error k =>
  rw [hX] at HU;simp only [vOf,sOf] at HU;dsimp only;clear h hI hR hX;go_enter Tryz.func120,Tryz.ntmps120
  go_wp2_with fail;refine HU.out.mono ?_;rintro e w2 ⟨rfl,hX2,hK2⟩;have HX2:=hid hX2;have HK2:=hid hK2;have c0':=(HR.out w2 hK2).c0;have c2':=(HR.out w2 hK2).c2;have hrb:=cell_lt c0';obtain ⟨q,hq,hSq⟩:=hX2.2;obtain ⟨T,hT⟩:∃ T,n - q=T:=⟨_,rfl⟩;have hTI:(n:Int) - (q:Int)=(T:Int):=by omega
  have hTw:IntKind.u64.wrap (T:Int)=(T:Int):=IntWalk.u64_in _ (by omega);have HA:Hid (∀ W,Nw w2 W→Calls Tryz.prog 170 #[.pointer (some ⟨g,0,none⟩)] W fun e w'=>e=.returned (.int .i64 (q:Int))∧Gr W w'):=hid fun W hN=>(WAt_any W g n c q k A (hSq.nw hN)).mono fun _ _ h=>⟨h.1,by rw [← h.2];exact Gr.refl _⟩
  have q0:∀ p:Gp,(grow (w2.drewN p.n) p.os).cell? ⟨rb,0,none⟩=some (.pointer (some ⟨g,0,none⟩)):=cell_gr hrb c0';have q2:∀ p:Gp,(grow (w2.drewN p.n) p.os).cell? ⟨rb,2,none⟩=some (.int .i64 (n:Int)):=cell_gr hrb c2';have HQ:=hid (And.intro hq hm);clear hX2 hK2 c0 hSq hT hq hm;go_wp2_with fail;refine wp_region_gr_tail 14 (by kernel_rfl) (by kernel_rfl) ?_;simp only [List.take_succ_cons,List.take_zero,List.drop_succ_cons,List.drop_zero]
  repeat (quiet_step ((go_at_call 170;refine Calls.gr (HA.out _ (Gr.nw ⟨_,rfl⟩)))))
  refine wpQuiet_nil ?_;rintro _ ⟨p,rfl⟩;generalize hw4:grow (w2.drewN p.n) p.os=w4;have hn4:Nw w2 w4:=by rw [← hw4];exact Gr.nw ⟨p,rfl⟩
  have HC:Hid (∀ ok:Bool,Calls Tryz.prog 122 #[.pointer (some ⟨rb,0,none⟩),.bool ok,.int .i64 3] w4 fun e w'=>e=.returned (.bool false)∧WX w' g A n c xs (.error k)∧Kp g g w4 w'):=hid fun ok=>by
   have:=PCheck_u w4 rb g n c nt ct A At xs _ ok 3 (by omega) (HX2.out.nw hn4) (HR.out w4 (HK2.out.nw' hn4));cases ok<;>exact this
  have HN4:=hid hn4;clear hw4 hn4 q0 q2 c0' c2' hTw hTI;go_wp2_with fail;refine (HC.out _).mono ?_;rintro e w3 ⟨rfl,hX3,hK3⟩;have HX3:=hid hX3;have HK3:=hid ((HK2.out.nw' HN4.out).trans hK3 (.inl rfl) (.inl rfl));clear hX3 hK3;go_wp2_with fail;go_ret;exact ⟨rfl,HX3.out,HK3.out⟩
 | ok p =>
  obtain ⟨v,r⟩:=p;rw [hX] at HU;simp only [vOf,sOf] at HU;dsimp only;obtain ⟨Z,hZ⟩:∃ Z,(if r.length < v then (.error 3:Except Nat (Nat × List Nat)) else .ok (v,r))=Z:=⟨_,rfl⟩;rw [hZ];have HZ:=hid hZ;clear hZ;clear h hI hR hX;go_enter Tryz.func120,Tryz.ntmps120
  go_wp2_with fail;refine HU.out.mono ?_;rintro e w2 ⟨rfl,hX2,hK2⟩;obtain ⟨h1,h2,h3⟩:=hX2.sfx HIn.out.len;have HX2:=hid hX2;have HK2:=hid hK2;have c0':=(HR.out w2 hK2).c0;have c2':=(HR.out w2 hK2).c2;have hrb:=cell_lt c0';obtain ⟨L,hL⟩:∃ L,r.length=L:=⟨_,rfl⟩;obtain ⟨q,hq⟩:∃ q,n - L=q:=⟨_,rfl⟩;have hTI:(n:Int) - (q:Int)=(L:Int):=by omega
  have HTw:Hid (IntKind.u64.wrap (L:Int)=(L:Int)∧IntKind.i64.wrap (L:Int)=(L:Int)∧wrap64 (L:Int)=(L:Int)):=hid ⟨IntWalk.u64_in _ (by omega),IntWalk.i64_in _ (by omega),IntWalk.wrap64_in _ (by omega)⟩;have HA:Hid (∀ W,Nw w2 W→Calls Tryz.prog 170 #[.pointer (some ⟨g,0,none⟩)] W fun e w'=>e=.returned (.int .i64 (q:Int))∧Gr W w'):=hid fun W hN=>by
   have:=WAt_any W g n c _ 0 A (HX2.out.nw hN).1;rw [hL,hq] at this;exact this.mono fun _ _ h=>⟨h.1,by rw [← h.2];exact Gr.refl _⟩
  have q0:∀ p:Gp,(grow (w2.drewN p.n) p.os).cell? ⟨rb,0,none⟩=some (.pointer (some ⟨g,0,none⟩)):=cell_gr hrb c0';have q2:∀ p:Gp,(grow (w2.drewN p.n) p.os).cell? ⟨rb,2,none⟩=some (.int .i64 (n:Int)):=cell_gr hrb c2';have HH:=hid (And.intro h2 (And.intro hL hm));have HCk:Hid (∀ (W:World),Nw w2 W→∀ ok:Bool,Calls Tryz.prog 122 #[.pointer (some ⟨rb,0,none⟩),.bool ok,.int .i64 3] W fun e w'=>e=.returned (.bool (okB (chkX ok 3 (.ok r))))∧WX w' g A n c xs (chkX ok 3 (.ok r))∧Kp g g W w'):=hid fun W hN ok=>PCheck_u W rb g n c nt ct A At xs _ ok 3 (by omega) (HX2.out.nw hN) (HR.out W (HK2.out.nw' hN))
  by_cases hv:v≤L
  case' pos =>
   have hvI:(v:Int)≤(L:Int):=by omega
   have hvD:decide (v≤L)=true:=decide_eq_true hv;have hvE:decide ((v:Int)≤(L:Int))=true:=decide_eq_true hvI;have HCc:Hid (∀ (W:World),Nw w2 W→Calls Tryz.prog 122 #[.pointer (some ⟨rb,0,none⟩),.bool true,.int .i64 3] W fun e w'=>e=.returned (.bool true)∧WX w' g A n c xs (.ok r)∧Kp g g W w'):=hid fun W hN=>HCk.out W hN true
   have HV:Hid (Z=.ok (v,r)):=hid (by rw [← HZ.out,if_neg (by omega)]);have HVw:Hid ((v:Int)≤1000000000):=hid (by omega)
  case' neg =>
   have hvI:¬ (v:Int)≤(L:Int):=by omega
   have hvD:decide (v≤L)=false:=decide_eq_false hv;have hvE:decide ((v:Int)≤(L:Int))=false:=decide_eq_false hvI;have HCc:Hid (∀ (W:World),Nw w2 W→Calls Tryz.prog 122 #[.pointer (some ⟨rb,0,none⟩),.bool false,.int .i64 3] W fun e w'=>e=.returned (.bool false)∧WX w' g A n c xs (.error 3)∧Kp g g W w'):=hid fun W hN=>HCk.out W hN false
   have HV:Hid (Z=.error 3):=hid (by rw [← HZ.out,if_pos (by omega)]);have HVw:Hid True:=hid trivial
  all_goals
   obtain ⟨hTw,hTw2,hTw3⟩:=HTw.out;clear hX2 hK2 c0 h1 h2 h3 hL hq hm hv HCk;go_wp2_with fail;refine wp_region_gr_tail 14 (by kernel_rfl) (by kernel_rfl) ?_;simp only [List.take_succ_cons,List.take_zero,List.drop_succ_cons,List.drop_zero]
   repeat (quiet_step ((go_at_call 170;refine Calls.gr (HA.out _ (Gr.nw ⟨_,rfl⟩)))))
   refine wpQuiet_nil ?_;rintro _ ⟨p,rfl⟩;generalize hw4:grow (w2.drewN p.n) p.os=w4;have hn4:Nw w2 w4:=by rw [← hw4];exact Gr.nw ⟨p,rfl⟩
   have HC:=hid (HCc.out w4 hn4);have HN4:=hid hn4;clear hw4 hn4 q0 q2 c0' c2' hTI;go_wp2_with fail;clear hTw hTw2 hTw3
   ((with_reducible refine HC.out.mono ?_))
   rintro e w3 ⟨rfl,hX3,hK3⟩;have HX3:=hid hX3;have HK3:=hid ((HK2.out.nw' HN4.out).trans hK3 (.inl rfl) (.inl rfl));clear hX3 hK3;have hvw:=HVw.out;go_wp2_with fail;go_ret;rw [HV.out];exact ⟨rfl,HX3.out,HK3.out⟩
end
end
section
open Go Go.RowKit Go.Lib Go.Sort Go.Shelf
theorem run_load2L {W:World} {g:Nat} {a b:Value} {t:TypeId} (h:W.heap[g]? = some (.cells #[a,b] t (0,0))):(loadVar 96 ⟨g,0,none⟩).run Tryz.prog W=.ok (.agg #[a,b]) W:=by
 have c0:W.cell? ⟨g,0,none⟩=some a:=cell_at (k:=0) h;have c1:W.cell? ⟨g,1,none⟩=some b:=cell_at (k:=1) h;simp [loadVar,loadCells,loadCellsFrom,go_sem,c0,c1]
def PLabOut (w:World) (g:Nat) (A:Option Addr) (n c:Nat) (xs:List Nat) (X:Except Nat (Lab × List Nat)) (e:Ending) (w':World):Prop :=
 ∃ a1 a2:ByteArray,e=.returned (.agg #[.string a1,.string a2])∧(∀ p,X=.ok p→p.1=(a1,a2))∧WX w' g A n c xs (sOf X)∧Kp g g w w'
theorem labF_st (t:List ByteArray) (acc:List Lab) (x:Rest):sOf (xb x (labF t acc))=sOf (xb (sOf (xb x (symP t))) (symP t)):=by
 cases x with
 | error k=>rfl
 | ok r =>
  show sOf (labF t acc r)=sOf (xb (sOf (symP t r)) (symP t))
  unfold labF;cases symP t r with
  | error k=>rfl
  | ok p =>
   obtain ⟨a,q⟩:=p;show sOf (xb (symP t q) _)=sOf (symP t q)
   cases symP t q<;>rfl
theorem labF_val (t:List ByteArray) (acc:List Lab) (x:Rest) (p:Lab × List Nat) (h:xb x (labF t acc)=.ok p):p.1=(vOf .empty (xb x (symP t)),vOf .empty (xb (sOf (xb x (symP t))) (symP t))):=by
 cases x with
 | error k=>cases h
 | ok r =>
  have h:labF t acc r=.ok p:=h;show p.1=(vOf .empty (symP t r),vOf .empty (xb (sOf (symP t r)) (symP t)))
  unfold labF at h;cases hs:symP t r with
  | error k=>rw [hs] at h;cases h
  | ok q =>
   obtain ⟨a,q⟩:=q;rw [hs] at h;have h:xb (symP t q) (fun v=>.ok ((a,v.1),v.2))=.ok p:=h;show p.1=(a,vOf .empty (symP t q))
   cases hs2:symP t q with
   | error k=>rw [hs2] at h;cases h
   | ok z=>rw [hs2] at h;injection h with h;rw [← h];rfl
section
variable (w:World) (rb g b n c bt nt ct:Nat) (A At:Option Addr) (xs:List Nat) (x:Rest) (t:List ByteArray)
set_option maxRecDepth 100000 in
theorem PLabel_u (acc:List Lab) (h:WX w g A n c xs x) (hI:WIn w g b A n c xs) (hR:RrS w rb g At nt ct n) (hT:TIn w g bt At nt t) :
  Calls Tryz.prog 180 #[.pointer (some ⟨rb,0,none⟩)] w (PLabOut w g A n c xs (xb x (labF t acc))):=by
 have hV:=labF_val t acc x;have hS:=labF_st t acc x;have hn1:Nw w (w.alloc (.cells #[.string ⟨#[]⟩,.string ⟨#[]⟩] 96)):=(Nw.refl w).alloc' _;have hD:=heap_alloc_new w (.cells #[.string ⟨#[]⟩,.string ⟨#[]⟩] 96);have HS1:=hid (PSymbol_u _ rb g b n c bt nt ct A At xs x t (h.nw hn1) (hI.nw hn1) (hR.nw hn1) (hT.nw hn1));have HN1:=hid hn1;have HD:=hid hD;have HX:=hid (h.nw hn1);have HI:=hid (hI.nw hn1);have HR:=hid (hR.nw hn1);have HT:=hid (hT.nw hn1);obtain ⟨X1,hX1⟩:∃ X,xb x (symP t)=X:=⟨_,rfl⟩;obtain ⟨y1,hy1⟩:∃ z,sOf X1=z:=⟨_,rfl⟩;obtain ⟨a1,ha1⟩:∃ z,vOf .empty X1=z:=⟨_,rfl⟩;obtain ⟨X2,hX2⟩:∃ X,xb y1 (symP t)=X:=⟨_,rfl⟩;obtain ⟨a2,ha2⟩:∃ z,vOf .empty X2=z:=⟨_,rfl⟩;rw [hX1,hy1,hX2] at hS;rw [hX1,hy1,hX2,ha1,ha2] at hV;rw [hX1] at HS1;obtain ⟨X,hX⟩:∃ X,xb x (labF t acc)=X:=⟨_,rfl⟩;rw [hX] at hS hV ⊢;have HV:=hid (And.intro hV hS);have HE:=hid (And.intro hy1 (And.intro ha1 (And.intro hX2 ha2)));have HG:=hid h.lt;clear h hI hR hT hn1 hD hV hS hX1 hy1 ha1 hX2 ha2 hX;go_enter Tryz.func180,Tryz.ntmps180
 go_wp2_with fail;generalize w.alloc (.cells #[.string ⟨#[]⟩,.string ⟨#[]⟩] 96)=w1 at *;refine HS1.out.mono ?_;rintro e w2 ⟨rfl,hX2,hK2⟩;rw [HE.out.1] at hX2;rw [HE.out.2.1];have HS2:=hid (PSymbol_u w2 rb g b n c bt nt ct A At xs y1 t hX2 (HI.out.kp hK2) (HR.out.kp HX.out hK2) (HT.out.kp hK2));have HK2:=hid hK2;rw [HE.out.2.2.1] at HS2;clear hX2 hK2 HS1;go_wp2_with fail;refine HS2.out.mono ?_;rintro e w3 ⟨rfl,hX3,hK3⟩;rw [HE.out.2.2.2];have HX3:=hid hX3;have HK3:=hid (HK2.out.trans hK3 (.inl rfl) (.inl rfl));have hd3:=(HX.out.ktl HK3.out).get HD.out (by decide);have d0:w3.cell? ⟨w.heap.size,0,none⟩=some (.string ⟨#[]⟩):=cell_at (k:=0) hd3;have d1:w3.cell? ⟨w.heap.size,1,none⟩=some (.string ⟨#[]⟩):=cell_at (k:=1) hd3;have f0:w3.frozen? ⟨w.heap.size,0,none⟩=false:=at_free hd3;have f1:w3.frozen? ⟨w.heap.size,1,none⟩=false:=at_free hd3;have HD3:=hid hd3;clear hX3 hK3 hd3;go_wp2_with fail;have hs1:=set_at (k:=0) (.string a1) HD3.out;have hs2:=set_at (k:=1) (.string a2) hs1;have hk1:Kp w.heap.size w.heap.size w3 (w3.setCell ⟨w.heap.size,0,none⟩ (.string a1)):=(Kp.refl _ _ _).setCell' (p:=⟨w.heap.size,0,none⟩) (.inl rfl) _;have hk2:Kp w.heap.size w.heap.size _ ((w3.setCell ⟨w.heap.size,0,none⟩ (.string a1)).setCell ⟨w.heap.size,1,none⟩ (.string a2)):=(Kp.refl _ _ _).setCell' (p:=⟨w.heap.size,1,none⟩) (.inl rfl) _;refine bodyPost_ret (results_c1 rfl _ _ ⟨w.heap.size,0,none⟩ rfl (run_load2L (a:=.string a1) (b:=.string a2) (by simpa using hs2))) rfl ⟨a1,a2,rfl,HV.out.1,?_,?_⟩
 ·rw [HV.out.2];exact (HX3.out.keep (hk1.ktl HD3.out) (by decide)).keep (hk2.ktl hs1) (by decide)
 ·have k0:Kp g g w w3:=(HN1.out.kp g g).trans HK3.out (.inl rfl) (.inl rfl);exact (k0.up (Up.of_kp hk1 (Nat.le_refl _))).up (Up.of_kp hk2 (Nat.le_refl _))
def PLabsOut (w:World) (g:Nat) (A:Option Addr) (n c:Nat) (xs:List Nat) (X:Except Nat (List Lab × List Nat)) (e:Ending) (w':World):Prop :=
 ∃ (l:List Lab) (bo:Nat) (Ao:Option Addr) (co:Nat),e=.returned (.slice Ao l.length co)∧OwN w w' bo 96 2 Ao l.length co (cL l)∧(∀ p,X=.ok p→p.1=l)∧WX w' g A n c xs (sOf X)∧Kp g g w w'
theorem WX.len {W:World} {g n c:Nat} {A:Option Addr} {xs:List Nat} {x:Rest} (h:WX W g A n c xs x) (hn:n=xs.length):∀ r,x=.ok r→r.length≤n:=fun r e=>by
 subst e;exact (h.sfx hn).2.1
set_option maxRecDepth 100000 in
set_option maxHeartbeats 1000000 in
theorem PLabs_u (h:WX w g A n c xs x) (hI:WIn w g b A n c xs) (hR:RrS w rb g At nt ct n) (hT:TIn w g bt At nt t) :
  Calls Tryz.prog 179 #[.pointer (some ⟨rb,0,none⟩),.func (.func 180) #[.pointer (some ⟨rb,0,none⟩)] #[]] w (PLabsOut w g A n c xs (xb x (labsP t))):=by
 have ent:∀ args W,(callFunc 180 args).run Tryz.prog W=.ok (.enter 180 args) W:=enters_of Tryz.func180 (by kernel_rfl) rfl;have HC:=hid (PCount_u w rb g b n c nt ct A At xs x h hI hR);have hm:=hI.small;have hNn:=vOf_le (h.len hI.len);rw [labs_eq];have hN0:∀ k,sOf (xb x countP)=.error k→vOf 0 (xb x countP)=0:=fun k hk=>by
  cases hq:xb x countP with
  | error j=>rfl
  | ok p=>rw [hq] at hk;cases hk
 have hr1:∀ W,Kp g g w W→RrS W rb g At nt ct n:=fun W hK=>hR.kp h hK
 obtain ⟨N,hN⟩:∃ N,vOf 0 (xb x countP)=N:=⟨_,rfl⟩;obtain ⟨x1,hx1⟩:∃ x1,sOf (xb x countP)=x1:=⟨_,rfl⟩;unfold PTook at HC;rw [hN,hx1] at HC;rw [hN,hx1] at hN0;rw [hN,hx1];rw [hN] at hNn;obtain ⟨Lb,hLb⟩:∃ L,(xb x1 fun r=>repP (labF t) N [] r)=L:=⟨_,rfl⟩;rw [hLb];have HLb:=hid hLb;have HI:=hid hI;have HT:=hid hT;have HR:=hid hr1;have HZ:=hid hN0;clear h hI hT hR hr1 hN hx1 hLb hN0;go_enter Tryz.func179,Tryz.ntmps179
 go_wp2_with fail;refine HC.out.mono ?_;rintro e w1 ⟨rfl,hX1,hK1⟩;have HX1:=hid hX1;have HK1:=hid hK1;clear hX1 hK1;go_wp2_with fail;go_loopw [5,9] (fun s i wr=>∃ (k:Nat) (y:Rest) (out:List Lab) (bo:Nat) (Ao:Option Addr) (co:Nat),k≤N∧i=.int .i64 (k:Int)∧s=.slice Ao k co∧Hid (out.length=k)∧Hid (WX wr g A n c xs y)∧Hid (Kp g g w wr) ∧
  Hid (OwN w wr bo 96 2 Ao k co (cL out))∧Hid ((xb y fun r=>repP (labF t) (N - k) out r)=Lb)∧Hid (∀ e,y=.error e→N=0)) (fun _ i _=>N - (intOf i).toNat)
 case atStart=>exact ⟨0,x1,[],0,none,0,Nat.zero_le _,rfl,rfl,hid rfl,HX1,HK1,hid (OwN.nil _ _ _ _ _),HLb,HZ⟩
 case round =>
  clear HX1 HK1 HC HLb HZ
  rename World=>wr
  obtain ⟨k,y,out,bo,Ao,co,hk,rfl,rfl,HLn,HY,HK,HO,HB,HE⟩:=hrel;by_cases hlt:k < N
  ·have hltI:(k:Int) < (N:Int):=by omega
   obtain ⟨r,rfl⟩:∃ r,y=.ok r:=by
    cases y with
    | ok r=>exact ⟨r,rfl⟩
    | error e=>have:=HE.out e rfl;omega
   have c0:=(HR.out wr HK.out).c0;have HL:=hid (PLabel_u wr rb g b n c bt nt ct A At xs (.ok r) t out HY.out (HI.out.kp HK.out) (HR.out wr HK.out) (HT.out.kp HK.out));have HB2:Hid ((xb (labF t out r) fun p=>repP (labF t) (N - (k+1)) (out++[p.1]) p.2)=Lb):=hid (by
    have:=HB.out;rw [xb_ok,show N - k=(N - (k+1))+1 by omega,repP] at this;exact this)
   rw [xb_ok] at HL;obtain ⟨X,hX⟩:∃ X,labF t out r=X:=⟨_,rfl⟩;rw [hX] at HL HB2;clear hX HB c0;go_wp2_with fail;refine HL.out.mono ?_;rintro e w2 ⟨a1,a2,rfl,hv,hX2,hK2⟩;have hn3:Nw w2 (w2.alloc (.cells #[.string a1,.string a2] 96)):=(Nw.refl w2).alloc' _;have HO3:=hid ((HO.out.keep (HY.out.ktl hK2) (by decide)).nw hn3);have HK3:=hid ((HK.out.trans hK2 (.inl rfl) (.inl rfl)).nw' hn3);have HX3:=hid (hX2.nw hn3);have HV:=hid hv;have hz3:=heap_alloc_new w2 (.cells #[.string a1,.string a2] 96);obtain ⟨Z,hZ⟩:∃ Z,w2.heap.size=Z:=⟨_,rfl⟩;rw [hZ] at hz3;have HZ3:=hid hz3;have HZs:=hid hZ;have c03:=(HR.out _ HK3.out).c0;have HEr:=hid (WErr_u _ g n c A xs _ HX3.out);clear hv hX2 hK2 hn3 hz3 hZ HL;go_wp2_with fail;rw [HZs.out];generalize w2.alloc (.cells #[.string a1,.string a2] 96)=w3 at *;refine HEr.out.mono ?_;rintro e w4 ⟨rfl,rfl⟩;cases X with
   | error er =>
    have hk1:((er:Int) != 0)=true:=by rw [bne_iff_ne];have:=HX3.out.1;omega
    have hk2:(((eOf (sOf (.error er:Except Nat (Lab × List Nat))):Nat):Int) != 0)=true:=hk1;have HE2:Hid (Lb=.error er):=hid HB2.out.symm;clear HEr;go_wp2_with fail;go_ret;refine ⟨[],0,none,0,rfl,OwN.nil _ _ _ _ _,fun p hp=>?_,?_,HK3.out⟩
    ·rw [HE2.out] at hp;cases hp
    ·rw [HE2.out];exact HX3.out
   | ok p =>
    obtain ⟨l,r2⟩:=p;obtain rfl:=HV.out _ rfl;have hk2:(((eOf (sOf (.ok ((a1,a2),r2):Except Nat (Lab × List Nat))):Nat):Int) != 0)=false:=rfl;have z0:w3.cell? ⟨Z,0,none⟩=some (.string a1):=cell_at (k:=0) HZ3.out;have z1:w3.cell? ⟨Z,1,none⟩=some (.string a2):=cell_at (k:=1) HZ3.out;clear HEr;go_wp2_with (at_builtin;refine wpList_appL E_lab rfl (.tmp 19) (.tmp 21) rfl rfl HO3.out HK3.out.size rfl rfl (by simp [Value.oneCell']) (by omega) (by omega) ?_;intro b5 A5 c5 w5 q1 q2 q3;have Q1:=hid q1;have Q2:=hid q2;have Q3:=hid q3;clear q1 q2 q3)
    go_roundw
    case rel=>exact ⟨k+1,.ok r2,out++[(a1,a2)],b5,A5,c5,by omega,by go_num,rfl,hid (by rw [List.length_append,HLn.out];rfl),hid (HX3.out.keep Q3.out (by decide)),hid (HK3.out.up Q2.out),hid (by have:=Q1.out;unfold cL at this ⊢;rw [c2_append];exact this),HB2,hid fun e he=>(by cases he)⟩
    case measure=>simp [intOf];omega
  ·have hltI:¬ (k:Int) < (N:Int):=by omega
   have HF:Hid ((∀ p,Lb=.ok p→p.1=out)∧sOf Lb=y):=hid (by
    have:=HB.out;rw [show N - k=0 by omega] at this;cases y with
    | error e =>
     have this:Except.error e=Lb:=this;rw [← this];exact ⟨fun p hp=>(by cases hp),rfl⟩
    | ok r =>
     have this:Except.ok (out,r)=Lb:=this;rw [← this];exact ⟨fun p hp=>(by injection hp with hp;rw [← hp]),rfl⟩)
   clear hlt;go_wp2_with fail;go_ret;refine ⟨out,bo,Ao,co,(by rw [HLn.out];rfl),by rw [HLn.out];exact HO.out,HF.out.1,?_,HK.out⟩;rw [HF.out.2];exact HY.out
end
end
section
open Go Go.RowKit Go.Lib Go.Sort Go.Shelf
theorem lenF_of (acc:List Nat) (x:Rest):xb x (lenF acc)=match xb x vget0 with | .ok (v,r)=>if v < 1∨2147483647 < v then .error 23 else .ok (v,r) | .error k=>.error k:=by
 cases x with
 | error k=>rfl
 | ok r =>
  show xb (vget0 r) _=match vget0 r with | .ok (v,r)=>_ | .error k=>_
  cases vget0 r<;>rfl
def PLenOut (w:World) (g:Nat) (A:Option Addr) (n c:Nat) (xs:List Nat) (X:Except Nat (Nat × List Nat)) (e:Ending) (w':World):Prop :=
 ∃ v:Int,e=.returned (.int .i64 v)∧(∀ p,X=.ok p→v=(p.1:Int))∧WX w' g A n c xs (sOf X)∧Kp g g w w'
def lensQ (bs:List Nat):Except Nat (List Nat × List Nat):=xb (countP bs) fun c=>repP lenF c.1 [] c.2
theorem lensQ_eq (x:Rest):xb x lensQ=xb (sOf (xb x countP)) fun r=>repP lenF (vOf 0 (xb x countP)) [] r:=by
 cases x with
 | error k=>rfl
 | ok r =>
  show lensQ r=xb (sOf (countP r)) fun r'=>repP lenF (vOf 0 (countP r)) [] r'
  unfold lensQ;cases countP r with
  | error k=>rfl
  | ok p=>rfl
theorem lensQ_P (y:Rest) (ls:List Nat) (h1:∀ p,xb y lensQ=.ok p→p.1=ls) (h2:∀ k,xb y lensQ=.error k→ls=[]) :
  (ls.length=0→failX 23 (sOf (xb y lensQ))=sOf (xb y lensP))∧(ls.length≠0→xb y lensQ=xb y lensP):=by
 cases y with
 | error k=>exact ⟨fun _=>rfl,fun _=>rfl⟩
 | ok r =>
  have h1:∀ p,lensQ r=.ok p→p.1=ls:=h1;have h2:∀ k,lensQ r=.error k→ls=[]:=h2;show (_→failX 23 (sOf (lensQ r))=sOf (lensP r))∧(_→lensQ r=lensP r)
  unfold lensQ lensP at *;cases hc:countP r with
  | error k=>exact ⟨fun _=>rfl,fun _=>rfl⟩
  | ok p =>
   obtain ⟨N,q⟩:=p;rw [hc] at h1 h2;have h1:∀ p,repP lenF N [] q=.ok p→p.1=ls:=h1;have h2:∀ k,repP lenF N [] q=.error k→ls=[]:=h2;show (_→failX 23 (sOf (repP lenF N [] q))=sOf (if N=0 then .error 23 else repP lenF N [] q))∧(_→repP lenF N [] q=if N=0 then .error 23 else repP lenF N [] q)
   by_cases hN:N=0
   ·subst hN;have h3:=h1 ([],q) rfl;subst h3;exact ⟨fun _=>rfl,fun h=>(h rfl).elim⟩
   ·rw [if_neg hN];refine ⟨fun hl=>?_,fun _=>rfl⟩;cases hr:repP lenF N [] q with
    | error k=>rfl
    | ok p =>
     have h4:=repP_len N hr;rw [h1 p hr] at h4;simp at h4;omega
section
variable (w:World) (rb g b n c bt nt ct:Nat) (A At:Option Addr) (xs:List Nat) (x:Rest) (t:List ByteArray)
set_option maxRecDepth 100000 in
theorem PLength_u (acc:List Nat) (h:WX w g A n c xs x) (hI:WIn w g b A n c xs) (hR:RrS w rb g At nt ct n) :
  Calls Tryz.prog 182 #[.pointer (some ⟨rb,0,none⟩)] w (PLenOut w g A n c xs (xb x (lenF acc))):=by
 have HU:=hid (WUint_u w g b n c A xs x h hI);have HR:Hid (∀ W,Kp g g w W→RrS W rb g At nt ct n):=hid fun W hK=>hR.kp h hK
 have c0:=hR.c0;have hZ:=lenF_of acc x;obtain ⟨X,hX⟩:∃ X,xb x vget0=X:=⟨_,rfl⟩;rw [hX] at HU hZ;generalize xb x (lenF acc)=Z at hZ ⊢;obtain ⟨v,hv⟩:∃ v,vOf 0 X=v:=⟨_,rfl⟩;rw [hv] at HU;have HV:=hid hv;clear h hI hR hX hv;by_cases hb:v < 1∨2147483647 < v
 ·have HE:Hid (∃ k,failX 23 (sOf X)=.error k∧Z=.error k):=hid (by
   rw [hZ];cases X with
   | error k=>exact ⟨k,rfl,rfl⟩
   | ok p =>
    obtain ⟨u,r⟩:=p;obtain rfl:u=v:=HV.out;exact ⟨23,rfl,by dsimp only;rw [if_pos hb]⟩)
  by_cases hv2:v < 1
  case' pos =>
   have hv2I:(v:Int) < 1:=by omega
   clear hb hv2 hZ;go_enter Tryz.func182,Tryz.ntmps182
  case' neg =>
   have hv2I:¬ (v:Int) < 1:=by omega
   have hv3I:(2147483647:Int) < (v:Int):=by omega
   clear hb hv2 hZ;go_enter Tryz.func182,Tryz.ntmps182
  all_goals
   go_wp2_with fail;refine HU.out.mono ?_;rintro e w2 ⟨rfl,hX2,hK2⟩;have HF:=hid (WFail_u w2 g n c A xs _ 23 (by omega) hX2);have HK2:=hid hK2;have c0':=(HR.out w2 hK2).c0;clear hX2 hK2 c0;go_wp2_with fail;refine HF.out.mono ?_;rintro e w3 ⟨rfl,hX3,hK3⟩;have HX3:=hid hX3;have HK3:=hid (HK2.out.trans hK3 (.inl rfl) (.inl rfl));clear hX3 hK3;go_wp2_with fail;go_ret;obtain ⟨k,h1,h2⟩:=HE.out;rw [h2];refine ⟨_,rfl,fun p hp=>(by cases hp),?_,HK3.out⟩;have:=HX3.out;rw [h1] at this;exact this
 ·have hv2I:¬ (v:Int) < 1:=by omega
  have hv3I:¬ (2147483647:Int) < (v:Int):=by omega
  have hvw:wrap64 (v:Int)=(v:Int):=IntWalk.wrap64_in _ (by omega);have HE:Hid (∃ r,X=.ok (v,r)∧Z=.ok (v,r)):=hid (by
   rw [hZ];cases X with
   | error k=>exact (hb (.inl (by rw [← HV.out];show 0 < 1;omega))).elim
   | ok p =>
    obtain ⟨u,r⟩:=p;obtain rfl:u=v:=HV.out;exact ⟨r,rfl,by dsimp only;rw [if_neg hb]⟩)
  clear hb hZ;go_enter Tryz.func182,Tryz.ntmps182
  go_wp2_with fail;refine HU.out.mono ?_;rintro e w2 ⟨rfl,hX2,hK2⟩;have HX2:=hid hX2;have HK2:=hid hK2;clear hX2 hK2;go_wp2_with fail;go_ret;obtain ⟨r,h1,h2⟩:=HE.out;rw [h2];refine ⟨_,rfl,fun p hp=>(by injection hp with hp;rw [← hp]),?_,HK2.out⟩;have:=HX2.out;rw [h1] at this;exact this
def PIntsOut (w:World) (g:Nat) (A:Option Addr) (n c:Nat) (xs:List Nat) (X:Except Nat (List Nat × List Nat)) (e:Ending) (w':World):Prop :=
 ∃ (l:List Nat) (bo:Nat) (Ao:Option Addr) (co:Nat),e=.returned (.slice Ao l.length co)∧OwN w w' bo 3 1 Ao l.length co (cN .i64 l)∧(∀ p,X=.ok p→p.1=l)∧(∀ k,X=.error k→l=[])∧WX w' g A n c xs (sOf X)∧Kp g g w w'
set_option maxRecDepth 100000 in
set_option maxHeartbeats 1000000 in
theorem PInts_u (h:WX w g A n c xs x) (hI:WIn w g b A n c xs) (hR:RrS w rb g At nt ct n) :
  Calls Tryz.prog 181 #[.pointer (some ⟨rb,0,none⟩),.func (.func 182) #[.pointer (some ⟨rb,0,none⟩)] #[]] w (PIntsOut w g A n c xs (xb x lensQ)):=by
 have ent:∀ args W,(callFunc 182 args).run Tryz.prog W=.ok (.enter 182 args) W:=enters_of Tryz.func182 (by kernel_rfl) rfl;have HC:=hid (PCount_u w rb g b n c nt ct A At xs x h hI hR);have hm:=hI.small;have hNn:=vOf_le (h.len hI.len);rw [lensQ_eq];have hN0:∀ k,sOf (xb x countP)=.error k→vOf 0 (xb x countP)=0:=fun k hk=>by
  cases hq:xb x countP with
  | error j=>rfl
  | ok p=>rw [hq] at hk;cases hk
 have hr1:∀ W,Kp g g w W→RrS W rb g At nt ct n:=fun W hK=>hR.kp h hK
 obtain ⟨N,hN⟩:∃ N,vOf 0 (xb x countP)=N:=⟨_,rfl⟩;obtain ⟨x1,hx1⟩:∃ x1,sOf (xb x countP)=x1:=⟨_,rfl⟩;unfold PTook at HC;rw [hN,hx1] at HC;rw [hN,hx1] at hN0;rw [hN,hx1];rw [hN] at hNn;obtain ⟨Lb,hLb⟩:∃ L,(xb x1 fun r=>repP lenF N [] r)=L:=⟨_,rfl⟩;rw [hLb];have HLb:=hid hLb;have HI:=hid hI;have HR:=hid hr1;have HZ:=hid hN0;clear h hI hR hr1 hN hx1 hLb hN0;go_enter Tryz.func181,Tryz.ntmps181
 go_wp2_with fail;refine HC.out.mono ?_;rintro e w1 ⟨rfl,hX1,hK1⟩;have HX1:=hid hX1;have HK1:=hid hK1;clear hX1 hK1;go_wp2_with fail;go_loopw [5,9] (fun s i wr=>∃ (k:Nat) (y:Rest) (out:List Nat) (bo:Nat) (Ao:Option Addr) (co:Nat),k≤N∧i=.int .i64 (k:Int)∧s=.slice Ao k co∧Hid (out.length=k)∧Hid (WX wr g A n c xs y)∧Hid (Kp g g w wr) ∧
  Hid (OwN w wr bo 3 1 Ao k co (cN .i64 out))∧Hid ((xb y fun r=>repP lenF (N - k) out r)=Lb)∧Hid (∀ e,y=.error e→N=0)) (fun _ i _=>N - (intOf i).toNat)
 case atStart=>exact ⟨0,x1,[],0,none,0,Nat.zero_le _,rfl,rfl,hid rfl,HX1,HK1,hid (OwN.nil _ _ _ _ _),HLb,HZ⟩
 case round =>
  clear HX1 HK1 HC HLb HZ
  rename World=>wr
  obtain ⟨k,y,out,bo,Ao,co,hk,rfl,rfl,HLn,HY,HK,HO,HB,HE⟩:=hrel;by_cases hlt:k < N
  ·have hltI:(k:Int) < (N:Int):=by omega
   obtain ⟨r,rfl⟩:∃ r,y=.ok r:=by
    cases y with
    | ok r=>exact ⟨r,rfl⟩
    | error e=>have:=HE.out e rfl;omega
   have HL:=hid (PLength_u wr rb g b n c nt ct A At xs (.ok r) out HY.out (HI.out.kp HK.out) (HR.out wr HK.out));have HB2:Hid ((xb (lenF out r) fun p=>repP lenF (N - (k+1)) (out++[p.1]) p.2)=Lb):=hid (by
    have:=HB.out;rw [xb_ok,show N - k=(N - (k+1))+1 by omega,repP] at this;exact this)
   rw [xb_ok] at HL;obtain ⟨X,hX⟩:∃ X,lenF out r=X:=⟨_,rfl⟩;rw [hX] at HL HB2;clear hX HB;go_wp2_with fail;refine HL.out.mono ?_;rintro e w3 ⟨v,rfl,hv,hX2,hK2⟩;have HO3:=hid (HO.out.keep (HY.out.ktl hK2) (by decide));have HK3:=hid (HK.out.trans hK2 (.inl rfl) (.inl rfl));have HX3:=hid hX2;have HV:=hid hv;have c03:=(HR.out _ HK3.out).c0;have HEr:=hid (WErr_u _ g n c A xs _ HX3.out);clear hv hX2 hK2 HL;go_wp2_with fail;refine HEr.out.mono ?_;rintro e w4 ⟨rfl,rfl⟩;cases X with
   | error er =>
    have hk1:((er:Int) != 0)=true:=by rw [bne_iff_ne];have:=HX3.out.1;omega
    have hk2:(((eOf (sOf (.error er:Except Nat (Nat × List Nat))):Nat):Int) != 0)=true:=hk1;have HE2:Hid (Lb=.error er):=hid HB2.out.symm;clear HEr;go_wp2_with fail;go_ret;refine ⟨[],0,none,0,rfl,OwN.nil _ _ _ _ _,fun p hp=>?_,fun _ _=>rfl,?_,HK3.out⟩
    ·rw [HE2.out] at hp;cases hp
    ·rw [HE2.out];exact HX3.out
   | ok p =>
    obtain ⟨l,r2⟩:=p;obtain rfl:=HV.out _ rfl;have hk2:(((eOf (sOf (.ok (l,r2):Except Nat (Nat × List Nat))):Nat):Int) != 0)=false:=rfl;clear HEr;go_wp2_with (at_builtin;refine wpList_appL E_int rfl (.tmp 19) (.tmp 21) rfl rfl HO3.out HK3.out.size rfl rfl (by simp [Value.oneCell']) (by omega) (by omega) ?_;intro b5 A5 c5 w5 q1 q2 q3;have Q1:=hid q1;have Q2:=hid q2;have Q3:=hid q3;clear q1 q2 q3)
    go_roundw
    case rel=>exact ⟨k+1,.ok r2,out++[l],b5,A5,c5,by omega,by go_num,rfl,hid (by rw [List.length_append,HLn.out];rfl),hid (HX3.out.keep Q3.out (by decide)),hid (HK3.out.up Q2.out),hid (by have:=Q1.out;unfold cN at this ⊢;rw [List.map_append];exact this),HB2,hid fun e he=>(by cases he)⟩
    case measure=>simp [intOf];omega
  ·have hltI:¬ (k:Int) < (N:Int):=by omega
   have HF:Hid ((∀ p,Lb=.ok p→p.1=out)∧(∀ j,Lb=.error j→out=[])∧sOf Lb=y):=hid (by
    have:=HB.out;rw [show N - k=0 by omega] at this;cases y with
    | error e =>
     have hN0:=HE.out e rfl;have this:Except.error e=Lb:=this;rw [← this];exact ⟨fun p hp=>(by cases hp),fun _ _=>List.eq_nil_of_length_eq_zero (by rw [HLn.out];omega),rfl⟩
    | ok r =>
     have this:Except.ok (out,r)=Lb:=this;rw [← this];exact ⟨fun p hp=>(by injection hp with hp;rw [← hp]),fun j hj=>(by cases hj),rfl⟩)
   clear hlt;go_wp2_with fail;go_ret;refine ⟨out,bo,Ao,co,(by rw [HLn.out];rfl),by rw [HLn.out];exact HO.out,HF.out.1,HF.out.2.1,?_,HK.out⟩;rw [HF.out.2.2];exact HY.out
theorem run_load2R {W:World} {g:Nat} {a b:Value} {t:TypeId} (h:W.heap[g]? = some (.cells #[a,b] t (0,0))):(loadVar 118 ⟨g,0,none⟩).run Tryz.prog W=.ok (.agg #[a,b]) W:=by
 have c0:W.cell? ⟨g,0,none⟩=some a:=cell_at (k:=0) h;have c1:W.cell? ⟨g,1,none⟩=some b:=cell_at (k:=1) h;simp [loadVar,loadCells,loadCellsFrom,go_sem,c0,c1]
def PRecOut (w:World) (g:Nat) (A:Option Addr) (n c:Nat) (xs:List Nat) (X:Except Nat (RecV × List Nat)) (e:Ending) (w':World):Prop :=
 ∃ r:RecS,e=.returned (.agg #[.slice r.al r.labs.length r.cl,.slice r.ac r.chks.length r.cc])∧OwN w w' r.bl 96 2 r.al r.labs.length r.cl (cL r.labs)∧OwN w w' r.bc 3 1 r.ac r.chks.length r.cc (cN .i64 r.chks) ∧
  (∀ p,X=.ok p→p.1=valR r)∧WX w' g A n c xs (sOf X)∧Kp g g w w'
theorem recF_st (t:List ByteArray) (acc:List RecV) (x:Rest):sOf (xb x (recF t acc))=sOf (xb (sOf (xb x (labsP t))) lensP):=by
 cases x with
 | error k=>rfl
 | ok r =>
  show sOf (recF t acc r)=sOf (xb (sOf (labsP t r)) lensP)
  unfold recF;cases labsP t r with
  | error k=>rfl
  | ok p =>
   obtain ⟨a,q⟩:=p;show sOf (xb (lensP q) _)=sOf (lensP q)
   cases lensP q<;>rfl
theorem recF_val {t:List ByteArray} {acc:List RecV} {x:Rest} {l:List Lab} {ls:List Nat} (h1:∀ p,xb x (labsP t)=.ok p→p.1=l) (h2:∀ p,xb (sOf (xb x (labsP t))) lensP=.ok p→p.1=ls) (p:RecV × List Nat) (h:xb x (recF t acc)=.ok p):p.1=(l,ls):=by
 cases x with
 | error k=>cases h
 | ok r =>
  have h:recF t acc r=.ok p:=h;have h1:∀ p,labsP t r=.ok p→p.1=l:=h1;have h2:∀ p,xb (sOf (labsP t r)) lensP=.ok p→p.1=ls:=h2;unfold recF at h;cases hs:labsP t r with
  | error k=>rw [hs] at h;cases h
  | ok q =>
   obtain ⟨a,q⟩:=q;rw [hs] at h h2;have h2:∀ p,lensP q=.ok p→p.1=ls:=h2;have h:xb (lensP q) (fun v=>.ok ((a,v.1),v.2))=.ok p:=h;cases hs2:lensP q with
   | error k=>rw [hs2] at h;cases h
   | ok z =>
    rw [hs2] at h;injection h with h
    rw [← h,← h1 _ hs,← h2 _ hs2]
set_option maxRecDepth 100000 in
set_option maxHeartbeats 1000000 in
theorem PRecord_u (acc:List RecV) (h:WX w g A n c xs x) (hI:WIn w g b A n c xs) (hR:RrS w rb g At nt ct n) (hT:TIn w g bt At nt t) :
  Calls Tryz.prog 111 #[.pointer (some ⟨rb,0,none⟩)] w (PRecOut w g A n c xs (xb x (recF t acc))):=by
 have hmf:∀ (fn:Fn) (first cap:Array Value) (w:World),(Instr.makeFunc fn first cap).run Tryz.prog w=.ok (.func fn first cap) w:=fun _ _ _ _=>rfl
 have hS:=recF_st t acc x;have hV:=fun (l:List Lab) (ls:List Nat)=>recF_val (t:=t) (acc:=acc) (x:=x) (l:=l) (ls:=ls)
 have hn1:Nw w (w.alloc (.cells #[.slice none 0 0,.slice none 0 0] 118)):=(Nw.refl w).alloc' _;have hD:=heap_alloc_new w (.cells #[.slice none 0 0,.slice none 0 0] 118);have HL:=hid (PLabs_u _ rb g b n c bt nt ct A At xs x t (h.nw hn1) (hI.nw hn1) (hR.nw hn1) (hT.nw hn1));have HN1:=hid hn1;have HD:=hid hD;have HX:=hid (h.nw hn1);have HI:=hid (hI.nw hn1);have HR:=hid (hR.nw hn1);obtain ⟨X1,hX1⟩:∃ X,xb x (labsP t)=X:=⟨_,rfl⟩;obtain ⟨y1,hy1⟩:∃ z,sOf X1=z:=⟨_,rfl⟩;rw [hX1,hy1] at hS hV;rw [hX1] at HL;obtain ⟨X,hX⟩:∃ X,xb x (recF t acc)=X:=⟨_,rfl⟩;rw [hX] at hS hV ⊢;have HV:=hid (And.intro hV hS);have HE:=hid hy1;obtain ⟨D,hDD⟩:∃ D,w.heap.size=D:=⟨_,rfl⟩;rw [hDD] at HD;have HDD:=hid hDD;clear h hI hR hT hn1 hD hV hS hX1 hy1 hX hDD;go_enter Tryz.func111,Tryz.ntmps111
 go_wp2_with fail;rw [HDD.out];generalize w.alloc (.cells #[.slice none 0 0,.slice none 0 0] 118)=w1 at *;refine HL.out.mono ?_;rintro e w2 ⟨l1,bo,Ao,co,rfl,hO2,hl1,hX2,hK2⟩;rw [HE.out] at hX2;have hn3:Nw w2 (w2.alloc (.cells #[.slice Ao l1.length co,.slice none 0 0] 118)):=(Nw.refl w2).alloc' _;have hz3:=heap_alloc_new w2 (.cells #[.slice Ao l1.length co,.slice none 0 0] 118);obtain ⟨Z,hZ⟩:∃ Z,w2.heap.size=Z:=⟨_,rfl⟩;rw [hZ] at hz3;have HZs:=hid hZ;have HZ3:=hid hz3;have HX3:=hid (hX2.nw hn3);have HK3:=hid (hK2.nw' hn3);have HO3:=hid ((hO2.mono HN1.out.size).nw hn3);have HL1:=hid hl1;have HD3:=hid ((hn3.block _ (lt_of_block ((HX.out.ktl hK2).get HD.out (by decide)))).trans ((HX.out.ktl hK2).get HD.out (by decide)));have HDZ:Hid (D < Z):=hid (by have:=lt_of_block ((HX.out.ktl hK2).get HD.out (by decide));omega);have HLi:=hid (PInts_u _ rb g b n c nt ct A At xs y1 HX3.out (HI.out.kp HK3.out) (HR.out.kp HX.out HK3.out));clear hO2 hl1 hX2 hK2 hn3 hz3 hZ HL;go_wp2_with fail;rw [HZs.out];generalize w2.alloc (.cells #[.slice Ao l1.length co,.slice none 0 0] 118)=w3 at *;refine HLi.out.mono ?_;rintro e w4 ⟨ls,bc,Ac,cc,rfl,hO4,hl4,he4,hX4,hK4⟩;have hk4:=HX3.out.ktl hK4;have hz4:=hk4.get HZ3.out (by decide);have hks:Kp Z Z w4 (w4.setCell ⟨Z,1,none⟩ (.slice Ac ls.length cc)):=(Kp.refl _ _ _).setCell' (p:=⟨Z,1,none⟩) (.inl rfl) _;have hkl:=hks.ktl hz4;have z1:w4.cell? ⟨Z,1,none⟩=some (.slice none 0 0):=cell_at (k:=1) hz4;have f1:w4.frozen? ⟨Z,1,none⟩=false:=at_free hz4;have hz5:=set_at (k:=1) (.slice Ac ls.length cc) hz4;have HZ5:Hid ((w4.setCell ⟨Z,1,none⟩ (.slice Ac ls.length cc)).heap[Z]? = some (.cells #[.slice Ao l1.length co,.slice Ac ls.length cc] 118 (0,0))):=hid (by simpa using hz5);have hd4:=hk4.get HD3.out (by decide);have hne:D≠Z:=by have:=HDZ.out;omega
 have HD5:=hid ((hks.block D (lt_of_block hd4) hne hne).trans hd4);have HX5:=hid (hX4.keep hkl (by decide));have HO5:=hid ((HO3.out.keep hk4 (by decide)).keep hkl (by decide));have HOi:=hid ((hO4.mono (w0:=w) (Nat.le_trans HN1.out.size HK3.out.size)).keep hkl (by decide));have hwZ:w.heap.size≤Z:=by have:=HDD.out;have:=HDZ.out;omega
 have HK5:Hid (Kp g g w (w4.setCell ⟨Z,1,none⟩ (.slice Ac ls.length cc))):=hid ((((HN1.out.kp g g).trans HK3.out (.inl rfl) (.inl rfl)).trans hK4 (.inl rfl) (.inl rfl)).up (Up.of_kp hks hwZ));have HR5:=hid (((HR.out.kp HX.out HK3.out).kp HX3.out hK4).keep hkl (by decide));have HQ:=hid (lensQ_P y1 ls hl4 he4);have HL4:=hid hl4;have z40:w4.cell? ⟨Z,0,none⟩=some (.slice Ao l1.length co):=cell_at (k:=0) hz4;have c04:=((HR.out.kp HX.out HK3.out).kp HX3.out hK4).c0;have d40:w4.cell? ⟨D,0,none⟩=some (.slice none 0 0):=cell_at (k:=0) hd4;have d41:w4.cell? ⟨D,1,none⟩=some (.slice none 0 0):=cell_at (k:=1) hd4;have fd0:w4.frozen? ⟨D,0,none⟩=false:=at_free hd4;have fd1:w4.frozen? ⟨D,1,none⟩=false:=at_free hd4;have hrz:rb≠Z:=ty_ne ((HR.out.kp HX.out HK3.out).kp HX3.out hK4) hz4 (by decide);have hrz1:¬ rb=Z:=hrz;have hrz2:¬ Z=rb:=Ne.symm hrz;have hdz1:¬ D=Z:=hne;have hdz2:¬ Z=D:=Ne.symm hne;clear hO4 hl4 he4 hX4 hK4 hk4 hz4 hks hkl hz5 hd4 hne HLi hwZ hrz;have HW:Hid (w.heap.size≤D):=hid (Nat.le_of_eq HDD.out);by_cases hL0:ls.length=0
 case' pos =>
  have hLI:((ls.length:Int) == 0)=true:=by rw [beq_iff_eq];omega
  have HSt:Hid (failX 23 (sOf (xb y1 lensQ))=sOf X∧∀ p,X=.ok p→p.1=(l1,ls)):=hid (by
   have h0:=HQ.out.1 hL0;refine ⟨by rw [h0];exact HV.out.2.symm,HV.out.1 l1 ls HL1.out fun p hp=>?_⟩;rw [hp] at h0;cases hq:xb y1 lensQ with
   | error k=>rw [hq] at h0;cases h0
   | ok p=>rw [hq] at h0;cases h0)
  have HF:=hid (WFail_u _ g n c A xs _ 23 (by omega) HX5.out);clear hL0 HQ;go_wp2_with fail;refine HF.out.mono ?_;rintro e w6 ⟨rfl,hX6,hK6⟩;have hk6:=HX5.out.ktl hK6;have HX6:=hid hX6;rw [HSt.out.1] at HX6;have HZ6:=hid (hk6.get HZ5.out (by decide));have HD6:=hid (hk6.get HD5.out (by decide));have HO6:=hid (HO5.out.keep hk6 (by decide));have HOj:=hid (HOi.out.keep hk6 (by decide));have HK6:=hid (HK5.out.trans hK6 (.inl rfl) (.inl rfl));have z60:w6.cell? ⟨Z,0,none⟩=some (.slice Ao l1.length co):=cell_at (k:=0) HZ6.out;have z61:w6.cell? ⟨Z,1,none⟩=some (.slice Ac ls.length cc):=cell_at (k:=1) HZ6.out;have d60:w6.cell? ⟨D,0,none⟩=some (.slice none 0 0):=cell_at (k:=0) HD6.out;have d61:w6.cell? ⟨D,1,none⟩=some (.slice none 0 0):=cell_at (k:=1) HD6.out;have fe0:w6.frozen? ⟨D,0,none⟩=false:=at_free HD6.out;have fe1:w6.frozen? ⟨D,1,none⟩=false:=at_free HD6.out;clear hX6 hK6 hk6 z40 z1 f1 c04 HF d40 d41 fd0 fd1;go_wp2_with fail
 case' neg =>
  have hLI:((ls.length:Int) == 0)=false:=by rw [beq_eq_false_iff_ne];omega
  have HSt:Hid (sOf (xb y1 lensQ)=sOf X∧∀ p,X=.ok p→p.1=(l1,ls)):=hid (by
   have h0:=HQ.out.2 hL0;refine ⟨by rw [h0];exact HV.out.2.symm,HV.out.1 l1 ls HL1.out fun p hp=>?_⟩;rw [← h0] at hp;exact HL4.out p hp)
  have HX6:=HX5;rw [HSt.out.1] at HX6;have HZ6:=HZ5;have HD6:=HD5;have HO6:=HO5;have HOj:=HOi;have HK6:=HK5;clear hL0 HQ HX5 HZ5 HD5 HO5 HOi HK5 HR5;go_wp2_with fail;generalize w4.setCell ⟨Z,1,none⟩ (.slice Ac ls.length cc)=w6 at *
 all_goals
  have hs1:=set_at (k:=0) (.slice Ao l1.length co) HD6.out;have hs2:=set_at (k:=1) (.slice Ac ls.length cc) hs1;have hk1:Kp D D w6 (w6.setCell ⟨D,0,none⟩ (.slice Ao l1.length co)):=(Kp.refl _ _ _).setCell' (p:=⟨D,0,none⟩) (.inl rfl) _;have hk2:Kp D D _ ((w6.setCell ⟨D,0,none⟩ (.slice Ao l1.length co)).setCell ⟨D,1,none⟩ (.slice Ac ls.length cc)):=(Kp.refl _ _ _).setCell' (p:=⟨D,1,none⟩) (.inl rfl) _;have hl1:=hk1.ktl HD6.out;have hl2:=hk2.ktl hs1;have hOj:=(HOj.out.keep hl1 (by decide)).keep hl2 (by decide);refine bodyPost_ret (results_c1 rfl _ _ ⟨D,0,none⟩ rfl (run_load2R (a:=.slice Ao l1.length co) (b:=.slice Ac ls.length cc) (by simpa using hs2))) rfl ⟨⟨l1,ls,bo,Ao,co,bc,Ac,cc⟩,?_,(HO6.out.keep hl1 (by decide)).keep hl2 (by decide),?_,HSt.out.2,(HX6.out.keep hl1 (by decide)).keep hl2 (by decide),?_⟩
  ·rfl
  ·exact hOj
  ·exact (HK6.out.up (Up.of_kp hk1 HW.out)).up (Up.of_kp hk2 HW.out)
end
end
section
open Go Go.RowKit Go.Lib Go.Sort Go.Shelf
theorem nums_eq (bound:Nat) (y:Rest):xb y (numsP bound)=xb (if vOf 0 (xb y countP)=0 then failX 22 (sOf (xb y countP)) else sOf (xb y countP)) fun r=>repP (numF bound) (vOf 0 (xb y countP)) [] r:=by
 cases y with
 | error k=>rfl
 | ok r =>
  show numsP bound r=xb (if vOf 0 (countP r)=0 then failX 22 (sOf (countP r)) else sOf (countP r)) fun r'=>repP (numF bound) (vOf 0 (countP r)) [] r'
  unfold numsP;cases countP r with
  | error k=>rfl
  | ok p =>
   obtain ⟨v,q⟩:=p;show (if v=0 then _ else _)=xb (if v=0 then failX 22 (.ok q) else .ok q) fun r'=>repP (numF bound) v [] r'
   by_cases hv:v=0
   ·rw [if_pos hv,if_pos hv];rfl
   ·rw [if_neg hv,if_neg hv];rfl
theorem num_ok {bound m d:Nat} {out r r':List Nat} {Lb:Except Nat (List Nat × List Nat)} (h:repP (numF bound) (m+1) out r=Lb) (hv:vget0 r=.ok (d,r')) (h1:d < bound - out.getLastD 0) (h2:out=[]∨0 < d):repP (numF bound) m (out++[out.getLastD 0+d]) r'=Lb:=by
 rw [repP] at h;unfold numF at h;rw [hv,xb_ok] at h;dsimp only at h;rw [if_pos ⟨h1,h2⟩,xb_ok] at h;exact h
theorem num_bad {bound m:Nat} {out r:List Nat} {Lb:Except Nat (List Nat × List Nat)} (h:repP (numF bound) (m+1) out r=Lb) (hb:¬ (vOf 0 (vget0 r) < bound - out.getLastD 0∧(out=[]∨0 < vOf 0 (vget0 r)))):∃ e,failX 22 (sOf (vget0 r))=.error e∧Lb=.error e:=by
 rw [repP] at h;unfold numF at h;cases hv:vget0 r with
 | error k =>
  rw [hv] at h;exact ⟨k,rfl,h.symm⟩
 | ok p =>
  rw [hv] at h hb;have hb:¬ (p.1 < bound - out.getLastD 0∧(out=[]∨0 < p.1)):=hb;rw [xb_ok,if_neg hb] at h;exact ⟨22,rfl,h.symm⟩
theorem num_er {bound m e:Nat} {out r:List Nat} {Lb:Except Nat (List Nat × List Nat)} (h:repP (numF bound) (m+1) out r=Lb) (hv:vget0 r=.error e):Lb=.error e:=by
 rw [repP] at h;unfold numF at h;rw [hv] at h;exact h.symm
def PNumsOut (w:World) (g:Nat) (A:Option Addr) (n c:Nat) (xs:List Nat) (X:Except Nat (List Nat × List Nat)) (e:Ending) (w':World):Prop :=
 ∃ (l:List Nat) (bo:Nat) (Ao:Option Addr) (co:Nat),e=.returned (.slice Ao l.length co)∧OwN w w' bo 3 1 Ao l.length co (cN .i64 l)∧(∀ p,X=.ok p→p.1=l)∧WX w' g A n c xs (sOf X)∧Kp g g w w'
section
variable (w:World) (rb g b n c nt ct:Nat) (A At:Option Addr) (xs:List Nat) (x:Rest)
set_option maxRecDepth 100000 in
set_option maxHeartbeats 2000000 in
theorem PSeries_u (bound:Nat) (hbd:bound≤1000000000) (h:WX w g A n c xs x) (hI:WIn w g b A n c xs) (hR:PrS w rb g At nt ct n) :
  Calls Tryz.prog 124 #[.pointer (some ⟨rb,0,none⟩),.int .u64 (bound:Int)] w (PNumsOut w g A n c xs (xb x (numsP bound))):=by
 have HC:=hid (PPCount_u w rb g b n c nt ct A At xs x h hI hR);have hm:=hI.small;have hNn:=vOf_le (h.len hI.len);rw [nums_eq];have hN0:∀ k,sOf (xb x countP)=.error k→vOf 0 (xb x countP)=0:=fun k hk=>by
  cases hq:xb x countP with
  | error j=>rfl
  | ok p=>rw [hq] at hk;cases hk
 have hr1:∀ W,Kp g g w W→PrS W rb g At nt ct n:=fun W hK=>hR.kp h hK
 obtain ⟨K,hK⟩:∃ K,vOf 0 (xb x countP)=K:=⟨_,rfl⟩;obtain ⟨x1,hx1⟩:∃ x1,sOf (xb x countP)=x1:=⟨_,rfl⟩;unfold PTook at HC;rw [hK,hx1] at HC;rw [hK,hx1] at hN0;rw [hK,hx1];rw [hK] at hNn;obtain ⟨x2,hx2⟩:∃ x2,(if K=0 then failX 22 x1 else x1)=x2:=⟨_,rfl⟩;rw [hx2];obtain ⟨Lb,hLb⟩:∃ L,(xb x2 fun r=>repP (numF bound) K [] r)=L:=⟨_,rfl⟩;rw [hLb];have HLb:=hid hLb;have HI:=hid hI;have HR:=hid hr1;have HZ:Hid (∀ e,x2=.error e→K=0):=hid fun e he=>by
  by_cases hk:K=0
  ·exact hk
  ·rw [if_neg hk] at hx2;exact hN0 e (by rw [hx2];exact he)
 have HX2:=hid hx2;clear h hI hR hr1 hK hx1 hx2 hLb hN0;go_enter Tryz.func124,Tryz.ntmps124
 go_wp2_with fail;refine HC.out.mono ?_;rintro e w1 ⟨rfl,hX1,hK1⟩;have HK1:=hid hK1;have HCk:=hid fun (ok:Bool)=>PCheck_u w1 rb g n c nt ct A At xs _ ok 22 (by omega) hX1 (HR.out w1 hK1)
 clear hX1 hK1 HC;by_cases hk0:0 < K
 case' pos =>
  have hkI:(0:Int) < (K:Int):=by omega
  have hkD:decide (0 < K)=true:=decide_eq_true hk0;have HCc:Hid (Calls Tryz.prog 122 #[.pointer (some ⟨rb,0,none⟩),.bool true,.int .i64 22] w1 fun e w'=>e=.returned (.bool (okB x2))∧WX w' g A n c xs x2∧Kp g g w1 w'):=hid (by
   have:=HCk.out true;have e:x1=x2:=by rw [← HX2.out,if_neg (by omega)]
   rw [← e];exact this)
 case' neg =>
  have hkI:¬ (0:Int) < (K:Int):=by omega
  have hkD:decide (0 < K)=false:=decide_eq_false hk0;have HCc:Hid (Calls Tryz.prog 122 #[.pointer (some ⟨rb,0,none⟩),.bool false,.int .i64 22] w1 fun e w'=>e=.returned (.bool (okB x2))∧WX w' g A n c xs x2∧Kp g g w1 w'):=hid (by
   have:=HCk.out false;have e:failX 22 x1=x2:=by rw [← HX2.out,if_pos (by omega)]
   rw [← e];exact this)
 all_goals
  have HKK:=hid hk0;clear HCk hk0 HX2;go_wp2_with fail;refine HCc.out.mono ?_;rintro e w2 ⟨rfl,hX2,hK2⟩;have HX1:=hid hX2;have HK2:=hid (HK1.out.trans hK2 (.inl rfl) (.inl rfl));clear hX2 hK2 HCc hkI hkD;go_wp2_with fail;go_loopw [6,7,17] (fun s v i wr=>∃ (k last:Nat) (y:Rest) (out:List Nat) (bo:Nat) (Ao:Option Addr) (co:Nat),k≤K∧i=.int .i64 (k:Int)∧v=.int .u64 (last:Int)∧s=.slice Ao k co∧last≤bound∧Hid (out.length=k∧last=out.getLastD 0)∧Hid (WX wr g A n c xs y)∧Hid (Kp g g w wr) ∧
   Hid (OwN w wr bo 3 1 Ao k co (cN .i64 out))∧Hid ((xb y fun r=>repP (numF bound) (K - k) out r)=Lb)∧Hid (∀ e,y=.error e→K=0)) (fun _ _ i _=>K - (intOf i).toNat)
  case atStart=>exact ⟨0,0,x2,[],0,none,0,Nat.zero_le _,rfl,rfl,rfl,Nat.zero_le _,hid ⟨rfl,rfl⟩,HX1,HK2,hid (OwN.nil _ _ _ _ _),HLb,HZ⟩
  case round =>
   clear HX1 HK1 HLb HZ HK2
   rename World=>wr
   obtain ⟨k,last,y,out,bo,Ao,co,hk,rfl,rfl,rfl,hlast,HLn,HY,HK,HO,HB,HE⟩:=hrel;by_cases hlt:k < K
   ·have hltI:(k:Int) < (K:Int):=by omega
    obtain ⟨r,rfl⟩:∃ r,y=.ok r:=by
     cases y with
     | ok r=>exact ⟨r,rfl⟩
     | error e=>have:=HE.out e rfl;omega
    have c0:=(HR.out wr HK.out).c0;have HU:=hid (WUint_u wr g b n c A xs (.ok r) HY.out (HI.out.kp HK.out));rw [xb_ok] at HU;have HB2:Hid (repP (numF bound) (K - (k+1)+1) out r=Lb):=hid (by
     have:=HB.out;rw [xb_ok,show K - k=(K - (k+1))+1 by omega] at this;exact this)
    obtain ⟨M,hM⟩:∃ M,bound - last=M:=⟨_,rfl⟩;have hMI:(bound:Int) - (last:Int)=(M:Int):=by omega
    obtain ⟨d,hd⟩:∃ d,vOf 0 (vget0 r)=d:=⟨_,rfl⟩;rw [hd] at HU;have HD:=hid hd;have HM:=hid hM;have hMb:(M:Int)≤1000000000:=by omega
    clear hd HB;go_wp2_with fail;refine HU.out.mono ?_;rintro e w2 ⟨rfl,hX2,hK2⟩;have HK2:=hid (HK.out.trans hK2 (.inl rfl) (.inl rfl));have HO2:=hid (HO.out.keep (HY.out.ktl hK2) (by decide));have HX2:=hid hX2;have HCk:=hid fun (ok:Bool)=>PCheck_u w2 rb g n c nt ct A At xs _ ok 22 (by omega) hX2 (HR.out w2 HK2.out)
    clear hX2 hK2 HU HO HK c0;by_cases hb:d < M∧(k=0∨0 < d)
    ·have hdM:(d:Int) < (M:Int):=by omega
     have hdD:decide (d < M)=true:=decide_eq_true hb.1;cases hX:vget0 r with
     | error er =>
      have HCc:Hid (Calls Tryz.prog 122 #[.pointer (some ⟨rb,0,none⟩),.bool true,.int .i64 22] w2 fun e w'=>e=.returned (.bool false)∧WX w' g A n c xs (.error er)∧Kp g g w2 w'):=hid (by
       have:=HCk.out true;rw [hX] at this;exact this)
      have HE2:Hid (Lb=.error er):=hid (num_er HB2.out hX);by_cases hkz:k=0
      case' pos =>
       have hkI:((k:Int) == 0)=true:=by rw [beq_iff_eq];omega
       clear hkz hb hX hM
      case' neg =>
       have hkI:((k:Int) == 0)=false:=by rw [beq_eq_false_iff_ne];omega
       have hdI:(0:Int) < (d:Int):=by omega
       have hdZ:decide (0 < d)=true:=decide_eq_true (by omega);clear hkz hb hX hM
      all_goals
       go_wp2_with fail
       ((with_reducible refine HCc.out.mono ?_))
       rintro e w3 ⟨rfl,hX3,hK3⟩;have HX3:=hid hX3;have HK3:=hid (HK2.out.trans hK3 (.inl rfl) (.inl rfl));clear hX3 hK3;go_wp2_with fail;go_ret;refine ⟨[],0,none,0,rfl,OwN.nil _ _ _ _ _,fun p hp=>?_,?_,HK3.out⟩
       ·rw [HE2.out] at hp;cases hp
       ·rw [HE2.out];exact HX3.out
     | ok p =>
      obtain ⟨d',r'⟩:=p;have hdd:d'=d:=by have:=HD.out;rw [hX] at this;exact this
      have HCc:Hid (Calls Tryz.prog 122 #[.pointer (some ⟨rb,0,none⟩),.bool true,.int .i64 22] w2 fun e w'=>e=.returned (.bool true)∧WX w' g A n c xs (.ok r')∧Kp g g w2 w'):=hid (by
       have:=HCk.out true;rw [hX] at this;exact this)
      have HE2:Hid (repP (numF bound) (K - (k+1)) (out++[last+d]) r'=Lb):=hid (by
       rw [hdd] at hX;have hl:=HLn.out;rw [hl.2];exact num_ok HB2.out hX (by rw [← hl.2,HM.out];exact hb.1) (hb.2.imp (fun h=>List.eq_nil_of_length_eq_zero (by rw [hl.1];exact h)) id))
      have HLs:Hid (last+d≤bound):=hid (by omega);obtain ⟨S,hS⟩:∃ S,last+d=S:=⟨_,rfl⟩;have hSI:(last:Int)+(d:Int)=(S:Int):=by omega
      have hSb:(S:Int)≤1000000000:=by omega
      have HS:=hid hS;by_cases hkz:k=0
      case' pos =>
       have hkI:((k:Int) == 0)=true:=by rw [beq_iff_eq];omega
       clear hkz hb hX hdd hM hS
      case' neg =>
       have hkI:((k:Int) == 0)=false:=by rw [beq_eq_false_iff_ne];omega
       have hdI:(0:Int) < (d:Int):=by omega
       have hdZ:decide (0 < d)=true:=decide_eq_true (by omega);clear hkz hb hX hdd hM hS
      all_goals
       go_wp2_with fail
       ((with_reducible refine HCc.out.mono ?_))
       rintro e w3 ⟨rfl,hX3,hK3⟩;have HX3:=hid hX3;have HK3:=hid (HK2.out.trans hK3 (.inl rfl) (.inl rfl));have HO3:=hid (HO2.out.keep (HX2.out.ktl hK3) (by decide));clear hX3 hK3;go_wp2_with (at_builtin;refine wpList_appL E_int rfl (.tmp 44) (.tmp 47) rfl rfl HO3.out HK3.out.size rfl rfl (by simp [Value.oneCell']) (by omega) (by omega) ?_;intro b5 A5 c5 w5 q1 q2 q3;have Q1:=hid q1;have Q2:=hid q2;have Q3:=hid q3;clear q1 q2 q3)
       go_roundw
       case rel=>exact ⟨k+1,S,.ok r',out++[S],b5,A5,c5,by omega,by go_num,rfl,rfl,by have:=HLs.out;have:=HS.out;omega,hid ⟨by rw [List.length_append,HLn.out.1];rfl,by simp⟩,hid (HX3.out.keep Q3.out (by decide)),hid (HK3.out.up Q2.out),hid (by have:=Q1.out;unfold cN at this ⊢;rw [List.map_append];exact this),hid (by rw [← HS.out];exact HE2.out),hid fun e he=>(by cases he)⟩
       case measure=>simp [intOf];omega
    ·have HCc:Hid (∃ er,(Calls Tryz.prog 122 #[.pointer (some ⟨rb,0,none⟩),.bool false,.int .i64 22] w2 fun e w'=>e=.returned (.bool false)∧WX w' g A n c xs (.error er)∧Kp g g w2 w')∧Lb=.error er):=hid (by
      obtain ⟨er,h1,h2⟩:=num_bad HB2.out (by
       have hl:=HLn.out;rw [HD.out,← hl.2,HM.out];rintro ⟨h1,h2⟩;exact hb ⟨h1,h2.imp (fun h=>by rw [← hl.1,h];rfl) id⟩)
      have:=HCk.out false;have e:chkX false 22 (sOf (vget0 r))=.error er:=h1;rw [e] at this;exact ⟨er,this,h2⟩)
     obtain ⟨er,hc,he⟩:=HCc.out;have HCc:=hid hc;have HE2:=hid he;clear hc he;by_cases hdM:d < M
     case' pos =>
      have hkz:k≠0:=fun h=>hb ⟨hdM,.inl h⟩
      have hdz:¬ 0 < d:=fun h=>hb ⟨hdM,.inr h⟩
      have hdMI:(d:Int) < (M:Int):=by omega
      have hdD:decide (d < M)=true:=decide_eq_true hdM;have hkI:((k:Int) == 0)=false:=by rw [beq_eq_false_iff_ne];omega
      have hdI:¬ (0:Int) < (d:Int):=by omega
      have hdZ:decide (0 < d)=false:=decide_eq_false hdz;clear hkz hdz hb hdM hM
     case' neg =>
      have hdMI:¬ (d:Int) < (M:Int):=by omega
      have hdD:decide (d < M)=false:=decide_eq_false hdM;clear hb hdM hM
     all_goals
      go_wp2_with fail
      ((with_reducible refine HCc.out.mono ?_))
      rintro e w3 ⟨rfl,hX3,hK3⟩;have HX3:=hid hX3;have HK3:=hid (HK2.out.trans hK3 (.inl rfl) (.inl rfl));clear hX3 hK3;go_wp2_with fail;go_ret;refine ⟨[],0,none,0,rfl,OwN.nil _ _ _ _ _,fun p hp=>?_,?_,HK3.out⟩
      ·rw [HE2.out] at hp;cases hp
      ·rw [HE2.out];exact HX3.out
   ·have hltI:¬ (k:Int) < (K:Int):=by omega
    have HF:Hid ((∀ p,Lb=.ok p→p.1=out)∧sOf Lb=y):=hid (by
     have:=HB.out;rw [show K - k=0 by omega] at this;cases y with
     | error e =>
      have this:Except.error e=Lb:=this;rw [← this];exact ⟨fun p hp=>(by cases hp),rfl⟩
     | ok r =>
      have this:Except.ok (out,r)=Lb:=this;rw [← this];exact ⟨fun p hp=>(by injection hp with hp;rw [← hp]),rfl⟩)
    clear hlt;go_wp2_with fail;go_ret;refine ⟨out,bo,Ao,co,(by rw [HLn.out.1];rfl),by rw [HLn.out.1];exact HO.out,HF.out.1,?_,HK.out⟩;rw [HF.out.2];exact HY.out
end
end
section
open Go Go.RowKit Go.Lib Go.Sort Go.Shelf
theorem ent_step (t:List ByteArray) (bound m:Nat) (acc:List EntV) (r:List Nat) :
  repP (entF t bound) (m+1) acc r=xb (sOf (xb (sOf (symP t r)) (symP t))) fun q=>if ordE acc (vOf .empty (symP t r),vOf .empty (xb (sOf (symP t r)) (symP t)))=true then xb (numsP bound q) (fun z=>repP (entF t bound) m (acc++[((vOf .empty (symP t r),vOf .empty (xb (sOf (symP t r)) (symP t))),z.1)]) z.2) else .error 16:=by
 rw [repP];unfold entF labF;cases symP t r with
 | error k=>rfl
 | ok p =>
  obtain ⟨a,q⟩:=p;show xb (xb (xb (symP t q) _) _) _=xb (sOf (symP t q)) _
  cases h:symP t q with
  | error k=>rfl
  | ok p =>
   simp only [xb,sOf,vOf,h];by_cases ho:ordE acc (a,p.1)=true
   ·rw [if_pos ho,if_pos ho];cases numsP bound p.2<;>rfl
   ·rw [if_neg ho,if_neg ho]
theorem ordE_last {acc:List EntV} {k:Nat} {x:Lab} (hl:acc.length=k) (hk:0 < k):ordE acc x=decide (cmpL (acc[k - 1]'(by omega)).1 x < 0):=by
 unfold ordE;have h1:acc.isEmpty=false:=by
  cases acc with
  | nil=>simp at hl;omega
  | cons _ _=>rfl
 subst hl;rw [h1,Bool.false_or,List.getLastD_eq_getLast?,List.getLast?_eq_getElem?,List.getElem?_eq_getElem (by omega)];rfl
def EntDec (T:TypeId) (w:World) (X:Except Nat (List EntV)) (e:Ending) (w':World):Prop :=
 Nw w w'∧match X with
  | .ok l=>∃ (rows:List GR) (bo:Nat) (Ao:Option Addr) (co:Nat),e=.returned (.tuple #[.slice Ao l.length co,.int .i64 0])∧OwN w w' bo T 3 Ao l.length co (cEnt rows)∧rows.map keyG=l∧∀ r∈rows,OwN w w' r.b 3 1 r.A r.ns.length r.c (cN .i64 r.ns)
  | .error k=>e=.returned (.tuple #[.slice none 0 0,.int .i64 (k:Int)])∧k≠0
theorem pos_eq (t:List ByteArray) (bound:Nat) (bs:List Nat):posP t bound bs=xb (xb (sOf (countP bs)) fun r=>repP (entF t bound) (vOf 0 (countP bs)) [] r) endL:=by
 unfold posP lisP;cases countP bs with
 | error k=>rfl
 | ok p=>rfl
theorem OwN.kpz {w0 W W':World} {b Z n c:Nat} {e:TypeId} {size:Nat} {A:Option Addr} {xs:List Value} (h:OwN w0 W b e size A n c xs) (hk:Kp Z Z W W') (hb:A=none∨b≠Z):OwN w0 W' b e size A n c xs:=by
 rcases hb with rfl | hb
 ·rcases h.1 with ⟨_,rfl,rfl,rfl⟩ | ⟨q,_⟩
  ·exact OwN.nil _ _ _ _ _
  ·cases q
 ·exact ⟨h.1.kp hk hb hb,h.2⟩
theorem OwN.ltz {w0 W:World} {b Z n c:Nat} {e:TypeId} {size:Nat} {A:Option Addr} {xs:List Value} (h:OwN w0 W b e size A n c xs) (hZ:W.heap.size≤Z):A=none∨b≠Z:=by
 rcases h.1 with ⟨q,_⟩ | ⟨_,hlt,_⟩
 ·exact .inl q
 ·right;omega
structure EntS (T:TypeId) (w2 W:World) (g:Nat) (A:Option Addr) (n c:Nat) (xs:List Nat) (y:Rest) (Z:Nat) (v0 v1 v2:Value) (bl:Nat) (Al:Option Addr) (k cl:Nat) (cs:List Value) (rows:List GR):Prop where
 wx:WX W g A n c xs y
 z:W.heap[Z]? = some (.cells #[v0,v1,v2] T (0,0))
 l:OwN w2 W bl T 3 Al k cl cs
 rs:∀ r∈rows,OwN w2 W r.b 3 1 r.A r.ns.length r.c (cN .i64 r.ns)
 kp:Kp g g w2 W
 zw:w2.heap.size≤Z
 bz:Al=none∨bl≠Z
section
variable {T:TypeId} {w2 W W':World} {g n c Z bl k cl:Nat} {A Al:Option Addr} {xs:List Nat} {y y':Rest} {v0 v1 v2:Value} {cs:List Value} {rows:List GR}
theorem EntS.call (hT:T≠271) (h:EntS T w2 W g A n c xs y Z v0 v1 v2 bl Al k cl cs rows) (hx:WX W' g A n c xs y') (hk:Kp g g W W'):EntS T w2 W' g A n c xs y' Z v0 v1 v2 bl Al k cl cs rows:=by
 have hK:=h.wx.ktl hk;exact ⟨hx,hK.get h.z (by simpa using hT),h.l.keep hK (by simpa using hT),fun r hr=>(h.rs r hr).keep hK (by decide),h.kp.trans hk (.inl rfl) (.inl rfl),h.zw,h.bz⟩
theorem EntS.nw (h:EntS T w2 W g A n c xs y Z v0 v1 v2 bl Al k cl cs rows) (hN:Nw W W'):EntS T w2 W' g A n c xs y Z v0 v1 v2 bl Al k cl cs rows :=
 ⟨h.wx.nw hN,(hN.block _ (lt_of_block h.z)).trans h.z,h.l.nw hN,fun r hr=>(h.rs r hr).nw hN,h.kp.nw' hN,h.zw,h.bz⟩
theorem EntS.put (hT:T≠271) (hT2:T≠3) (h:EntS T w2 W g A n c xs y Z v0 v1 v2 bl Al k cl cs rows) (i:Nat) (v:Value) {u0 u1 u2:Value} (hv:(#[v0,v1,v2]:Array Value).setIfInBounds i v=#[u0,u1,u2]) :
  EntS T w2 (W.setCell ⟨Z,i,none⟩ v) g A n c xs y Z u0 u1 u2 bl Al k cl cs rows:=by
 have hks:Kp Z Z W (W.setCell ⟨Z,i,none⟩ v):=(Kp.refl Z Z W).setCell' (p:=⟨Z,i,none⟩) (.inl rfl) _;have hkl:=hks.ktl h.z;have hz:=set_at (k:=i) v h.z;rw [hv] at hz;exact ⟨h.wx.keep hkl (by simpa using Ne.symm hT),hz,h.l.kpz hks h.bz,fun r hr=>(h.rs r hr).keep hkl (by simpa using Ne.symm hT2),h.kp.up (Up.of_kp hks h.zw),h.zw,h.bz⟩
end
set_option maxRecDepth 100000 in
set_option maxHeartbeats 3000000 in
theorem PPosDecode_any (w:World) (b bt n c nt ct bound:Nat) (A At:Option Addr) (xs:List Nat) (t:List ByteArray) (hbd:bound≤1000000000) (hr:Rd w b A (cN .u8 xs)) (hA:A=none→c=0) (hn:n=xs.length) (hm:n≤1000000000) (hx:∀ x∈xs,x < 256) (hrt:Rd w bt At (cT t)) (hnt:nt=t.length) (hmt:nt≤1000000000) :
  Calls Tryz.prog 66 #[.slice At nt ct,.int .i64 (bound:Int),.slice A n c] w (EntDec 196 w (posP t bound xs)):=by
 have HW:=hid (WNew_any w b A n c xs hn hm hr hA hx);have HT:=hid fun (W:World) (g:Nat) (hN:Nw w W) (hg:w.heap.size≤g)=>TIn.fresh (W:=W) (g:=g) hrt hnt hmt hN hg
 have HEq:=hid (pos_eq t bound xs);have hNn:vOf 0 (countP xs)≤n:=vOf_le (bs:=.ok xs) (n:=n) (fun r e=>by injection e with e;rw [← e,hn];exact Nat.le_refl _);have HZ:Hid (∀ k,sOf (countP xs)=.error k→vOf 0 (countP xs)=0):=hid fun k hk=>by
  cases hq:countP xs with
  | error j=>rfl
  | ok p=>rw [hq] at hk;cases hk
 obtain ⟨P,hP⟩:∃ P,posP t bound xs=P:=⟨_,rfl⟩;rw [hP] at HEq;rw [hP];have Hn:=hid hn;have hbw:IntKind.u64.wrap (bound:Int)=(bound:Int):=IntWalk.u64_in _ (by omega);have hb0:¬ (bound:Int) < 0:=by omega
 clear hr hA hx hrt hnt hn hP;go_enter Tryz.func66,Tryz.ntmps66
 go_wp2_with fail;refine HW.out.mono ?_;rintro e w1 ⟨g,b1,A1,c1,rfl,hS,hI,hb1,hg1,hN1⟩;obtain ⟨rb,hrb⟩:∃ rb,w1.heap.size=rb:=⟨_,rfl⟩;have hn2:Nw w1 (w1.alloc (.cells #[.pointer (some ⟨g,0,none⟩),.slice At nt ct,.int .i64 (n:Int)] 201)):=(Nw.refl w1).alloc' _;have hR:=heap_alloc_new w1 (.cells #[.pointer (some ⟨g,0,none⟩),.slice At nt ct,.int .i64 (n:Int)] 201);rw [hrb] at hR;obtain ⟨bt',hT⟩:=HT.out _ g (hN1.trans hn2) hg1;have hX:WX w1 g A1 n c1 xs (.ok xs):=⟨by rw [Hn.out,Nat.sub_self,← Hn.out];exact hS,[],rfl⟩;have HC:=hid (PPCount_u _ rb g b1 n c1 nt ct A1 At xs (.ok xs) (hX.nw hn2) (hI.nw hn2) hR);unfold PTook at HC;rw [xb_ok] at HC;have HX:=hid (hX.nw hn2);have HI:=hid (hI.nw hn2);have HR:Hid (PrS _ rb g At nt ct n):=hid hR;have HTt:=hid hT;have HN2:=hid (hN1.trans hn2);have HG:=hid hg1;have Hrb:=hid hrb;obtain ⟨N,hN⟩:∃ N,vOf 0 (countP xs)=N:=⟨_,rfl⟩;obtain ⟨x1,hx1⟩:∃ z,sOf (countP xs)=z:=⟨_,rfl⟩;rw [hN] at hNn;rw [hN,hx1] at HC HEq HZ;obtain ⟨Lb,hLb⟩:∃ L,(xb x1 fun r=>repP (entF t bound) N [] r)=L:=⟨_,rfl⟩;rw [hLb] at HEq;have HLb:=hid hLb;clear hS hI hb1 hg1 hN1 hn2 hR hT hX hrb HW HT hN hx1 hLb;go_wp2_with fail;rw [Hrb.out];generalize w1.alloc (.cells #[.pointer (some ⟨g,0,none⟩),.slice At nt ct,.int .i64 (n:Int)] 201)=w2 at *;refine HC.out.mono ?_;rintro e w3 ⟨rfl,hX3,hK3⟩;have HX3:=hid hX3;have HK3:=hid hK3;clear hX3 hK3 HC;go_wp2_with fail;go_loopw [9,24] (fun s i wr=>∃ (k:Nat) (y:Rest) (rows:List GR) (bl:Nat) (Al:Option Addr) (cl:Nat),k≤N∧i=.int .i64 (k:Int)∧s=.slice Al k cl∧Hid (rows.length=k)∧Hid (WX wr g A1 n c1 xs y)∧Hid (Kp g g w2 wr) ∧
  Hid (OwN w2 wr bl 196 3 Al k cl (cEnt rows))∧Hid (∀ r∈rows,OwN w2 wr r.b 3 1 r.A r.ns.length r.c (cN .i64 r.ns))∧Hid ((xb y fun r=>repP (entF t bound) (N - k) (rows.map keyG) r)=Lb)∧Hid (∀ e,y=.error e→N=0)) (fun _ i _=>N - (intOf i).toNat)
 case atStart=>exact ⟨0,x1,[],0,none,0,Nat.zero_le _,rfl,rfl,hid rfl,HX3,HK3,hid (OwN.nil _ _ _ _ _),hid (fun r hr=>(by cases hr)),HLb,HZ⟩
 case round =>
  clear HX3 HK3 HLb HZ
  rename World=>wr
  obtain ⟨k,y,rows,bl,Al,cl,hk,rfl,rfl,HLn,HY,HK,HO,HRs,HB,HE⟩:=hrel;by_cases hlt:k < N
  ·have hltI:(k:Int) < (N:Int):=by omega
   obtain ⟨r,rfl⟩:∃ r,y=.ok r:=by
    cases y with
    | ok r=>exact ⟨r,rfl⟩
    | error e=>have:=HE.out e rfl;omega
   have HB2:Hid ((xb (sOf (xb (sOf (symP t r)) (symP t))) fun q=>if ordE (rows.map keyG) (vOf .empty (symP t r),vOf .empty (xb (sOf (symP t r)) (symP t)))=true then xb (numsP bound q) (fun z=>repP (entF t bound) (N - (k+1)) (rows.map keyG++[((vOf .empty (symP t r),vOf .empty (xb (sOf (symP t r)) (symP t))),z.1)]) z.2) else .error 16)=Lb):=hid (by
    have:=HB.out;rw [xb_ok,show N - k=(N - (k+1))+1 by omega,ent_step] at this;exact this)
   have hn4:Nw wr (wr.alloc (.cells #[.string ⟨#[]⟩,.string ⟨#[]⟩,.slice none 0 0] 196)):=(Nw.refl wr).alloc' _;have hz4:=heap_alloc_new wr (.cells #[.string ⟨#[]⟩,.string ⟨#[]⟩,.slice none 0 0] 196);obtain ⟨Z,hZ⟩:∃ Z,wr.heap.size=Z:=⟨_,rfl⟩;rw [hZ] at hz4;have HS4:Hid (EntS 196 w2 _ g A1 n c1 xs (.ok r) Z (.string ⟨#[]⟩) (.string ⟨#[]⟩) (.slice none 0 0) bl Al k cl (cEnt rows) rows):=hid ⟨HY.out.nw hn4,hz4,HO.out.nw hn4,fun r hr=>(HRs.out r hr).nw hn4,HK.out.nw' hn4,by have:=HK.out.size;omega,HO.out.ltz (Nat.le_of_eq hZ)⟩;have HRk:Hid (∀ W,Kp g g w2 W→PrS W rb g At nt ct n):=hid fun W hK=>HR.out.kp HX.out hK
   obtain ⟨X1,hX1⟩:∃ X,symP t r=X:=⟨_,rfl⟩;obtain ⟨y1,hy1⟩:∃ z,sOf X1=z:=⟨_,rfl⟩;obtain ⟨X2,hX2⟩:∃ X,xb y1 (symP t)=X:=⟨_,rfl⟩;obtain ⟨y2,hy2⟩:∃ z,sOf X2=z:=⟨_,rfl⟩;obtain ⟨a1,ha1⟩:∃ z,vOf .empty X1=z:=⟨_,rfl⟩;obtain ⟨a2,ha2⟩:∃ z,vOf .empty X2=z:=⟨_,rfl⟩;rw [hX1,hy1,hX2,hy2,ha1,ha2] at HB2;have HC1:=hid (PPSym_u _ rb g b1 n c1 bt' nt ct A1 At xs (.ok r) t HS4.out.wx (HI.out.kp HS4.out.kp) (HRk.out _ HS4.out.kp) (HTt.out.kp HS4.out.kp));unfold PTook at HC1;rw [xb_ok,hX1,hy1,ha1] at HC1;have HQ2:=hid (And.intro hX2 (And.intro hy2 ha2));have HZs:=hid hZ;clear hX1 hy1 hX2 hy2 ha1 ha2 HB hn4 hz4 hZ HY HK HO HRs;go_wp2_with fail;rw [HZs.out];generalize wr.alloc (.cells #[.string ⟨#[]⟩,.string ⟨#[]⟩,.slice none 0 0] 196)=w4 at *;refine HC1.out.mono ?_;rintro e w5 ⟨rfl,hX5,hK5⟩;have HS5:=hid (HS4.out.call (by decide) hX5 hK5);have HS6:=hid (HS5.out.put (by decide) (by decide) 0 (.string a1) (u0:=.string a1) (u1:=.string ⟨#[]⟩) (u2:=.slice none 0 0) rfl);have d5:w5.cell? ⟨Z,0,none⟩=some (.string ⟨#[]⟩):=cell_at (k:=0) HS5.out.z;have f5:w5.frozen? ⟨Z,0,none⟩=false:=at_free HS5.out.z;have HC2:=hid (PPSym_u _ rb g b1 n c1 bt' nt ct A1 At xs y1 t HS6.out.wx (HI.out.kp HS6.out.kp) (HRk.out _ HS6.out.kp) (HTt.out.kp HS6.out.kp));unfold PTook at HC2;rw [HQ2.out.1,HQ2.out.2.1,HQ2.out.2.2] at HC2;clear hX5 hK5 HC1 HS4;go_wp2_with fail;clear d5 f5 HS5;generalize w5.setCell ⟨Z,0,none⟩ (.string a1)=w6 at *;refine HC2.out.mono ?_;rintro e w7 ⟨rfl,hX7,hK7⟩;have HS7:=hid (HS6.out.call (by decide) hX7 hK7);have HS8:=hid (HS7.out.put (by decide) (by decide) 1 (.string a2) (u0:=.string a1) (u1:=.string a2) (u2:=.slice none 0 0) rfl);have d7:w7.cell? ⟨Z,1,none⟩=some (.string ⟨#[]⟩):=cell_at (k:=1) HS7.out.z;have f7:w7.frozen? ⟨Z,1,none⟩=false:=at_free HS7.out.z;clear hX7 hK7 HC2 HS6 HQ2;go_wp2_with fail;clear d7 f7 HS7;generalize w7.setCell ⟨Z,1,none⟩ (.string a2)=w8 at *;obtain ⟨ok,hok⟩:∃ b,ordE (rows.map keyG) (a1,a2)=b:=⟨_,rfl⟩;rw [hok] at HB2;obtain ⟨y3,hy3⟩:∃ z,chkX ok 16 y2=z:=⟨_,rfl⟩;have HCk:Hid (∀ W,Nw w8 W→Calls Tryz.prog 122 #[.pointer (some ⟨rb,0,none⟩),.bool ok,.int .i64 16] W fun e w'=>e=.returned (.bool (okB y3))∧WX w' g A1 n c1 xs y3∧Kp g g W w'):=hid fun W hN=>by
    rw [← hy3];exact PCheck_u W rb g n c1 nt ct A1 At xs _ ok 16 (by omega) (HS8.out.wx.nw hN) (HRk.out _ (HS8.out.kp.nw' hN))
   have HQ:Hid ((∀ e,y3=.error e→Lb=.error e)∧∀ q,y3=.ok q→xb (numsP bound q) (fun z=>repP (entF t bound) (N - (k+1)) (rows.map keyG++[((a1,a2),z.1)]) z.2)=Lb):=hid (by
    have h:=HB2.out;cases y2 with
    | error e2 =>
     have e3:y3=.error e2:=by rw [← hy3];cases ok<;>rfl
     have h:Except.error e2=Lb:=h;rw [e3,← h];exact ⟨fun e he=>(by injection he with he;rw [he]),fun q hq=>(by cases hq)⟩
    | ok q2 =>
     rw [xb_ok] at h;cases ok with
     | true =>
      rw [if_pos rfl] at h;rw [← hy3];exact ⟨fun e he=>(by cases he),fun q hq=>(by injection hq with hq;rw [← hq];exact h)⟩
     | false =>
      rw [if_neg (by decide)] at h;rw [← hy3,← h];exact ⟨fun e he=>(by injection he with he;rw [he]),fun q hq=>(by cases hq)⟩)
   clear hy3 HB2;have z0:w8.cell? ⟨Z,0,none⟩=some (.string a1):=cell_at (k:=0) HS8.out.z;have z1:w8.cell? ⟨Z,1,none⟩=some (.string a2):=cell_at (k:=1) HS8.out.z;have hZl:=cell_lt z0;have q0:∀ p:Gp,(grow (w8.drewN p.n) p.os).cell? ⟨Z,0,none⟩=some (.string a1):=cell_gr hZl z0;have q1:∀ p:Gp,(grow (w8.drewN p.n) p.os).cell? ⟨Z,1,none⟩=some (.string a2):=cell_gr hZl z1;by_cases hk0:0 < k
   case' pos =>
    have hkr:k - 1 < rows.length:=by rw [HLn.out];omega
    obtain ⟨rfl,hbo,hcl0,-⟩:=HS8.out.l.1.at_ (j:=(k - 1)*3) (by omega);obtain ⟨_,_,hcl1,-⟩:=HS8.out.l.1.at_ (j:=(k - 1)*3+1) (by omega);rw [show (k - 1)*3=(k - 1)*3+0 by omega,cEnt_get rows (k - 1) 0 hkr (by omega),List.getElem?_eq_getElem hkr] at hcl0;rw [cEnt_get rows (k - 1) 1 hkr (by omega),List.getElem?_eq_getElem hkr] at hcl1;have hok':=hok;rw [ordE_last (by rw [List.length_map];exact HLn.out) hk0,List.getElem_map] at hok';generalize rows[k - 1]=rl at *;have hcl0:w8.cell? ⟨bl,(k - 1)*3,none⟩=some (.string rl.lab.1):=hcl0;have hcl1:w8.cell? ⟨bl,(k - 1)*3+1,none⟩=some (.string rl.lab.2):=hcl1;have q2:∀ p:Gp,(grow (w8.drewN p.n) p.os).cell? ⟨bl,(k - 1)*3,none⟩=some (.string rl.lab.1):=cell_gr hbo hcl0;have q3:∀ p:Gp,(grow (w8.drewN p.n) p.os).cell? ⟨bl,(k - 1)*3+1,none⟩=some (.string rl.lab.2):=cell_gr hbo hcl1;obtain ⟨cc,hcc⟩:∃ z,cmpL rl.lab (a1,a2)=z:=⟨_,rfl⟩;have hcc':decide (cc < 0)=ok:=by rw [← hcc];exact hok'
    have HPc:Hid (∀ W,Calls Tryz.prog 123 #[.agg #[.string rl.lab.1,.string rl.lab.2],.agg #[.string a1,.string a2]] W fun e w'=>e=.returned (.int .i64 cc)∧Gr W w'):=hid fun W=>by
     have:=pcmp_any W rl.lab (a1,a2);rw [hcc] at this;exact this
    have hkI:((k:Int) == 0)=false:=by rw [beq_eq_false_iff_ne];omega
    have e1:IntKind.i64.wrap ((k:Int) - 1)=(k:Int) - 1:=IntWalk.i64_in _ (by omega);have e2:(1:Int)≤(k:Int):=by omega
    have e2b:(0:Int)≤(k:Int) - 1:=by omega
    have e3:((k:Int) - 1).toNat=k - 1:=by omega
    have e4:(k:Int) - 1 < (k:Int):=by omega
    have HCC:=hid hcc';clear hcl0 hcl1 hok hok' hcc hkr hcc' z0 z1;go_wp2_with fail;refine wp_region_gr_tail 15 (by kernel_rfl) (by kernel_rfl) ?_;simp only [List.take_succ_cons,List.take_zero,List.drop_succ_cons,List.drop_zero]
    repeat (quiet_step ((go_at_call 123;refine Calls.gr (HPc.out _))))
    refine wpQuiet_nil ?_;rintro _ ⟨p,rfl⟩;rw [HCC.out]
   case' neg =>
    have hkI:((k:Int) == 0)=true:=by rw [beq_iff_eq];omega
    have hok1:ok=true:=by
     have:rows=[]:=List.eq_nil_of_length_eq_zero (by rw [HLn.out];omega);rw [← hok,this];rfl
    clear hok;subst hok1;go_wp2_with fail;refine wp_region_gr_tail 15 (by kernel_rfl) (by kernel_rfl) ?_;simp only [List.take_succ_cons,List.take_zero,List.drop_succ_cons,List.drop_zero]
    repeat (with_reducible refine wpQuiet_step ?_;intro K hK;go_simp;refine hK _ ?_;clear hK K)
    refine wpQuiet_nil ?_;rintro _ ⟨p,rfl⟩
   all_goals
    generalize hw9:grow (w8.drewN p.n) p.os=w9;have hn9:Nw w8 w9:=by rw [← hw9];exact Gr.nw ⟨p,rfl⟩
    have HS9:=hid (HS8.out.nw hn9);have HC9:=hid (HCk.out w9 hn9);clear hw9 hn9 HCk q0 q1 hZl;go_wp2_with fail
    ((with_reducible refine HC9.out.mono ?_))
    rintro e w10 ⟨rfl,hX10,hK10⟩;have HS10:=hid (HS9.out.call (by decide) hX10 hK10);have c10:=(HRk.out _ HS10.out.kp).c0;have HNw:Hid (Nw w w10):=hid (Kp.nw HN2.out HS10.out.kp HG.out HG.out);clear hX10 hK10 HC9 HS8 HS9;cases y3 with
    | error er =>
     have HEnd:Hid (Calls Tryz.prog 109 #[.pointer (some ⟨g,0,none⟩)] w10 fun e w'=>e=.returned (.int .i64 (er:Int))∧w10=w'):=hid (WEnd_u w10 g b1 n c1 A1 xs _ HS10.out.wx (HI.out.kp HS10.out.kp));have hne:er≠0:=HS10.out.wx.1;have hneI:((er:Int) != 0)=true:=by rw [bne_iff_ne];omega
     have Hne:=hid hne;have HP:Hid (P=.error er):=hid (by rw [HEq.out,HQ.out.1 er rfl];rfl);have hz1:okB (.error er)=false:=rfl;clear hne;go_wp2_with fail;refine HEnd.out.mono ?_;rintro e w9 ⟨rfl,rfl⟩;go_wp2_with fail;go_ret2;refine ⟨HNw.out,?_⟩;rw [HP.out];exact ⟨rfl,Hne.out⟩
    | ok q =>
     have hz1:okB (.ok q)=true:=rfl;have HSr:=hid (PSeries_u w10 rb g b1 n c1 nt ct A1 At xs (.ok q) bound hbd HS10.out.wx (HI.out.kp HS10.out.kp) (HRk.out _ HS10.out.kp));have HQ2:=hid (HQ.out.2 q rfl);rw [xb_ok] at HSr;obtain ⟨X4,hX4⟩:∃ X,numsP bound q=X:=⟨_,rfl⟩;rw [hX4] at HSr HQ2;clear hX4 HQ c10;go_wp2_with fail
     ((with_reducible refine HSr.out.mono ?_))
     rintro e w11 ⟨l,bo,Ao,co,rfl,hO11,hl11,hX11,hK11⟩;have HS11:=hid (HS10.out.call (by decide) hX11 hK11);have HS12:=hid (HS11.out.put (by decide) (by decide) 2 (.slice Ao l.length co) (u0:=.string a1) (u1:=.string a2) (u2:=.slice Ao l.length co) rfl);have hks:Kp Z Z w11 (w11.setCell ⟨Z,2,none⟩ (.slice Ao l.length co)):=(Kp.refl Z Z w11).setCell' (p:=⟨Z,2,none⟩) (.inl rfl) _;have HO12:=hid ((hO11.mono (w0:=w2) HS10.out.kp.size).keep (hks.ktl HS11.out.z) (by decide));have HL11:=hid hl11;have d11:w11.cell? ⟨Z,2,none⟩=some (.slice none 0 0):=cell_at (k:=2) HS11.out.z;have f11:w11.frozen? ⟨Z,2,none⟩=false:=at_free HS11.out.z;have c11:=(HRk.out _ HS11.out.kp).c0;have hrz:rb≠Z:=ty_ne (HRk.out _ HS11.out.kp) HS11.out.z (by decide);have hrz1:¬ rb=Z:=hrz;have hrz2:¬ Z=rb:=Ne.symm hrz;have HEr:=hid (WErr_u _ g n c1 A1 xs _ HS12.out.wx);have HNw:Hid (Nw w (w11.setCell ⟨Z,2,none⟩ (.slice Ao l.length co))):=hid (Kp.nw HN2.out HS12.out.kp HG.out HG.out);clear hO11 hl11 hX11 hK11 hks hrz HSr HS10;go_wp2_with fail;clear d11 f11 c11 HS11 hrz1 hrz2;generalize w11.setCell ⟨Z,2,none⟩ (.slice Ao l.length co)=w12 at *;have c12:=(HRk.out _ HS12.out.kp).c0;cases X4 with
     | error er =>
      have HEr:Hid (Calls Tryz.prog 107 #[.pointer (some ⟨g,0,none⟩)] w12 fun e w'=>e=.returned (.int .i64 (er:Int))∧w12=w'):=HEr;have HEnd:Hid (Calls Tryz.prog 109 #[.pointer (some ⟨g,0,none⟩)] w12 fun e w'=>e=.returned (.int .i64 (er:Int))∧w12=w'):=hid (WEnd_u w12 g b1 n c1 A1 xs _ HS12.out.wx (HI.out.kp HS12.out.kp));have hne:er≠0:=HS12.out.wx.1;have hneI:((er:Int) != 0)=true:=by rw [bne_iff_ne];omega
      have Hne:=hid hne;have HP:Hid (P=.error er):=hid (by
       have h:Except.error er=Lb:=HQ2.out;rw [HEq.out,← h];rfl)
      clear hne
      ((with_reducible refine HEr.out.mono ?_))
      rintro e w13 ⟨rfl,rfl⟩;go_wp2_with fail;refine HEnd.out.mono ?_;rintro e w9 ⟨rfl,rfl⟩;go_wp2_with fail;go_ret2;refine ⟨HNw.out,?_⟩;rw [HP.out];exact ⟨rfl,Hne.out⟩
     | ok pz =>
      obtain ⟨l',q2⟩:=pz;have hll:l'=l:=HL11.out _ rfl;have HEr:Hid (Calls Tryz.prog 107 #[.pointer (some ⟨g,0,none⟩)] w12 fun e w'=>e=.returned (.int .i64 0)∧w12=w'):=HEr;have HB4:Hid (repP (entF t bound) (N - (k+1)) (rows.map keyG++[((a1,a2),l)]) q2=Lb):=hid (by
       have h:=HQ2.out;rw [xb_ok,hll] at h;exact h)
      have z20:w12.cell? ⟨Z,0,none⟩=some (.string a1):=cell_at (k:=0) HS12.out.z;have z21:w12.cell? ⟨Z,1,none⟩=some (.string a2):=cell_at (k:=1) HS12.out.z;have z22:w12.cell? ⟨Z,2,none⟩=some (.slice Ao l.length co):=cell_at (k:=2) HS12.out.z;have HX12:Hid (WX w12 g A1 n c1 xs (.ok q2)):=hid HS12.out.wx;clear hll
      ((with_reducible refine HEr.out.mono ?_))
      rintro e w13 ⟨rfl,rfl⟩;go_wp2_with (at_builtin;refine wpList_appL E_ent rfl (.tmp 63) (.tmp 65) rfl rfl HS12.out.l HS12.out.kp.size rfl rfl (by simp [Value.oneCell']) (by omega) (by omega) ?_;intro b5 A5 c5 w14 q1 q2' q3;have Q1:=hid q1;have Q2:=hid q2';have Q3:=hid q3;clear q1 q2' q3)
      go_roundw
      case rel=>exact ⟨k+1,.ok q2,rows++[⟨(a1,a2),l,bo,Ao,co⟩],b5,A5,c5,by omega,by go_num,rfl,hid (by rw [List.length_append,HLn.out];rfl),hid (HX12.out.keep Q3.out (by decide)),hid (HS12.out.kp.up Q2.out),hid (by have:=Q1.out;unfold cEnt at this ⊢;rw [List.flatMap_append];simpa [cEnt1] using this),hid (fun r hr=>by
       rcases List.mem_append.1 hr with hr | hr
       ·exact (HS12.out.rs r hr).keep Q3.out (by decide)
       ·obtain rfl:=List.mem_singleton.1 hr;exact HO12.out.keep Q3.out (by decide)),hid (by rw [List.map_append];exact HB4.out),hid fun e he=>(by cases he)⟩
      case measure=>simp [intOf];omega
  ·have hltI:¬ (k:Int) < (N:Int):=by omega
   have HNw:Hid (Nw w wr):=hid (Kp.nw HN2.out HK.out HG.out HG.out);have c0:=(HR.out.kp HX.out HK.out).c0;have HEnd:=hid (WEnd_u wr g b1 n c1 A1 xs _ HY.out (HI.out.kp HK.out));have HF:Hid ((eOf (endX y)=0∧rows.length=k∧(∀ r∈rows,OwN w2 wr r.b 3 1 r.A r.ns.length r.c (cN .i64 r.ns))∧P=.ok (rows.map keyG))∨(eOf (endX y)≠0∧P=.error (eOf (endX y)))):=hid (by
    have hEq:=HEq.out;have hB:=HB.out;rw [show N - k=0 by omega] at hB;cases y with
    | error e =>
     have hB:Except.error e=Lb:=hB;rw [← hB] at hEq;exact .inr ⟨HY.out.1,hEq⟩
    | ok q =>
     have hB:Except.ok (rows.map keyG,q)=Lb:=hB;rw [← hB,xb_ok] at hEq;unfold endL at hEq;unfold endX;rw [xb_ok];by_cases hr:q=[]
     ·rw [if_pos hr] at hEq ⊢;exact .inl ⟨rfl,HLn.out,HRs.out,hEq⟩
     ·rw [if_neg hr] at hEq ⊢;exact .inr ⟨by show (4:Nat)≠0;omega,hEq⟩)
   obtain ⟨E,hEE⟩:∃ E,eOf (endX y)=E:=⟨_,rfl⟩;rw [hEE] at HF HEnd;clear hEE hlt;go_wp2_with fail;refine HEnd.out.mono ?_;rintro e w9 ⟨rfl,rfl⟩;by_cases hE0:E=0
   ·have hEI:((E:Int) != 0)=false:=by rw [bne_eq_false_iff_eq];omega
    have HE0:=hid hE0;clear hE0 HEnd;go_wp2_with fail;go_ret2;refine ⟨HNw.out,?_⟩;obtain ⟨h2,h3,h4⟩:=(HF.out.resolve_right fun h=>h.1 HE0.out).2;rw [h4];have hl:(rows.map keyG).length=k:=by rw [List.length_map,h2]
    exact ⟨rows,bl,Al,cl,(by rw [hl];rfl),by rw [hl];exact HO.out.mono HN2.out.size,rfl,fun r hr=>(h3 r hr).mono HN2.out.size⟩
   ·have hEI:((E:Int) != 0)=true:=by rw [bne_iff_ne];omega
    have HE0:=hid hE0;clear hE0 HEnd;go_wp2_with fail;go_ret2;refine ⟨HNw.out,?_⟩;rw [(HF.out.resolve_left fun h=>HE0.out h.1).2];exact ⟨rfl,HE0.out⟩
end
section
open Go Go.RowKit Go.Lib Go.Sort Go.Shelf
def StrDec (w:World) (X:Except Nat (List ByteArray)) (e:Ending) (w':World):Prop :=
 Nw w w'∧match X with
  | .ok t=>∃ (bo:Nat) (Ao:Option Addr) (co:Nat),e=.returned (.tuple #[.slice Ao t.length co,.int .i64 0])∧OwN w w' bo 9 1 Ao t.length co (cT t)
  | .error k=>e=.returned (.tuple #[.slice none 0 0,.int .i64 (k:Int)])∧k≠0
theorem symsP_er {bs:List Nat} {k:Nat} (h:vget0 bs=.error k):symsP bs=.error k:=by unfold symsP lisP countP;rw [h];rfl
theorem symsP_few {bs r:List Nat} {v:Nat} (h:vget0 bs=.ok (v,r)) (hv:r.length < v):symsP bs=.error 3:=by unfold symsP lisP countP;rw [h];dsimp only;rw [if_pos hv];rfl
theorem symsP_go {bs r:List Nat} {v:Nat} (h:vget0 bs=.ok (v,r)) (hv:¬ r.length < v):symsP bs=xb (repP symF v [] r) endL:=by unfold symsP lisP countP;rw [h];dsimp only;rw [if_neg hv];rfl
theorem sym_step (m:Nat) (out:List ByteArray) (q:List Nat):repP symF (m+1) out q=xb (strP q) fun p=>if ordB out p.1=true then repP symF m (out++[p.1]) p.2 else .error 16:=by
 rw [repP];unfold symF;cases strP q with
 | error k=>rfl
 | ok p =>
  rw [xb_ok,xb_ok];by_cases h:ordB out p.1=true
  ·rw [if_pos h,if_pos h,xb_ok]
  ·rw [if_neg h,if_neg h];rfl
theorem ordB_last {out:List ByteArray} {k:Nat} {s:ByteArray} (hl:out.length=k) (hk:0 < k):ordB out s=Op.bytesLess (out[k - 1]'(by omega)).toList s.toList:=by
 unfold ordB;have h1:out.isEmpty=false:=by
  cases out with
  | nil=>simp at hl;omega
  | cons _ _=>rfl
 rw [h1,Bool.false_or];congr 2
 subst hl;rw [List.getLastD_eq_getLast?,List.getLast?_eq_getElem?,List.getElem?_eq_getElem (by omega)];rfl
set_option maxRecDepth 100000 in
set_option maxHeartbeats 2000000 in
theorem PSymDecode_any (w:World) (b n c:Nat) (A:Option Addr) (xs:List Nat) (hr:Rd w b A (cN .u8 xs)) (hA:A=none→c=0) (hn:n=xs.length) (hnc:n≤c) (hm:n≤1000000000) (hx:∀ x∈xs,x < 256) :
  Calls Tryz.prog 57 #[.slice A n c] w (StrDec w (symsP xs)):=by
 have HV:=VGet_any w b A n c xs hn hnc hm hr hx 0 (Nat.zero_le _);rw [List.drop_zero] at HV;cases hv:vget0 xs with
 | error k =>
  rw [symsP_er hv];have hk:=vget_ext.nz hv;have hk2:((k:Int) != 0)=true:=by rw [bne_iff_ne];omega
  rw [hv] at HV;have HV:=hid (show Calls Tryz.prog 104 #[.slice A n c,.int .i64 0] w fun e w'=>e=.returned (.tuple #[.int .u64 0,.int .i64 0,.int .i64 (k:Int)])∧w=w' from HV);have HK:=hid hk;clear hn hr hx hv hk;go_enter Tryz.func57,Tryz.ntmps57
  go_wp2_with fail;refine HV.out.mono ?_;rintro e w2 ⟨rfl,rfl⟩;go_wp2_with fail;go_ret2;exact ⟨Nw.refl w,rfl,HK.out⟩
 | ok p =>
  obtain ⟨v,r⟩:=p;obtain ⟨hr1,hr2,hr3⟩:=drop_sfx (xs:=xs) (k:=0) hv;obtain ⟨F,hF⟩:∃ F,n - r.length=F:=⟨_,rfl⟩;obtain ⟨L,hL⟩:∃ L,r.length=L:=⟨_,rfl⟩;rw [hv] at HV;have HV:=hid (show Calls Tryz.prog 104 #[.slice A n c,.int .i64 0] w fun e w'=>e=.returned (.tuple #[.int .u64 (v:Int),.int .i64 (F:Int),.int .i64 0])∧w=w' from HV.mono fun e w' h=>⟨by rw [h.1,← hF];rfl,h.2⟩);have hLI:(n:Int) - (F:Int)=(L:Int):=by omega
  have hLw:IntKind.u64.wrap (L:Int)=(L:Int):=IntWalk.u64_in _ (by omega);by_cases hvL:L < v
  ·rw [symsP_few hv (by omega)];have hvI:(L:Int) < (v:Int):=by omega
   clear hn hr hx hv hr1 hr2 hr3 hF hL hvL;go_enter Tryz.func57,Tryz.ntmps57
   go_wp2_with fail;refine HV.out.mono ?_;rintro e w2 ⟨rfl,rfl⟩;go_wp2_with fail;go_ret2;exact ⟨Nw.refl w,rfl,by omega⟩
  ·rw [symsP_go hv (by omega)];have hvI:¬ (L:Int) < (v:Int):=by omega
   have hvb:v≤1000000000:=by omega
   have hvw:wrap64 (v:Int)=(v:Int):=IntWalk.wrap64_in _ (by omega);have hcut:=hr.cut (k:=F) (cap:=c) (size:=1) (by simp;omega);have hrr:Rd w b (if c=F then A else A.map (·.add (F*1))) (cN .u8 r):=by
    have e:cN .u8 r=(cN .u8 xs).drop (F*1):=by
     unfold cN;rw [Nat.mul_one,← List.map_drop,hr1,show xs.length - r.length=F by omega]
    rw [e];exact hcut
   rw [Nat.mul_one] at hrr;have hrb:∀ y∈r,y < 256:=fun y hy=>hx y (by rw [hr1] at hy;exact List.mem_of_mem_drop hy)
   have hA2:(if c=F then A else A.map (·.add F))=none→c - F=0:=by
    intro h;by_cases hc:c=F
    ·omega
    ·rw [if_neg hc] at h;cases A with
     | none=>have:=hA rfl;omega
     | some a=>cases h
   have HW:=hid (WNew_any w b (if c=F then A else A.map (·.add F)) L (c - F) r (by omega) (by omega) hrr hA2 hrb);have hFc:F≤c:=by omega
   have hFcI:(F:Int)≤(c:Int):=by omega
   have hFn:(F:Int)≤(n:Int):=by omega
   have hnF:n - F=L:=by omega
   obtain ⟨Lb,hLb⟩:∃ Lb,repP symF v [] r=Lb:=⟨_,rfl⟩;rw [hLb];have HLb:=hid hLb;have Hl:=hid hL;by_cases hcF:c=F
   case pos =>
    rw [if_pos hcF,Nat.sub_eq_zero_of_le (show c≤F by omega)] at HW;have hL0:L=0:=by omega
    obtain rfl:r=[]:=List.eq_nil_of_length_eq_zero (by omega);have hv0:v=0:=by omega
    have HLe:Hid (Lb=.ok ([],[])):=hid (by rw [← HLb.out,hv0];rfl);have hvI0:(v:Int)≤0:=by omega
    clear hn hr hx hv hr1 hr2 hr3 hF hL hvL hcut hrr hrb hA2 hA hLb hv0 Hl;have HLz:=hid hL0;clear hL0;subst hcF;go_enter Tryz.func57,Tryz.ntmps57
    go_wp2_with fail;refine HV.out.mono ?_;rintro e w2 ⟨rfl,rfl⟩;go_wp2_with fail;refine HW.out.mono ?_;rintro e w1 ⟨g,b1,A1,c1,rfl,hS,hI,hb1,hg1,hN1⟩;have HX1:WX w1 g A1 L c1 [] (.ok []):=⟨by simpa [HLz.out] using hS,[],rfl⟩;have HEnd:=hid (WEnd_u w1 g b1 L c1 A1 [] _ HX1 hI);have HEnd:Hid (Calls Tryz.prog 109 #[.pointer (some ⟨g,0,none⟩)] w1 fun e w'=>e=.returned (.int .i64 0)∧w1=w'):=HEnd;have HN1:=hid hN1;clear hS hI hb1 hg1 hN1 HX1 HW HV;go_wp2_with fail;go_loopw [8,37] (fun s i wr=>s=.slice none 0 0∧i=.int .i64 0∧wr=w1) (fun _ _ _=>0)
    case atStart=>exact ⟨rfl,rfl,rfl⟩
    case round =>
     obtain ⟨rfl,rfl,rfl⟩:=hrel;go_wp2_with fail;refine HEnd.out.mono ?_;rintro e w4 ⟨rfl,rfl⟩;go_wp2_with fail;go_ret2;refine ⟨HN1.out,?_⟩;rw [HLe.out];exact ⟨0,none,0,rfl,OwN.nil _ _ _ _ _⟩
   case neg =>
    rw [if_neg hcF] at HW;clear hn hr hx hv hr1 hr2 hr3 hF hL hvL hcut hrr hrb hA2 hA hLb;go_enter Tryz.func57,Tryz.ntmps57
    go_wp2_with fail;refine HV.out.mono ?_;rintro e w2 ⟨rfl,rfl⟩;go_wp2_with fail;refine HW.out.mono ?_;rintro e w1 ⟨g,b1,A1,c1,rfl,hS,hI,hb1,hg1,hN1⟩;have HX1:Hid (WX w1 g A1 L c1 r (.ok r)):=hid ⟨by rw [Hl.out,Nat.sub_self];exact hS,[],rfl⟩;have HI:=hid hI;have HN1:=hid hN1;have HG:=hid hg1;clear hS hI hb1 hg1 hN1 HW HV;go_wp2_with fail;go_loopw [8,37] (fun s i wr=>∃ (k:Nat) (q:List Nat) (bo:Nat) (Ao:Option Addr) (co:Nat) (out:List ByteArray),k≤v∧i=.int .i64 (k:Int)∧s=.slice Ao k co∧Hid (out.length=k)∧Hid (WX wr g A1 L c1 r (.ok q))∧Hid (Kp g g w1 wr) ∧
     Hid (OwN w1 wr bo 9 1 Ao k co (cT out))∧Hid (repP symF (v - k) out q=Lb)) (fun _ i _=>v - (intOf i).toNat)
    case atStart=>exact ⟨0,r,0,none,0,[],Nat.zero_le _,rfl,rfl,hid rfl,HX1,hid (Kp.refl _ _ _),hid (OwN.nil _ _ _ _ _),HLb⟩
    case round =>
     clear HX1 HLb
     rename World=>wr
     obtain ⟨k,q,bo,Ao,co,out,hk,rfl,rfl,HLn,HY,HK,HO,HB⟩:=hrel;by_cases hlt:k < v
     ·have hltI:(k:Int) < (v:Int):=by omega
      have HS:=hid (WString_u wr g b1 L c1 A1 r (.ok q) HY.out (HI.out.kp HK.out));rw [xb_ok] at HS;have HB2:Hid ((xb (strP q) fun p=>if ordB out p.1=true then repP symF (v - (k+1)) (out++[p.1]) p.2 else .error 16)=Lb):=hid (by
       have:=HB.out;rw [show v - k=(v - (k+1))+1 by omega,sym_step] at this;exact this)
      obtain ⟨X,hX⟩:∃ X,strP q=X:=⟨_,rfl⟩;rw [hX] at HS HB2;clear hX HB;go_wp2_with fail;refine HS.out.mono ?_;rintro e w2 ⟨rfl,hX2,hK2⟩;have HK2:=hid (HK.out.trans hK2 (.inl rfl) (.inl rfl));have HO2:=hid (HO.out.keep (HY.out.ktl hK2) (by decide));have HN2:Hid (Nw w w2):=hid (Kp.nw HN1.out HK2.out HG.out HG.out);have HX2:=hid hX2;clear hX2 hK2 HS HO HK;cases X with
      | error er =>
       have hne:er≠0:=HX2.out.1;have he1:((er:Int) == 0)=false:=by rw [beq_eq_false_iff_ne];omega
       have he2:((er:Int) != 0)=true:=by rw [bne_iff_ne];omega
       have HEr:Hid (Calls Tryz.prog 107 #[.pointer (some ⟨g,0,none⟩)] w2 fun e w'=>e=.returned (.int .i64 (er:Int))∧w2=w'):=hid (WErr_u w2 g L c1 A1 r _ HX2.out);have HE:Hid (Lb=.error er):=hid HB2.out.symm;have Hne:=hid hne;clear hne;go_wp2_with fail;refine HEr.out.mono ?_;rintro e w3 ⟨rfl,rfl⟩;go_wp2_with fail;refine HEr.out.mono ?_;rintro e w3 ⟨rfl,rfl⟩;go_wp2_with fail;go_ret2;refine ⟨HN2.out,?_⟩;rw [HE.out];exact ⟨rfl,Hne.out⟩
      | ok p =>
       obtain ⟨s,q2⟩:=p;have HEr:Hid (Calls Tryz.prog 107 #[.pointer (some ⟨g,0,none⟩)] w2 fun e w'=>e=.returned (.int .i64 0)∧w2=w'):=hid (WErr_u w2 g L c1 A1 r _ HX2.out);have HX2':Hid (WX w2 g A1 L c1 r (.ok q2)):=HX2;have HS0:Hid (∀ b',OwN w1 w2 bo 9 1 Ao k co (cT out)→b'=bo→True):=hid fun _ _ _=>trivial
       clear HS0;rw [show vOf ByteArray.empty (Except.ok (s,q2):Except Nat (ByteArray × List Nat))=s from rfl];by_cases hord:ordB out s=true
       ·have HE:Hid (repP symF (v - (k+1)) (out++[s]) q2=Lb):=hid (by
         have:=HB2.out;rw [xb_ok,if_pos hord] at this;exact this)
        by_cases hk0:0 < k
        case' pos =>
         obtain ⟨rfl,hbo,hcl,hfr⟩:=HO2.out.1.at_ (j:=k - 1) (by omega);have hko:k - 1 < out.length:=by rw [HLn.out];omega
         rw [ordB_last HLn.out hk0] at hord;unfold cT at hcl;rw [List.getElem?_map,List.getElem?_eq_getElem hko] at hcl;generalize out[k - 1]=y at *;have hcl:w2.cell? ⟨bo,k - 1,none⟩=some (.string y):=hcl;have hk0I:(0:Int) < (k:Int):=by omega
         have hk1:((k:Int) - 1).toNat=k - 1:=by omega
         have hk2:(1:Int)≤(k:Int):=by omega
         have hk3:(k:Int) - 1 < (k:Int):=by omega
         have HW2:=hid hbo;have hk0D:decide (0 < k)=true:=decide_eq_true hk0;clear hfr hko
        case' neg =>
         have hk0I:¬ (0:Int) < (k:Int):=by omega
         have hk0D:decide (0 < k)=false:=decide_eq_false hk0;clear hk0 hord
        all_goals
         go_wp2_with fail;refine HEr.out.mono ?_;rintro e w3 ⟨rfl,rfl⟩;go_wp2_with fail;refine HEr.out.mono ?_;rintro e w3 ⟨rfl,rfl⟩;go_wp2_with (at_builtin;refine wpList_appL E_str rfl (.tmp 65) (.tmp 67) rfl rfl HO2.out HK2.out.size rfl rfl (by simp [Value.oneCell']) (by omega) (by omega) ?_;intro b5 A5 c5 w5 q1 q2' q3;have Q1:=hid q1;have Q2:=hid q2';have Q3:=hid q3;clear q1 q2' q3)
         go_roundw
         case rel=>exact ⟨k+1,q2,b5,A5,c5,out++[s],by omega,by go_num,rfl,hid (by rw [List.length_append,HLn.out];rfl),hid (HX2'.out.keep Q3.out (by decide)),hid (HK2.out.up Q2.out),hid (by have:=Q1.out;unfold cT at this ⊢;rw [List.map_append];exact this),HE⟩
         case measure=>simp [intOf];omega
       ·have HE:Hid (Lb=.error 16):=hid (by
         have:=HB2.out;rw [xb_ok,if_neg hord] at this;exact this.symm)
        have hk0:0 < k:=Classical.byContradiction fun h=>hord (by
         have:out=[]:=List.eq_nil_of_length_eq_zero (by rw [HLn.out];omega);rw [this];rfl)
        obtain ⟨rfl,hbo,hcl,hfr⟩:=HO2.out.1.at_ (j:=k - 1) (by omega);have hko:k - 1 < out.length:=by rw [HLn.out];omega
        rw [ordB_last HLn.out hk0,Bool.not_eq_true] at hord;unfold cT at hcl;rw [List.getElem?_map,List.getElem?_eq_getElem hko] at hcl;generalize out[k - 1]=y at *;have hcl:w2.cell? ⟨bo,k - 1,none⟩=some (.string y):=hcl;have hk0I:(0:Int) < (k:Int):=by omega
        have hk1:((k:Int) - 1).toNat=k - 1:=by omega
        have hk2:(1:Int)≤(k:Int):=by omega
        have hk3:(k:Int) - 1 < (k:Int):=by omega
        have HF:=hid (WFail_u w2 g L c1 A1 r _ 16 (by omega) HX2'.out);have hk0D:decide (0 < k)=true:=decide_eq_true hk0;clear hfr hko hbo;go_wp2_with fail;refine HEr.out.mono ?_;rintro e w3 ⟨rfl,rfl⟩;go_wp2_with fail;refine HF.out.mono ?_;rintro e w3 ⟨rfl,hX3,hK3⟩;have HE3:Hid (Calls Tryz.prog 107 #[.pointer (some ⟨g,0,none⟩)] w3 fun e w'=>e=.returned (.int .i64 16)∧w3=w'):=hid (WErr_u w3 g L c1 A1 r _ hX3);have HN3:Hid (Nw w w3):=hid (Kp.nw HN2.out hK3 HG.out HG.out);clear hX3 hK3 hcl;go_wp2_with fail;refine HE3.out.mono ?_;rintro e w4 ⟨rfl,rfl⟩;go_wp2_with fail;go_ret2;refine ⟨HN3.out,?_⟩;rw [HE.out];exact ⟨rfl,by omega⟩
     ·have hltI:¬ (k:Int) < (v:Int):=by omega
      have HE:Hid (Lb=.ok (out,q)):=hid (by
       have:=HB.out;rw [show v - k=0 by omega,repP] at this;exact this.symm)
      have HN2:Hid (Nw w wr):=hid (Kp.nw HN1.out HK.out HG.out HG.out);have HEnd:=hid (WEnd_u wr g b1 L c1 A1 r _ HY.out (HI.out.kp HK.out));rw [show endX (.ok q)=if q=[] then .ok () else .error 4 from rfl] at HEnd;by_cases hq:q=[]
      ·have HQ:=hid hq;rw [if_pos hq] at HEnd;have HEnd:Hid (Calls Tryz.prog 109 #[.pointer (some ⟨g,0,none⟩)] wr fun e w'=>e=.returned (.int .i64 0)∧wr=w'):=HEnd;clear hlt hq;go_wp2_with fail;refine HEnd.out.mono ?_;rintro e w4 ⟨rfl,rfl⟩;go_wp2_with fail;go_ret2;refine ⟨HN2.out,?_⟩;rw [HE.out,xb_ok];unfold endL;rw [if_pos HQ.out];exact ⟨bo,Ao,co,(by rw [HLn.out];rfl),by rw [HLn.out];exact HO.out.mono HN1.out.size⟩
      ·have HQ:=hid hq;rw [if_neg hq] at HEnd;have HEnd:Hid (Calls Tryz.prog 109 #[.pointer (some ⟨g,0,none⟩)] wr fun e w'=>e=.returned (.int .i64 4)∧wr=w'):=HEnd;clear hlt hq;go_wp2_with fail;refine HEnd.out.mono ?_;rintro e w4 ⟨rfl,rfl⟩;go_wp2_with fail;go_ret2;refine ⟨HN2.out,?_⟩;rw [HE.out,xb_ok];unfold endL;rw [if_neg HQ.out];exact ⟨rfl,by omega⟩
end
section
open Go Go.RowKit Go.Lib Go.Sort Go.Shelf
def intR (r:RecS):IntS:=⟨r.chks.map fun n:Nat=>(n:Int),r.bc,r.ac,r.cc⟩
theorem intR_zs (rows:List RecS):(rows.map intR).map (·.zs)=(rows.map valR).map fun x=>x.2.map fun n:Nat=>(n:Int):=by
 rw [List.map_map,List.map_map];rfl
theorem cLen_snoc {rows:List RecS} {k:Nat} (h:k < rows.length):cLen ((rows.take (k+1)).map intR)=cLen ((rows.take k).map intR)++[.slice rows[k].ac rows[k].chks.length rows[k].cc]:=by
 unfold cLen;rw [List.take_succ_eq_append_getElem h,List.map_append,List.map_append];simp [intR]
theorem E_ints:ElemT Tryz.prog 55 56 (.slice none 0 0) 1 24:=ElemT.mk' Tryz.underlying55 (by kernel_rfl) rfl (by omega)
theorem intR_flat (rows:List RecS):(((rows.map intR).map (·.zs)).flatten).length=(rows.flatMap (·.chks)).length:=by
 induction rows with
 | nil=>rfl
 | cons r rows ih =>
  rw [List.map_cons,List.map_cons,List.flatten_cons,List.length_append,ih,List.flatMap_cons,List.length_append];simp [intR]
theorem intR_in {w w':World} {rows:List RecS} (h:RowsD w w' rows):∀ s∈rows.map intR,InInt w' s:=by
 intro s hs;obtain ⟨r,hr,rfl⟩:=List.mem_map.1 hs;have h1:=(h r hr).2;refine ⟨?_,h1.capz⟩;have:=h1.1.rd;unfold cN at this;unfold cI intR;rw [List.map_map];exact this
theorem chunks_of {rows:List RecS} {d:List Nat} {c:List (List Smpl)} (hb:∀ y∈d,y < 256) (h:chunksP d ((rows.map intR).map (·.zs))=.ok c):c.length=rows.length∧(c.map List.length).sum≤120*(rows.flatMap (·.chks)).length∧∀ z∈c,InS z:=by
 have e:(rows.map intR).map (·.zs)=(rows.map (·.chks)).map fun l=>l.map fun x:Nat=>(x:Int):=by rw [List.map_map,List.map_map];rfl
 rw [e,chunksP_nat] at h;split at h
 ·rename_i hs
  obtain ⟨k1,k2⟩:=blkC_bnd _ hb h;obtain ⟨_,_,k3,_⟩:=blkC_inv _ hb hs h;refine ⟨by rw [k2,List.length_map],?_,k3⟩;rw [List.flatMap_def];exact k1
 ·cases h
def serM (r:RecS) (s:SmS):Ser:=⟨r.labs,s.zs,r.bl,r.al,r.cl,s.b,s.A,s.c⟩
theorem serM_val (rows:List RecS) (srows:List SmS):(List.zipWith serM rows srows).map valB=blkOf (rows.map valR) (srows.map (·.zs)):=by
 unfold blkOf;rw [List.map_zipWith,List.zipWith_map];rfl
theorem serM_snoc {rows:List RecS} {srows:List SmS} {k:Nat} (h:k < rows.length) (h':k < srows.length):cR ((List.zipWith serM rows srows).take (k+1))=cR ((List.zipWith serM rows srows).take k)++[.slice rows[k].al rows[k].labs.length rows[k].cl,.slice srows[k].A srows[k].zs.length srows[k].c]:=by
 rw [List.take_succ_eq_append_getElem (by rw [List.length_zipWith];omega)];unfold cR;rw [c2_append,List.getElem_zipWith];rfl
theorem serM_sum:∀ (rows:List RecS) (srows:List SmS),srows.length=rows.length→smpSum (List.zipWith serM rows srows)=((srows.map (·.zs)).map List.length).sum
 | [],[],_=>rfl
 | [],s::srows,h=>by simp at h
 | r::rows,[],h=>by simp at h
 | r::rows,s::srows,h=>by
  have:=serM_sum rows srows (by simpa using h);unfold smpSum at this ⊢;rw [List.zipWith_cons_cons,List.map_cons,List.sum_cons,this];rfl
theorem serM_labs:∀ (rows:List RecS) (srows:List SmS),srows.length=rows.length→(List.zipWith serM rows srows).map (·.labs)=rows.map (·.labs)
 | [],[],_=>rfl
 | [],s::srows,h=>by simp at h
 | r::rows,[],h=>by simp at h
 | r::rows,s::srows,h=>by
  rw [List.zipWith_cons_cons,List.map_cons,serM_labs rows srows (by simpa using h),List.map_cons];rfl
theorem serM_mem {rows:List RecS} {srows:List SmS} {s:Ser} (h:s∈List.zipWith serM rows srows):∃ r∈rows,∃ q∈srows,s=serM r q:=by
 obtain ⟨k,hk,rfl⟩:=List.getElem_of_mem h;rw [List.length_zipWith] at hk;exact ⟨rows[k],List.getElem_mem _,srows[k],List.getElem_mem _,List.getElem_zipWith ..⟩
theorem serM_ok {w w' W:World} {t:List ByteArray} {rows:List RecS} {srows:List SmS} (h1:RowsD w W rows) (h2:∀ q∈srows,OwS w' W q) (h3:∀ z∈srows.map (·.zs),InS z) (h4:∀ s∈strsOf (rows.flatMap (·.labs)),s∈t) (h5:∀ s∈t,s.size≤65535):∀ s∈List.zipWith serM rows srows,SerOk W s:=by
 intro s hs;obtain ⟨r,hr,q,hq,rfl⟩:=serM_mem hs;have k1:=(h1 r hr).1;have k2:=h2 q hq;refine ⟨⟨k1.1.rd,rfl,k1.capz,k1.1.cap.1,k1.1.cap.2,fun x hx=>?_⟩,⟨k2.1.rd,rfl,h3 _ (List.mem_map.2 ⟨q,hq,rfl⟩),OwN.capz k2,k2.1.cap.1,k2.1.cap.2⟩⟩;have m:x∈rows.flatMap (·.labs):=List.mem_flatMap.2 ⟨r,hr,hx⟩;have a:=h5 _ (h4 _ (strs_mem.2 ⟨x,m,.inl rfl⟩));have b:=h5 _ (h4 _ (strs_mem.2 ⟨x,m,.inr rfl⟩));exact ⟨by omega,by omega⟩
structure SecI0 (w:World) (b:Nat) (A:Option Addr) (c:Nat) (l:List Nat):Prop where
 rd:Rd w b A (cN .u8 l)
 nil:A=none→c=0
 cap:l.length≤c
 byt:∀ x∈l,x < 256
 len:l.length≤100000000
def NewS (w:World) (bo:Nat) (Ao:Option Addr) (l:List Ser):Prop:=(Ao=none∨w.heap.size≤bo)∧∀ s∈l,(s.al=none∨w.heap.size≤s.bl)∧(s.as_=none∨w.heap.size≤s.bs)
theorem NewS.mono {w W:World} {bo:Nat} {Ao:Option Addr} {l:List Ser} (h:NewS W bo Ao l) (hs:w.heap.size≤W.heap.size):NewS w bo Ao l :=
 ⟨h.1.imp id fun q=>Nat.le_trans hs q,fun s hm=>⟨(h.2 s hm).1.imp id fun q=>Nat.le_trans hs q,(h.2 s hm).2.imp id fun q=>Nat.le_trans hs q⟩⟩
def BlkGot (w:World) (X:Except Nat (List BVal)) (e:Ending) (w':World):Prop :=
 Nw w w'∧match X with
  | .ok B=>∃ (l:List Ser) (bo:Nat) (Ao:Option Addr) (co:Nat),e=.returned (.tuple #[.slice Ao l.length co,.int .i64 0])∧InSer w' bo Ao l.length co l∧l.map valB=B∧smpSum l≤10000000∧l.length≤100000∧(∀ s∈l,s.labs.length≤1000000)∧NewS w bo Ao l
  | .error k=>e=.returned (.tuple #[.slice none 0 0,.int .i64 (k:Int)])∧k≠0
def secK (t:List ByteArray) (l:List RecV) (c:List (List Smpl)) (l3:List Nat):Except Nat (List BVal) :=
 if blkW (blkOf l c)=0 then xb (posP t l.length l3) fun x=>if x=posV (blkOf l c) then .ok (blkOf l c) else .error 22 else .error (blkW (blkOf l c))
def secC (t:List ByteArray) (l:List RecV) (l2 l3:List Nat):Except Nat (List BVal):=xb (chunksP l2 (l.map fun x=>x.2.map fun n:Nat=>(n:Int))) fun c=>secK t l c l3
def secU (t:List ByteArray) (l:List RecV) (l2 l3:List Nat):Except Nat (List BVal):=if usedB t (l.flatMap (·.1))=true then secC t l l2 l3 else .error 15
def secT (t:List ByteArray) (l1 l2 l3:List Nat):Except Nat (List BVal):=xb (recsP t l1) fun l=>secU t l l2 l3
theorem secsP_T (l0 l1 l2 l3:List Nat):secsP (l0,l1,l2,l3)=xb (symsP l0) fun t=>secT t l1 l2 l3:=rfl
theorem flat_valR (rows:List RecS):(rows.map valR).flatMap (·.1)=rows.flatMap (·.labs):=by rw [List.flatMap_map]
theorem flat_valC (rows:List RecS):(rows.map valR).flatMap (·.2)=rows.flatMap (·.chks):=by rw [List.flatMap_map]
end
section
open Go Go.RowKit Go.Sort
theorem secs_bnd {xs:List Nat} {s:Secs} (hb:∀ x∈xs,x < 256) (h:parseP xs=.ok s):s.1.length≤xs.length∧s.2.1.length≤xs.length∧s.2.2.1.length≤xs.length∧s.2.2.2.length≤xs.length:=by
 obtain ⟨e,_⟩:=parseP_inv hb h;have hf:∀ (id:Nat) (l:List Nat),l.length≤(frame id l).length:=fun id l=>by
  unfold frame lenB;rw [addCrc_length,List.length_cons,List.length_append];omega
 have h1:=hf 1 s.1;have h2:=hf 2 s.2.1;have h3:=hf 3 s.2.2.1;have h4:=hf 4 s.2.2.2;have:=congrArg List.length e;rw [fileOf_eq] at this;simp only [addCrc_length,List.length_append] at this;omega
def SecsNum (s:Secs):Prop:=s.1.length≤100000000∧s.2.1.length≤100000000∧s.2.2.1.length≤1000000∧s.2.2.2.length≤100000000∧SecNum s.1 s.2.1 s.2.2.2
def DecNum (xs:List Nat):Prop:=∀ s,parseP xs=.ok s→SecsNum s
theorem decNum_short {xs:List Nat} (hb:∀ x∈xs,x < 256) (h:xs.length≤10000):DecNum xs:=by
 intro s hs;obtain ⟨a0,a1,a2,a3⟩:=secs_bnd hb hs;obtain ⟨_,b0,b1,b2,b3⟩:=parseP_inv hb hs;exact ⟨by omega,by omega,by omega,by omega,secNum_short b0 b1 b3 (by omega) (by omega) (by omega)⟩
end
end Go.Proofs.YtmmonehfnfbpbaaGreatDoor
