/- Laws that the last text builds on. -/
import Derived.Test.YticphebaflnedaaGreatDoorD5
import Derived.Test.YticphebaflnedaaGreatDoorChecked
namespace Go.Proofs.YticphebaflnedaaGreatDoor
open Go.Lib(hid)
section
open Go
theorem take_app {α:Type} (a b:List α) (n:Nat) (h:a.length=n):(a++b).take n=a:=by subst h;simp
theorem drop_app {α:Type} (a b:List α) (n:Nat) (h:a.length=n):(a++b).drop n=b:=by subst h;simp
theorem bv_bitsOf_lt (x n:Nat) (h:x < 2 ^ n):bv (bitsOf x n)=x:=by rw [bv_bitsOf,Nat.mod_eq_of_lt h]
theorem badNext_false (d:List Nat) (x:Nat) (h:∀ y∈d,y < x):badNext d x=false:=by
 unfold badNext;cases e:d.getLast? with
 | none=>rfl
 | some y=>have:=h y (List.mem_of_getLast? e);simp;omega
theorem gdict_put:∀ (e d:List Nat) (r:List Bool),(d++e).Pairwise (· < ·)→(∀ x∈e,x < 18446744073709551616)→gdict e.length d (e.flatMap (bitsOf · 64)++r)=(d++e,0,r):=by
 intro e;induction e with
 | nil=>intro d r _ _;simp [gdict]
 | cons x e ih =>
  intro d r hp hx;have e64:(2:Nat) ^ 64=18446744073709551616:=by decide
  have ht:((x::e).flatMap (bitsOf · 64)++r).take 64=bitsOf x 64:=by
   rw [List.flatMap_cons,List.append_assoc,take_app _ _ _ (bitsOf_length x 64)]
  have hd:((x::e).flatMap (bitsOf · 64)++r).drop 64=e.flatMap (bitsOf · 64)++r:=by
   rw [List.flatMap_cons,List.append_assoc,drop_app _ _ _ (bitsOf_length x 64)]
  have hv:bv (bitsOf x 64)=x:=bv_bitsOf_lt x 64 (by have:=hx x (by simp);omega);have hb:badNext d x=false:=by
   refine badNext_false d x fun y hy=>?_
   rw [List.pairwise_append] at hp;exact hp.2.2 y hy x (by simp)
  rw [List.length_cons,gdict_more _ _ _ (by rw [List.flatMap_cons,List.append_assoc,List.length_append,bitsOf_length];omega) (by rw [ht,hv];exact hb),ht,hd,hv,ih (d++[x]) r (by simpa using hp) (fun y hy=>hx y (by simp [hy]))];simp
theorem gidx_put (k:Nat) (hk:k≤18446744073709551616):∀ (is l:List Nat) (r:List Bool),(∀ x∈is,x < k)→gidx k is.length l (is.flatMap (bitsOf · (wd k))++r)=(l++is,0,r):=by
 intro is;induction is with
 | nil=>intro l r _;simp [gidx]
 | cons x is ih =>
  intro l r hx;have ht:((x::is).flatMap (bitsOf · (wd k))++r).take (wd k)=bitsOf x (wd k):=by
   rw [List.flatMap_cons,List.append_assoc,take_app _ _ _ (bitsOf_length x _)]
  have hd:((x::is).flatMap (bitsOf · (wd k))++r).drop (wd k)=is.flatMap (bitsOf · (wd k))++r:=by
   rw [List.flatMap_cons,List.append_assoc,drop_app _ _ _ (bitsOf_length x _)]
  have hxk:=hx x (by simp);have hv:bv (bitsOf x (wd k))=x:=bv_bitsOf_lt x _ (Nat.lt_of_lt_of_le hxk (wd_spec k hk).1);rw [List.length_cons,gidx_more _ _ _ _ (by rw [List.flatMap_cons,List.append_assoc,List.length_append,bitsOf_length];omega) (by rw [ht,hv];omega),ht,hd,hv,ih (l++[x]) r (fun y hy=>hx y (by simp [hy]))];simp
theorem flatMap_map' {α β γ:Type} (f:α→β) (g:β→List γ) (l:List α):(l.map f).flatMap g=l.flatMap (fun x=>g (f x)):=by
 induction l with
 | nil=>rfl
 | cons x l ih=>simp [ih]
theorem idxOf_getD (D:List Nat) (x:Nat) (h:x∈D):D.getD (D.idxOf x) 0=x:=by
 have hl:=List.idxOf_lt_length_of_mem h;rw [List.getD_eq_getElem?_getD,List.getElem?_eq_getElem hl];simp
theorem idxOf_at (D:List Nat) (hd:D.Pairwise (· < ·)) (i:Nat) (h:i < D.length):D.idxOf (D.getD i 0)=i:=by
 have e:D.getD i 0=D[i]:=by rw [List.getD_eq_getElem?_getD,List.getElem?_eq_getElem h];rfl
 rw [e];have hl:=List.idxOf_lt_length_of_mem (List.getElem_mem h);have hg:D[D.idxOf D[i]]=D[i]:=by simp
 rcases Nat.lt_trichotomy (D.idxOf D[i]) i with hlt | heq | hgt
 ·have:=(List.pairwise_iff_getElem.1 hd) _ _ hl h hlt;omega
 ·exact heq
 ·have:=(List.pairwise_iff_getElem.1 hd) _ _ h hl hgt;omega
theorem unused_false (k:Nat) (l:List Nat):unused k l=false↔∀ j,j < k→j∈l:=by
 unfold unused;rw [List.any_eq_false];constructor
 ·intro h j hj;have:=h j (List.mem_range.2 hj);simpa using this
 ·intro h j hj;have:=h j (List.mem_range.1 hj);simpa using this
theorem getVals_put (l:List Nat) (r:List Bool) (hl:l≠[]) (hd:(dict l).length≤128) (hx:∀ x∈l,x < 18446744073709551616):getVals l.length (putBits l++r)=(l,0,r):=by
 have hlen:l.length≠0:=by simpa using hl
 have hpos:0 < (dict l).length:=by
  rcases Nat.eq_zero_or_pos (dict l).length with h | h
  ·exact absurd ((dict_nil_iff l).1 (List.eq_nil_of_length_eq_zero h)) hl
  ·exact h
 have hG:gD (putBits l++r)=(dict l,0,l.flatMap (fun x=>bitsOf ((dict l).idxOf x) (wd (dict l).length))++r):=by
  unfold gD putBits;rw [if_neg hl,List.append_assoc,List.append_assoc,if_neg (by rw [List.length_append,bitsOf_length];omega),take_app _ _ _ (bitsOf_length _ 7),drop_app _ _ _ (bitsOf_length _ 7),bv_bitsOf_lt _ 7 (by omega),Nat.sub_add_cancel hpos];rw [gdict_put (dict l) [] _ (by simpa using dict_asc l) (fun x hx'=>hx x ((dict_mem l x).1 hx'))];simp
 have hI:gidx (dict l).length l.length [] (l.flatMap (fun x=>bitsOf ((dict l).idxOf x) (wd (dict l).length))++r)=(l.map ((dict l).idxOf ·),0,r):=by
  have:=gidx_put (dict l).length (by omega) (l.map ((dict l).idxOf ·)) [] r (fun j hj=>by
   obtain ⟨x,hx1,rfl⟩:=List.mem_map.1 hj;exact List.idxOf_lt_length_of_mem ((dict_mem l x).2 hx1))
  rw [flatMap_map',List.length_map,List.nil_append] at this;exact this
 have hU:unused (dict l).length (l.map ((dict l).idxOf ·))=false:=by
  rw [unused_false];intro j hj;have hm:(dict l).getD j 0∈dict l:=by rw [List.getD_eq_getElem?_getD,List.getElem?_eq_getElem hj];exact List.getElem_mem hj
  exact List.mem_map.2 ⟨(dict l).getD j 0,(dict_mem l _).1 hm,idxOf_at _ (dict_asc l) j hj⟩
 have hM:(l.map ((dict l).idxOf ·)).map ((dict l).getD · 0)=l:=by
  rw [List.map_map]
  conv=>rhs;rw [← List.map_id l]
  refine List.map_congr_left fun x hx1=>?_
  exact idxOf_getD (dict l) x ((dict_mem l x).2 hx1)
 rw [getVals_eq _ _ hlen,hG];simp only [hI,hU,hM];simp
theorem putBits_length (l:List Nat) (hl:l≠[]):(putBits l).length=7+64*(dict l).length+wd (dict l).length*l.length:=by
 unfold putBits;rw [if_neg hl,List.length_append,List.length_append,bitsOf_length];have key:∀ (f:Nat→List Bool) (v:Nat),(∀ x,(f x).length=v)→∀ l:List Nat,(l.flatMap f).length=v*l.length:=by
  intro f v hf l;induction l with
  | nil=>rfl
  | cons x l ih=>rw [List.flatMap_cons,List.length_append,ih,hf,List.length_cons,Nat.mul_add];omega
 rw [key _ 64 (fun x=>bitsOf_length x 64),key _ (wd (dict l).length) (fun x=>bitsOf_length _ _)]
end
section
open Go Go.RowKit
def szOf (l:List Nat):Int:=if 128 < (dict l).length then -1 else if (dict l).length=0 then 0 else 7+(dict l).length*64+l.length*wd (dict l).length
theorem szOf_at (l:List Nat) (k:Nat) (h:(dict l).length=k):szOf l=if 128 < k then -1 else if k=0 then 0 else 7+(k:Int)*64+(l.length:Int)*(wd k:Int):=by subst h;rfl
theorem Size_any (w:World) (b:Nat) (A:Option Addr) (n c:Nat) (l:List Nat) (hn:n=l.length) (hm:n≤1000000) (hr:Rd w b A (cN .u64 l)) (hx:∀ x∈l,x < 18446744073709551616) :
  Calls Tryz.prog 220 #[.slice A n c] w fun e w'=>e=.returned (.int .i64 (szOf l))∧Nw w w':=by
 subst hn;have hdl:=dict_length l;have HD:=hid (Dictionary_any w b A l.length c l rfl (by omega) hr hx);have HW:=hid (wd_le (dict l).length);clear hx hr;generalize hd:(dict l).length=k at *;have HS:=hid (szOf_at l k hd);clear hd;by_cases h1:128 < k
 ·go_enter Tryz.func220,Tryz.ntmps220
  go_wp2_with (go_at_call 283;refine HD.out.mono ?_;rintro e w1 ⟨b1,c1,rfl,hO,hge,hN⟩)
  go_ret;have h:=HS.out;rw [if_pos h1] at h;exact ⟨by rw [h];rfl,hN⟩
 ·by_cases h0:k=0
  ·go_enter Tryz.func220,Tryz.ntmps220
   go_wp2_with (go_at_call 283;refine HD.out.mono ?_;rintro e w1 ⟨b1,c1,rfl,hO,hge,hN⟩)
   go_ret;have h:=HS.out;rw [if_neg h1,if_pos h0] at h;exact ⟨by rw [h];rfl,hN⟩
  ·have hw:=HW.out (by omega);have hmul:l.length*wd k≤l.length*7:=Nat.mul_le_mul_left _ hw;have HM:=hid (show ((l.length*wd k:Nat):Int)=(l.length:Int)*(wd k:Int) from by simp);generalize hv:wd k=v at *;generalize hp:l.length*v=p at *;have HV:=hid hv;have HP:=hid hp;clear hv hp;have e1:(l.length:Int)*(v:Int)=(p:Int):=HM.out.symm;go_enter Tryz.func220,Tryz.ntmps220
   go_wp2_with (first
    | (go_at_call 283;refine HD.out.mono ?_;rintro e w1 ⟨b1,c1,rfl,hO,hge,hN⟩)
    | (go_at_call 284;refine (Width_any _ _ (by omega) (by omega)).mono ?_;rintro e w2 ⟨rfl,hw2⟩;simp only [Int.toNat_natCast,HV.out];subst hw2))
   go_ret;have h:=HS.out;rw [if_neg h1,if_neg h0] at h;refine ⟨?_,hN⟩;rw [h,e1];rfl
theorem Put_empty (w:World) (g b:Nat) (A:Option Addr) (c:Nat) :
  Calls Tryz.prog 221 #[.pointer (some ⟨g,0,none⟩),.slice A 0 c] w fun e w'=>e=.returned (.int .i64 0)∧Nw w w':=by
 have HD:=hid (Dictionary_any w b A 0 c [] rfl (by omega) (Rd.nil _ _ _) (by simp));rw [show dict []=[] from rfl] at HD;have hnil:∀ W,(binOp .eql 273 (.pointer (some ⟨g,0,none⟩)) (.pointer none)).run Tryz.prog W=.ok (.bool false) W:=fun _=>by kernel_rfl
 go_enter Tryz.func221,Tryz.ntmps221
 go_wp2_with (go_at_call 283;refine HD.out.mono ?_;rintro e w1 ⟨b1,c1,rfl,hO,hge,hN⟩)
 go_ret;exact ⟨rfl,hN⟩
theorem flatv_length {f:Nat→List Bool} {v:Nat} (hf:∀ x,(f x).length=v) (l:List Nat):(l.flatMap f).length=v*l.length:=by
 induction l with
 | nil=>rfl
 | cons x l ih=>rw [List.flatMap_cons,List.length_append,ih,hf,List.length_cons,Nat.mul_succ,Nat.add_comm]
theorem flat64_length (d:List Nat) (k:Nat) (h:k≤d.length):((d.take k).flatMap (bitsOf · 64)).length=64*k:=by
 rw [flatv_length (fun x=>bitsOf_length x 64),List.length_take,Nat.min_eq_left h]
theorem flatw_length (l:List Nat) (f:Nat→Nat) (v k:Nat) (h:k≤l.length):((l.take k).flatMap (fun x=>bitsOf (f x) v)).length=v*k:=by
 rw [flatv_length (fun x=>bitsOf_length (f x) v),List.length_take,Nat.min_eq_left h]
theorem flat_succ {f:Nat→List Bool} (l:List Nat) (k:Nat) (h:k < l.length):(l.take (k+1)).flatMap f=(l.take k).flatMap f++f l[k]:=by
 rw [List.take_succ_eq_append_getElem h,List.flatMap_append];simp
theorem Put_ok (w:World) (g gb b:Nat) (A:Option Addr) (n c:Nat) (bs:List Bool) (l:List Nat) (hn:n=l.length) (hm:n≤1000000) (hr:Rd w b A (cN .u64 l)) (hx:∀ x∈l,x < 18446744073709551616)
  (hW:Wtr w g gb bs) (hne:b≠g) (hne2:b≠gb) (hb:bs.length≤1000000000) (hbl:l≠[]→b < w.heap.size) (hd:(dict l).length≤128) (hl:l≠[]) :
  Calls Tryz.prog 221 #[.pointer (some ⟨g,0,none⟩),.slice A n c] w fun e w'=>e=.returned (.int .i64 0)∧∃ b',Wtr w' g b' (bs++putBits l)∧(b'=gb∨w.heap.size≤b')∧Kp g gb w w':=by
 subst hn;have hl0:0 < l.length:=List.length_pos_iff.2 hl;have hd0:0 < (dict l).length:=by rw [List.length_pos_iff];intro h;exact hl ((dict_nil_iff l).1 h)
 have HPB:=hid (show putBits l=bitsOf ((dict l).length - 1) 7++(dict l).flatMap (bitsOf · 64)++l.flatMap (fun x=>bitsOf ((dict l).idxOf x) (wd (dict l).length)) from by unfold putBits;rw [if_neg hl]);have HD:=hid (Dictionary_any w b A l.length c l rfl (by omega) hr hx);have HV:=hid (wd_le (dict l).length hd);have HDX:=hid (show ∀ x∈dict l,x < 18446744073709551616 from fun x h=>hx x ((dict_mem l x).1 h));have HDM:=hid (dict_mem l);have HDA:=hid (dict_asc l);have hglt:=hW.glt;have hgblt:=hW.lt;have HW:=hid hW;have HBL:=hid (hbl hl);have HR:=hid hr;clear hx hr hW hbl hl;have hnil:∀ W,(binOp .eql 273 (.pointer (some ⟨g,0,none⟩)) (.pointer none)).run Tryz.prog W=.ok (.bool false) W:=fun _=>by kernel_rfl
 generalize hdd:dict l=d at *;clear hdd;have e1:IntKind.u64.wrap ((d.length:Int) - 1)=((d.length - 1:Nat):Int):=by rw [IntWalk.u64_in _ (by omega)];omega
 go_enter Tryz.func221,Tryz.ntmps221
 go_wp2_with (first
  | (go_at_call 283;refine HD.out.mono ?_;rintro e w1 ⟨b1,c1,rfl,hO,hge,hN⟩;have hO0:=hO;have HO:=hid hO.rd;clear hO;have HN1:=hid hN;have hs1:=hN.size;have hb1:b1 < w1.heap.size:=hO0.lt hd0)
  | (go_at_call 177;refine (WBits_any w1 g gb bs (d.length - 1) 7 (HW.out.nw HN1.out) (by omega) (by omega) (by omega)).mono ?_;rintro e w2 ⟨rfl,b2,h1,h2,h3⟩))
 have hN1:=HN1.out;have hK2:Kp g gb w w2:=(hN1.kp g gb).trans h3 (.inl rfl) (.inr (.inl rfl));have hs2:=h3.size;have hb2:b2≠b1:=by omega
 clear hO0;go_loopw [33] (fun i wr=>∃ k:Nat,k≤d.length∧i=.int .i64 k∧∃ bk,Wtr wr g bk (bs++(bitsOf (d.length - 1) 7++(d.take k).flatMap (bitsOf · 64)))∧(bk=gb∨w1.heap.size≤bk)∧Kp g gb w1 wr) (fun i _=>d.length - (intOf i).toNat)
 case atStart=>exact ⟨0,by omega,rfl,b2,by simpa using h1,h2,h3⟩
 case round =>
  obtain ⟨k,hk,rfl,bk,hWk,hbk,hKk⟩:=hrel;have hsk:=hKk.size;have hRd:Rd wr b1 (some ⟨b1,0,none⟩) (cN .u64 d):=HO.out.kp hKk (by omega) (by omega);by_cases hlt:k < d.length
  ·obtain ⟨o,ho,_,hc⟩:=hRd.get (k:=k) (by simpa using hlt);injection ho with ho
   injection ho with _ ho _
   subst ho;rw [List.getElem_map,Nat.zero_add] at hc;have HWk:=hid hWk;have HL:=hid (flat64_length d k (by omega));have HX:=hid (HDX.out _ (List.getElem_mem hlt));clear hWk hRd;go_wp2_with (go_at_call 177;refine (WBits_any wr g bk _ d[k] 64 HWk.out (by omega) HX.out (by simp only [List.length_append,HL.out,bitsOf_length];omega)).mono ?_;rintro e w3 ⟨rfl,b3,h4,h5,h6⟩)
   go_roundw
   case rel =>
    refine ⟨k+1,by omega,by go_num,b3,?_,by omega,hKk.trans h6 (.inl rfl) (by omega)⟩;rw [flat_succ d k hlt];simpa using h4
   case measure=>simp [intOf];omega
  ·obtain rfl:k=d.length:=by omega
   rw [List.take_length] at hWk;have HWk:=hid hWk;clear hWk;have HL:=hid (flat64_length d d.length (Nat.le_refl _));rw [List.take_length] at HL;go_wp2_with fail;go_loopw [43] (fun i wr=>∃ j:Nat,j≤l.length∧i=.int .i64 j∧∃ bk,Wtr wr g bk (bs++(bitsOf (d.length - 1) 7++d.flatMap (bitsOf · 64)++(l.take j).flatMap (fun x=>bitsOf (d.idxOf x) (wd d.length))))∧(bk=gb∨w1.heap.size≤bk)∧Kp g gb w1 wr) (fun i _=>l.length - (intOf i).toNat)
   case atStart=>exact ⟨0,by omega,rfl,bk,by simpa using HWk.out,hbk,hKk⟩
   case round =>
    obtain ⟨j,hj,rfl,bj,hWj,hbj,hKj⟩:=hrel;have hsj:=hKj.size;have hRd:Rd wr b1 (some ⟨b1,0,none⟩) (cN .u64 d):=HO.out.kp hKj (by omega) (by omega);by_cases hlt2:j < l.length
    ·have hRl:Rd wr b A (cN .u64 l):=(HR.out.nw HN1.out).kp hKj (by omega) (by omega);obtain ⟨o,rfl,_,hc⟩:=hRl.get (k:=j) (by simpa using hlt2);rw [List.getElem_map] at hc;have HWj:=hid hWj;have HL2:=hid (flatw_length l (fun x=>d.idxOf x) (wd d.length) j (by omega));have hv:wd d.length*j≤7*l.length:=Nat.mul_le_mul HV.out (by omega);have hv7:=HV.out;have hmem:l[j]∈d:=(HDM.out _).2 (List.getElem_mem hlt2);have hix:=List.idxOf_lt_length_of_mem hmem;have HB:=hid (BinarySearch_hit wr b1 _ d.length c1 d l[j] rfl (by omega) hRd HDA.out hmem);clear hWj hRd hmem;have e2:IntKind.u64.wrap ((d.idxOf l[j]:Nat):Int)=((d.idxOf l[j]:Nat):Int):=IntWalk.u64_in _ (by omega);go_wp2_with (first
      | (go_at_call 285;refine HB.out.mono ?_;rintro e w3 ⟨rfl,hw3⟩;subst hw3)
      | (go_at_call 284;refine (Width_any _ _ (by omega) (by omega)).mono ?_;rintro e w3 ⟨rfl,hw3⟩;simp only [Int.toNat_natCast];subst hw3)
      | (go_at_call 177;refine (WBits_any wr g bj _ (d.idxOf l[j]) (wd d.length) HWj.out (by omega) (by omega) (by simp only [List.length_append,HL.out,HL2.out,bitsOf_length];omega)).mono ?_;rintro e w3 ⟨rfl,b3,h4,h5,h6⟩))
     go_roundw
     case rel =>
      refine ⟨j+1,by omega,by go_num,b3,?_,by omega,hKj.trans h6 (.inl rfl) (by omega)⟩;rw [flat_succ l j hlt2];simpa using h4
     case measure=>simp [intOf];omega
    ·obtain rfl:j=l.length:=by omega
     rw [List.take_length,← HPB.out] at hWj;go_wp2_with fail;go_ret;refine ⟨rfl,bj,hWj,?_,(HN1.out.kp g gb).trans hKj (.inl rfl) (.inr (.inl rfl))⟩;omega
end
section
open Go Go.RowKit
theorem Put_all (w:World) (g gb b:Nat) (A:Option Addr) (n c:Nat) (bs:List Bool) (l:List Nat) (hn:n=l.length) (hm:n≤1000000) (hr:Rd w b A (cN .u64 l)) (hx:∀ x∈l,x < 18446744073709551616)
  (hW:Wtr w g gb bs) (hne:b≠g) (hne2:b≠gb) (hb:bs.length≤1000000000) (hbl:l≠[]→b < w.heap.size) (hd:(dict l).length≤128) :
  Calls Tryz.prog 221 #[.pointer (some ⟨g,0,none⟩),.slice A n c] w fun e w'=>e=.returned (.int .i64 0)∧∃ b',Wtr w' g b' (bs++putBits l)∧(b'=gb∨w.heap.size≤b')∧Kp g gb w w':=by
 by_cases hl:l=[]
 ·subst hl hn;refine (Put_empty w g b A c).mono ?_;rintro e w' ⟨rfl,hN⟩;exact ⟨rfl,gb,by simpa [putBits] using hW.nw hN,.inl rfl,hN.kp _ _⟩
 ·exact Put_ok w g gb b A n c bs l hn hm hr hx hW hne hne2 hb hbl hd hl
theorem szOf_limit (l:List Nat) (hd:128 < (dict l).length):szOf l = -1:=by unfold szOf;rw [if_pos hd]
theorem endE_pad (k:Nat) (h:k < 8):endE (List.replicate k false)=0:=by
 unfold endE;rw [if_neg];rintro (h1 | h1)
 ·simp at h1;omega
 ·simp at h1
theorem bytesEqual_same (w:World) (b b':Nat) (A A':Option Addr) (n c n' c':Nat) (xs:List Nat) (hn:n=xs.length) (hn':n'=xs.length) (hr:Rd w b A (cN .u8 xs)) (hr':Rd w b' A' (cN .u8 xs)) (hx:∀ x∈xs,x < 256) :
  Calls Tryz.prog 23 #[.slice A n c,.slice A' n' c'] w fun e w'=>e=.returned (.bool true)∧w=w':=by
 have h:=bytesEqual_any w b b' A A' n c n' c' xs xs hn hn' hr hr' hx hx
 rwa [decide_eq_true rfl] at h
end
section
open Go
def runF (v c:Nat):List Nat→List (Nat × Nat)
 | []=>[(v,c)]
 | x::l=>if x=v∧c < 128 then runF v (c+1) l else (v,c)::runF x 1 l
def runs:List Nat→List (Nat × Nat)
 | []=>[]
 | v::l=>runF v 1 l
def unrun (rs:List (Nat × Nat)):List Nat:=rs.flatMap fun r=>List.replicate r.2 r.1
def rbits (r:Nat × Nat):List Bool:=bitsOf r.1 64++bitsOf (r.2 - 1) 7
def rput (l:List Nat):List Bool:=(runs l).flatMap rbits
def rgetF:Nat→Nat→Nat→Nat→List Bool→Except Nat (List (Nat × Nat) × List Bool)
 | 0,_,_,_,_=>.error 0
 | f+1,n,v,c,bs =>
  if n=0 then .ok ([],bs)
  else if bs.length < 71 then .error 3
  else if n < bv ((bs.drop 64).take 7)+1∨(bv (bs.take 64)=v∧c < 128) then .error 8
  else match rgetF f (n - (bv ((bs.drop 64).take 7)+1)) (bv (bs.take 64)) (bv ((bs.drop 64).take 7)+1) (bs.drop 71) with
   | .error e=>.error e
   | .ok (l,r)=>.ok ((bv (bs.take 64),bv ((bs.drop 64).take 7)+1)::l,r)
def rgetR (n:Nat) (bs:List Bool):Except Nat (List (Nat × Nat) × List Bool):=rgetF (n+1) n 0 128 bs
def rget (n:Nat) (bs:List Bool):Except Nat (List Nat × List Bool) :=
 match rgetR n bs with
 | .error e=>.error e
 | .ok (l,r)=>.ok (unrun l,r)
def RunsOk:Nat→Nat→List (Nat × Nat)→Prop
 | _,_,[]=>True
 | v,c,(x,k)::l=>1≤k∧k≤128∧¬ (x=v∧c < 128)∧RunsOk x k l
def total (rs:List (Nat × Nat)):Nat:=(rs.map (·.2)).sum
theorem unrun_length (rs:List (Nat × Nat)):(unrun rs).length=total rs:=by
 induction rs with
 | nil=>rfl
 | cons r rs ih=>simp [unrun,total,List.flatMap_cons] at *;try omega
theorem runF_unrun:∀ (l:List Nat) (v c:Nat),unrun (runF v c l)=List.replicate c v++l:=by
 intro l;induction l with
 | nil=>intro v c;simp [runF,unrun]
 | cons x l ih =>
  intro v c;unfold runF;split
  ·rename_i h
   rw [ih,h.1,List.replicate_succ',List.append_assoc];rfl
  ·rw [show unrun ((v,c)::runF x 1 l)=List.replicate c v++unrun (runF x 1 l) from by simp [unrun,List.flatMap_cons],ih];rfl
theorem runs_unrun (l:List Nat):unrun (runs l)=l:=by
 cases l with
 | nil=>rfl
 | cons v l=>simp only [runs];rw [runF_unrun];rfl
theorem runF_ok:∀ (l:List Nat) (v c u d:Nat),1≤c→c≤128→¬ (v=u∧d < 128)→RunsOk u d (runF v c l):=by
 intro l;induction l with
 | nil=>intro v c u d h1 h2 h3;exact ⟨h1,h2,h3,trivial⟩
 | cons x l ih =>
  intro v c u d h1 h2 h3;unfold runF;split
  ·rename_i h
   exact ih v (c+1) u d (by omega) (by omega) h3
  ·rename_i h
   exact ⟨h1,h2,h3,ih x 1 v c (by omega) (by omega) h⟩
theorem runs_ok (l:List Nat):RunsOk 0 128 (runs l):=by
 cases l with
 | nil=>trivial
 | cons v l=>exact runF_ok l v 1 0 128 (by omega) (by omega) (by omega)
theorem rbits_length (r:Nat × Nat):(rbits r).length=71:=by simp [rbits,bitsOf_length]
theorem runF_vals (P:Nat→Prop):∀ (l:List Nat) (v c:Nat),P v→(∀ x∈l,P x)→∀ r∈runF v c l,P r.1:=by
 intro l;induction l with
 | nil=>intro v c hv _ r hr;simp [runF] at hr;subst hr;exact hv
 | cons x l ih =>
  intro v c hv hl r hr;unfold runF at hr;split at hr
  ·exact ih v (c+1) hv (fun y hy=>hl y (by simp [hy])) r hr
  ·rcases List.mem_cons.1 hr with rfl | hr
   ·exact hv
   ·exact ih x 1 (hl x (by simp)) (fun y hy=>hl y (by simp [hy])) r hr
theorem runs_vals (P:Nat→Prop) (l:List Nat) (hl:∀ x∈l,P x):∀ r∈runs l,P r.1:=by
 cases l with
 | nil=>intro r hr;cases hr
 | cons v l=>exact runF_vals P l v 1 (hl v (by simp)) (fun y hy=>hl y (by simp [hy]))
theorem rgetF_put:∀ (rs:List (Nat × Nat)) (f v c:Nat) (r:List Bool),RunsOk v c rs→(∀ x∈rs,x.1 < 18446744073709551616)→total rs < f→rgetF f (total rs) v c (rs.flatMap rbits++r)=.ok (rs,r):=by
 intro rs;induction rs with
 | nil=>intro f v c r _ _ hf;obtain ⟨g,rfl⟩:∃ g,f=g+1:=⟨f - 1,by omega⟩;rfl
 | cons y rs ih =>
  obtain ⟨x,k⟩:=y;intro f v c r h hv hf;obtain ⟨h1,h2,h3,h4⟩:=h;obtain ⟨g,rfl⟩:∃ g,f=g+1:=⟨f - 1,by omega⟩;have ht:total ((x,k)::rs)=k+total rs:=by simp [total]
  have hx:=hv (x,k) (by simp);have l1:=bitsOf_length x 64;have l2:=bitsOf_length (k - 1) 7;rw [ht] at hf ⊢;have e1:(((x,k)::rs).flatMap rbits++r).take 64=bitsOf x 64:=by
   simp only [List.flatMap_cons,rbits,List.append_assoc];exact (cut_at _ _ l1).1
  have e2:(((x,k)::rs).flatMap rbits++r).drop 64=bitsOf (k - 1) 7++(rs.flatMap rbits++r):=by
   simp only [List.flatMap_cons,rbits,List.append_assoc];exact (cut_at _ _ l1).2
  have e3:(((x,k)::rs).flatMap rbits++r).drop 71=rs.flatMap rbits++r:=by
   rw [show 71=64+7 from rfl,← List.drop_drop,e2,(cut_at _ _ l2).2]
  have e4:71≤(((x,k)::rs).flatMap rbits++r).length:=by
   simp only [List.flatMap_cons,List.length_append,rbits_length];omega
  unfold rgetF;rw [if_neg (by omega),if_neg (by omega),e1,e2,e3,(cut_at _ _ l2).1,bv_bitsOf,bv_bitsOf,pow64,Nat.mod_eq_of_lt hx,Nat.mod_eq_of_lt (by omega),show k - 1+1=k from by omega,if_neg (by
   rintro (h | h)
   ·omega
   ·exact h3 h),show k+total rs - k=total rs from by omega,ih g x k r h4 (fun z hz=>hv z (by simp [hz])) (by omega)]
theorem rget_put (l:List Nat) (r:List Bool) (hl:∀ x∈l,x < 18446744073709551616):rget l.length (rput l++r)=.ok (l,r):=by
 have h1:=runs_unrun l;have h2:=unrun_length (runs l);rw [h1] at h2;unfold rget rgetR rput;have h3:=rgetF_put (runs l) (l.length+1) 0 128 r (runs_ok l) (runs_vals _ l hl) (by omega);rw [← h2] at h3;rw [h3];simp only [h1]
theorem runF_length_le:∀ (l:List Nat) (v c:Nat),(runF v c l).length≤l.length+1:=by
 intro l;induction l with
 | nil=>intro v c;simp [runF]
 | cons x l ih =>
  intro v c;unfold runF;split
  ·have:=ih v (c+1);simp;omega
  ·have:=ih x 1;simp;omega
theorem rput_length (l:List Nat):(rput l).length=71*(runs l).length:=by
 unfold rput;induction runs l with
 | nil=>rfl
 | cons r rs ih=>simp only [List.flatMap_cons,List.length_append,rbits_length,List.length_cons,ih];omega
theorem runs_length_le (l:List Nat):(runs l).length≤l.length:=by
 cases l with
 | nil=>simp [runs]
 | cons v l=>exact runF_length_le l v 1
end
section
open Go Go.RowKit
def pick3 (a b c:Int):Nat :=
 if 0≤b∧b < a then (if 0≤c∧c < b then 3 else 2) else (if 0≤c∧c < a then 3 else 1)
theorem pick3_in (a b c:Int):1≤pick3 a b c∧pick3 a b c≤3:=by unfold pick3;split<;>split<;>omega
def tagOf (l:List Nat):Nat:=pick3 ((xput l).length:Int) ((rput l).length:Int) (szOf l)
theorem tagOf_in (l:List Nat):1≤tagOf l∧tagOf l≤3:=pick3_in _ _ _
theorem tagOf_dict (l:List Nat) (h:tagOf l=3):(dict l).length≤128:=by
 by_cases hd:(dict l).length≤128
 ·exact hd
 ·have h1:=szOf_limit l (by omega);unfold tagOf at h;rw [h1] at h;unfold pick3 at h;split at h<;>split at h<;>omega
def vput (tag:Nat) (l:List Nat):List Bool:=if tag=1 then xput l else if tag=2 then rput l else putBits l
def cbits (ts:List Int) (vs:List Nat):List Bool:=bitsOf (tagOf vs) 8++(bitsOf (vs.length - 1) 8++(tput ts++vput (tagOf vs) vs))
def dgot (x:List Nat × Nat × List Bool):Except Nat (List Nat × List Bool):=if x.2.1=0 then .ok (x.1,x.2.2) else .error x.2.1
def vget (tag n:Nat) (bs:List Bool):Except Nat (List Nat × List Bool):=if tag=1 then xget n bs else if tag=2 then rget n bs else dgot (getVals n bs)
def cget (bytes:List Nat):Except Nat (List Int × List Nat) :=
 match bytes with
 | []=>.error 3
 | tag::r1 =>
  if tag < 1∨3 < tag then .error 9
  else match r1 with
  | []=>.error 3
  | n1::r =>
   if 120≤n1 then .error 7
   else match tget (n1+1) (up r) with
   | .error e=>.error e
   | .ok (ts,bs) =>
    match vget tag (n1+1) bs with
    | .error e=>.error e
    | .ok (vs,bs')=>if endE bs'≠0 then .error (endE bs') else if tagOf vs≠tag then .error 8 else .ok (ts,vs)
theorem bitsOf_up {x:Nat} (l:List Nat) (h:x < 256):bv ((up (x::l)).take 8)=x∧(up (x::l)).drop 8=up l:=by
 rw [up_cons];obtain ⟨h1,h2⟩:=cut_at (bitsOf x 8) (up l) (bitsOf_length x 8);rw [h1,h2,bv_bitsOf];exact ⟨by omega,rfl⟩
theorem up_inj:∀ (a b:List Nat),(∀ x∈a,x < 256)→(∀ x∈b,x < 256)→up a=up b→a=b:=by
 intro a;induction a with
 | nil =>
  intro b _ _ h;have:=congrArg List.length h;rw [up_length,up_length] at this;exact (List.eq_nil_of_length_eq_zero (by simp at this;omega)).symm
 | cons x a ih =>
  intro b ha hb h;cases b with
  | nil=>have:=congrArg List.length h;rw [up_length,up_length] at this;simp at this
  | cons y b =>
   obtain ⟨h1,h2⟩:=bitsOf_up a (ha x (by simp));obtain ⟨h3,h4⟩:=bitsOf_up b (hb y (by simp));rw [h] at h1 h2;rw [h3] at h1;rw [h4] at h2;rw [h1,ih b (fun z hz=>ha z (by simp [hz])) (fun z hz=>hb z (by simp [hz])) h2.symm]
theorem pk_byte {x:Nat} (h:x < 256) (B:List Bool):pk (bitsOf x 8++B)=x::pk B:=by
 refine up_inj _ _ (pk_lt _) ?_ ?_
 ·intro y hy;rcases List.mem_cons.1 hy with rfl | hy
  ·exact h
  ·exact pk_lt _ _ hy
 ·rw [up_pk,up_cons,up_pk,List.append_assoc,List.length_append,bitsOf_length];congr 3
  omega
theorem cbits_pk (ts:List Int) (vs:List Nat) (hv:vs.length≤120):pk (cbits ts vs)=tagOf vs::(vs.length - 1)::pk (tput ts++vput (tagOf vs) vs):=by
 have h:=tagOf_in vs;unfold cbits;rw [pk_byte (by omega),pk_byte (by omega)]
theorem vget_put (tag:Nat) (l:List Nat) (r:List Bool) (hl:l≠[]) (h3:tag=3→(dict l).length≤128) (hx:∀ x∈l,x < 18446744073709551616) (_:1≤tag∧tag≤3):vget tag l.length (vput tag l++r)=.ok (l,r):=by
 unfold vget vput;split
 ·exact xget_put l r hx
 ·split
  ·exact rget_put l r hx
  ·rw [getVals_put l r hl (h3 (by omega)) hx];rfl
theorem cget_put (ts:List Int) (vs:List Nat) (h0:vs≠[]) (hl:ts.length=vs.length) (hv:vs.length≤120) (ht:∀ x∈ts,I6 x) (hx:∀ x∈vs,x < 18446744073709551616) :
  cget (pk (cbits ts vs))=.ok (ts,vs):=by
 have h1:=tagOf_in vs;have hpos:vs.length≠0:=by simpa using h0
 rw [cbits_pk ts vs hv];unfold cget;dsimp only;rw [if_neg (by omega),if_neg (by omega),show vs.length - 1+1=vs.length by omega,up_pk,List.append_assoc,← hl,tget_put ts _ ht,hl];dsimp only;rw [vget_put _ vs _ h0 (tagOf_dict vs) hx h1];dsimp only;rw [endE_pad _ (by omega),if_neg (by simp),if_neg (by simp)]
end
section
open Go Go.RowKit Go.Sort
structure Kv (bl:Nat) (w w':World):Prop where
 size:w.heap.size≤w'.heap.size
 at_:w'.heap[bl]? = w.heap[bl]?
 glo:∀ k,k < 3→w'.heap[k]? = w.heap[k]?
theorem Kv.trans {bl:Nat} {a b c:World} (h:Kv bl a b) (k:Kv bl b c):Kv bl a c:=⟨Nat.le_trans h.size k.size,k.at_.trans h.at_,fun i hi=>(k.glo i hi).trans (h.glo i hi)⟩
theorem Kv.kp {bl g g':Nat} {w w':World} (hk:Kp g g' w w') (hb:bl < w.heap.size) (h1:bl≠g) (h2:bl≠g') (e1:3≤g) (e2:3≤g') (hs:3≤w.heap.size):Kv bl w w' :=
 ⟨hk.size,hk.block bl hb h1 h2,fun i hi=>hk.block _ (by omega) (by omega) (by omega)⟩
theorem Gl.kv {bl:Nat} {w w':World} (h:Gl w) (hk:Kv bl w w'):Gl w' where
 forms k v e:=(World.cell?_of_block (hk.glo _ (by simp only;omega))).trans (h.forms k v e)
 tab k v e:=(World.cell?_of_block (hk.glo _ (by simp only;omega))).trans (h.tab k v e)
 crc k v e:=(World.cell?_of_block (hk.glo _ (by simp only;omega))).trans (h.crc k v e)
 lt:=Nat.le_trans h.lt hk.size
theorem Rd.kv {b bl:Nat} {w w':World} {A:Option Addr} {xs:List Value} (h:Rd w b A xs) (hk:Kv bl w w') (e:b=bl):Rd w' b A xs:=by
 subst e;rcases h with rfl | ⟨o,e,hlt,hc⟩
 ·exact .inl rfl
 ·exact .inr ⟨o,e,Nat.lt_of_lt_of_le hlt hk.size,fun j u hu=>(World.cell?_of_block hk.at_).trans (hc j u hu)⟩
structure Sink (fo:Nat) (lb:Array Value) (g bl:Nat) (I:List Bool→World→Prop):Prop where
 call:∀ (W:World) (bs:List Bool) (x n:Nat),I bs W→x < 18446744073709551616→n≤64→bs.length≤1000000 →
  Calls Tryz.prog fo (#[.int .u64 (x:Int),.int .i64 (n:Int)]++lb) W fun e W'=>e=.returned (.tuple #[])∧I (bs++bitsOf x n) W'∧W'.heap[g]? = W.heap[g]?∧Kv bl W W'
 keep:∀ (W W':World) (bs:List Bool),I bs W→Kp g g W W'→I bs W'
 enters:∀ args w,(callFunc fo args).run Tryz.prog w=.ok (.enter fo args) w
def EncB (W:World) (g last:Nat) (win:Win) (fo:Nat) (lb:Array Value):Prop :=
 ∃ a n:Int,winOf win=winV a n∧W.heap[g]? = some (.cells #[.int .u64 (last:Int),.int .i64 a,.int .i64 n,.func (.func fo) #[] lb] 416 (0,0))
theorem EncB.same {W W':World} {g last fo:Nat} {win:Win} {lb:Array Value} (h:EncB W g last win fo lb) (e:W'.heap[g]? = W.heap[g]?):EncB W' g last win fo lb:=by
 obtain ⟨a,n,h1,h2⟩:=h;exact ⟨a,n,h1,e.trans h2⟩
theorem EncB.lt {W:World} {g last fo:Nat} {win:Win} {lb:Array Value} (h:EncB W g last win fo lb):g < W.heap.size:=by
 obtain ⟨a,n,h1,h2⟩:=h;exact lt_of_block h2
theorem trail_win (w:World) (a b:Nat) (h:a+b≤63):Calls Tryz.prog 316 #[winV a ((64 - a - b:Nat):Int)] w fun e w'=>e=.returned (.int .i64 (b:Int))∧Gr w w':=by
 have h1:=trail_any w a (64 - a - b) (by omega)
 rwa [show 64 - a - (64 - a - b)=b from by omega] at h1
def PutV (fo:Nat) (lb:Array Value) (g bl:Nat) (I:List Bool→World→Prop) (w:World) (bs:List Bool) (v last:Nat) (win:Win) (e:Ending) (w':World):Prop :=
 e=.returned (.tuple #[])∧I (bs++(xstep last win v).1) w'∧EncB w' g v (xstep last win v).2 fo lb∧Kv bl w w'
theorem put_zero (fo:Nat) (lb:Array Value) (g bl:Nat) (I:List Bool→World→Prop) (S:Sink fo lb g bl I) (w:World) (bs:List Bool) (v last:Nat) (win:Win) (hI:I bs w) (hE:EncB w g last win fo lb) (hb:bl < w.heap.size) (hbg:bl≠g) (hg:3≤g) (hs:3≤w.heap.size)
  (hv:v < 18446744073709551616) (hl:last < 18446744073709551616) (hlen:bs.length≤1000000) (hx:v ^^^ last=0) :
  Calls Tryz.prog 313 #[.pointer (some ⟨g,0,none⟩),.int .u64 (v:Int)] w (PutV fo lb g bl I w bs v last win):=by
 have hlt:=hE.lt;obtain ⟨a,n,hw,hbk⟩:=hE;have hxor:=u64_xor_nat v last hv hl;rw [hx] at hxor;have hc0:w.cell? ⟨g,0,none⟩=some (.int .u64 (last:Int)):=by simp [World.cell?,hbk]
 have hf0:w.frozen? ⟨g,0,none⟩=false:=by simp [World.frozen?,hbk]
 have hk1:Kp g g w (w.setCell ⟨g,0,none⟩ (.int .u64 (v:Int))):=(Kp.refl g g w).setCell' (.inl rfl) _;have hb1:(w.setCell ⟨g,0,none⟩ (.int .u64 (v:Int))).heap[g]? = some (.cells #[.int .u64 (v:Int),.int .i64 a,.int .i64 n,.func (.func fo) #[] lb] 416 (0,0)):=by simp [World.setCell,Array.getElem?_modify,hbk]
 have hc3:(w.setCell ⟨g,0,none⟩ (.int .u64 (v:Int))).cell? ⟨g,3,none⟩=some (.func (.func fo) #[] lb):=by simp [World.cell?,hb1]
 have H:=hid (S.call _ bs 0 1 (S.keep _ _ _ hI hk1) (by omega) (by omega) hlen);have eg:=S.enters;have HB:=hid hb1;have HK:=hid (Kv.kp hk1 hb hbg hbg hg hg hs);clear hI hbk hb1 hk1;generalize hw1:w.setCell ⟨g,0,none⟩ (.int .u64 (v:Int))=w1 at *;go_enter Tryz.func313,Tryz.ntmps313
 go_wp2_with (first | (go_at_fn fo;refine H.out.mono ?_;rintro e w2 ⟨rfl,hI2,hg2,hk2⟩))
 refine bodyPost_ret (results_none rfl _ _ _) rfl ?_;have hst:xstep last win v=([false],win):=by unfold xstep;rw [if_pos hx]
 refine ⟨rfl,by rw [hst];exact hI2,?_,HK.out.trans hk2⟩;rw [hst];exact ⟨a,n,hw,hg2.trans HB.out⟩
set_option maxRecDepth 100000 in
set_option maxHeartbeats 1000000 in
theorem put_fits (fo:Nat) (lb:Array Value) (g bl:Nat) (I:List Bool→World→Prop) (S:Sink fo lb g bl I) (w:World) (bs:List Bool) (v last a b:Nat) (hI:I bs w) (hE:EncB w g last (some (a,b)) fo lb) (hb:bl < w.heap.size) (hbg:bl≠g) (hg:3≤g) (hG:Gl w)
  (hv:v < 18446744073709551616) (hl:last < 18446744073709551616) (hlen:bs.length≤900000) (hab:a+b≤63) (hx:v ^^^ last≠0) (hf:fits (some (a,b)) (v ^^^ last)) :
  Calls Tryz.prog 313 #[.pointer (some ⟨g,0,none⟩),.int .u64 (v:Int)] w (PutV fo lb g bl I w bs v last (some (a,b))):=by
 have hs:=hG.lt;have hlt:=hE.lt;obtain ⟨a0,n0,hwv,hbk⟩:=hE;injection hwv with e;injection e with e;injection e with e1 e2;injection e2 with e2 _;injection e1 with _ e1;injection e2 with _ e2
 subst e1 e2;have hxor:=u64_xor_nat v last hv hl;have hst:Hid (xstep last (some (a,b)) v=([true,false]++bitsOf ((v ^^^ last) / 2 ^ b) (64 - a - b),some (a,b))):=hid (by unfold xstep xword;rw [if_neg hx];simp only [if_pos (show a≤lz (v ^^^ last)∧b≤tz (v ^^^ last) from hf)]);have hxl:=xor_lt64 hv hl;have hx0:(((v ^^^ last:Nat):Int) == 0)=false:=by rw [beq_eq_false_iff_ne];omega
 generalize v ^^^ last=x at *;have hc0:w.cell? ⟨g,0,none⟩=some (.int .u64 (last:Int)):=by simp [World.cell?,hbk]
 have hf0:w.frozen? ⟨g,0,none⟩=false:=by simp [World.frozen?,hbk]
 have hk1:Kp g g w (w.setCell ⟨g,0,none⟩ (.int .u64 (v:Int))):=(Kp.refl g g w).setCell' (.inl rfl) _;have hb1:(w.setCell ⟨g,0,none⟩ (.int .u64 (v:Int))).heap[g]? = some (.cells #[.int .u64 (v:Int),.int .i64 (a:Int),.int .i64 ((64 - a - b:Nat):Int),.func (.func fo) #[] lb] 416 (0,0)):=by simp [World.setCell,Array.getElem?_modify,hbk]
 have hI1:=S.keep _ _ _ hI hk1;have hv1:=Kv.kp hk1 hb hbg hbg hg hg hs;have hfit:Calls Tryz.prog 318 #[.pointer (some ⟨g,0,none⟩),.int .u64 (x:Int)] (w.setCell ⟨g,0,none⟩ (.int .u64 (v:Int))) fun e w'=>e=.returned (.bool true)∧Gr (w.setCell ⟨g,0,none⟩ (.int .u64 (v:Int))) w':=by
  have h:=fits_any _ g x (some (a,b)) (hG.kv hv1) hab hx hxl (lt_of_block hb1) ⟨_,_,rfl,by simp [World.cell?,hb1],by simp [World.cell?,hb1]⟩
  rwa [decide_eq_true hf] at h
 have hb1l:=lt_of_block hb1;have HF:=hid hfit;have HB:=hid hb1;have HG:=hid (hG.kv hv1);have HK:=hid hv1;have HI:=hid hI1;have hs1:bl < (w.setCell ⟨g,0,none⟩ (.int .u64 (v:Int))).heap.size:=Nat.lt_of_lt_of_le hb hk1.size;have hs2:3≤(w.setCell ⟨g,0,none⟩ (.int .u64 (v:Int))).heap.size:=Nat.le_trans hs hk1.size;have eg:=S.enters;clear hI hbk hb1 hk1 hfit hI1 hv1 hG hf hx;generalize hw1:w.setCell ⟨g,0,none⟩ (.int .u64 (v:Int))=w1 at *;have HC:=hid fun (W:World) (cu:List Bool) (y m:Nat) (h1:I cu W) (h2:y < 18446744073709551616) (h3:m≤64) (h4:cu.length≤1000000)=>S.call W cu y m h1 h2 h3 h4
 have HKeep:=hid fun (W W':World) (cu:List Bool) (h1:I cu W) (h2:Kp g g W W')=>S.keep W W' cu h1 h2
 clear S;go_enter Tryz.func313,Tryz.ntmps313
 go_wp2_with fail;refine HF.out.mono ?_;rintro e w2 ⟨rfl,hgr⟩;have hc3:=cell_old (v:=.func (.func fo) #[] lb) (a:=⟨g,3,none⟩) hgr.nw hb1l (by simp [World.cell?,HB.out]);go_wp2_with (first
  | (go_at_fn fo;refine (HC.out _ bs 2 2 (HKeep.out _ _ _ HI.out (hgr.nw.kp _ _)) (by omega) (by omega) (by omega)).mono ?_;rintro e w3 ⟨rfl,hI3,hg3,hk3⟩))
 have hn2:=hgr.nw;have hb3:=hg3.trans ((hn2.block g hb1l).trans HB.out);have hg3l:=lt_of_block hb3;have hd1:∀ p:Gp,(grow (w3.drewN p.n) p.os).cell? ⟨g,1,none⟩=some (.int .i64 (a:Int)):=cell_gr hg3l (by simp [World.cell?,hb3]);have hd2:∀ p:Gp,(grow (w3.drewN p.n) p.os).cell? ⟨g,2,none⟩=some (.int .i64 ((64 - a - b:Nat):Int)):=cell_gr hg3l (by simp [World.cell?,hb3]);have hd3:∀ p:Gp,(grow (w3.drewN p.n) p.os).cell? ⟨g,3,none⟩=some (.func (.func fo) #[] lb):=cell_gr hg3l (by simp [World.cell?,hb3]);have HQ:=hid (show ∀ W,I (bs++bitsOf 2 2) W→Calls Tryz.prog fo (#[.int .u64 ((x:Int) / 2 ^ b),.int .i64 ((64 - a - b:Nat):Int)]++lb) W fun e W'=>e=.returned (.tuple #[])∧I (bs++bitsOf 2 2++bitsOf (x / 2 ^ b) (64 - a - b)) W'∧W'.heap[g]? = W.heap[g]?∧Kv bl W W' from by
  intro W hW;have hxm:x / 2 ^ b≤x:=Nat.div_le_self _ _;have h:=HC.out W _ (x / 2 ^ b) (64 - a - b) hW (by omega) (by omega) (by rw [List.length_append,bitsOf_length];omega)
  rwa [show ((x / 2 ^ b:Nat):Int)=(x:Int) / 2 ^ b from by simp] at h)
 have HB3:=hid hb3;have HI3:=hid hI3;have HG3:=hid hk3;have HN2:=hid hn2;have HT:=hid fun W:World=>trail_win W a b hab
 clear hb3 hI3 hk3 hg3 hn2 hc3 hgr HF;refine wp_region_gr_tail 18 (by kernel_rfl) (by kernel_rfl) ?_;simp only [List.take_succ_cons,List.take_zero,List.drop_succ_cons,List.drop_zero]
 repeat (quiet_step (first | (go_at_call 316;refine Calls.gr (HT.out _))))
 refine wpQuiet_nil ?_;rintro _ ⟨p,rfl⟩;generalize hw4:grow (w3.drewN p.n) p.os=w4;have hn4:Nw w3 w4:=by rw [← hw4];exact Gr.nw ⟨p,rfl⟩
 clear hd1 hd2 hd3 hw4;go_wp2_with (first
  | (go_at_fn fo;refine (HQ.out _ (HKeep.out _ _ _ HI3.out (hn4.kp _ _))).mono ?_;rintro e w5 ⟨rfl,hI5,hg5,hk5⟩))
 go_end0
 have hs3:3≤w3.heap.size:=by
  have:=HG3.out.size;have:=HN2.out.size;omega
 have hkk:Kv bl w w4:=by
  have h1:=Kv.kp (HN2.out.kp g g) hs1 hbg hbg hg hg hs2;have h2:=(HK.out.trans h1).trans HG3.out;exact h2.trans (Kv.kp (hn4.kp g g) (Nat.lt_of_lt_of_le hb h2.size) hbg hbg hg hg hs3)
 refine ⟨rfl,?_,?_,hkk.trans hk5⟩
 ·rw [hst.out];rw [List.append_assoc] at hI5;exact hI5
 ·rw [hst.out];exact ⟨_,_,rfl,hg5.trans ((hn4.block g hg3l).trans HB3.out)⟩
theorem xstep_new {last v:Nat} {win:Win} (hx:v ^^^ last≠0) (hf:¬ fits win (v ^^^ last)) :
  xstep last win v=([true,true]++bitsOf (lz (v ^^^ last)) 6++bitsOf (63 - lz (v ^^^ last) - tz (v ^^^ last)) 6++bitsOf ((v ^^^ last) / 2 ^ tz (v ^^^ last)) (64 - lz (v ^^^ last) - tz (v ^^^ last)),some (lz (v ^^^ last),tz (v ^^^ last))):=by
 unfold xstep xword;rw [if_neg hx];cases win with
 | none=>rfl
 | some ab=>simp only [if_neg (show ¬ (ab.1≤lz (v ^^^ last)∧ab.2≤tz (v ^^^ last)) from hf)]
set_option maxRecDepth 100000 in
set_option maxHeartbeats 4000000 in
theorem put_new (fo:Nat) (lb:Array Value) (g bl:Nat) (I:List Bool→World→Prop) (S:Sink fo lb g bl I) (w:World) (bs:List Bool) (v last:Nat) (win:Win) (hI:I bs w) (hE:EncB w g last win fo lb) (hb:bl < w.heap.size) (hbg:bl≠g) (hg:3≤g) (hG:Gl w)
  (hv:v < 18446744073709551616) (hl:last < 18446744073709551616) (hlen:bs.length≤900000) (hw:WinOk win) (hx:v ^^^ last≠0) (hf:¬ fits win (v ^^^ last)) :
  Calls Tryz.prog 313 #[.pointer (some ⟨g,0,none⟩),.int .u64 (v:Int)] w (PutV fo lb g bl I w bs v last win):=by
 have hs:=hG.lt;have hlt:=hE.lt;obtain ⟨a0,n0,hwv,hbk⟩:=hE;have hxor:=u64_xor_nat v last hv hl;have hst:=hid (xstep_new hx hf);have hxl:=xor_lt64 hv hl;have hx0:(((v ^^^ last:Nat):Int) == 0)=false:=by rw [beq_eq_false_iff_ne];omega
 generalize v ^^^ last=x at *;have hc0:w.cell? ⟨g,0,none⟩=some (.int .u64 (last:Int)):=by simp [World.cell?,hbk]
 have hf0:w.frozen? ⟨g,0,none⟩=false:=by simp [World.frozen?,hbk]
 have hk1:Kp g g w (w.setCell ⟨g,0,none⟩ (.int .u64 (v:Int))):=(Kp.refl g g w).setCell' (.inl rfl) _;have hb1:(w.setCell ⟨g,0,none⟩ (.int .u64 (v:Int))).heap[g]? = some (.cells #[.int .u64 (v:Int),.int .i64 a0,.int .i64 n0,.func (.func fo) #[] lb] 416 (0,0)):=by simp [World.setCell,Array.getElem?_modify,hbk]
 have hI1:=S.keep _ _ _ hI hk1;have hv1:=Kv.kp hk1 hb hbg hbg hg hg hs;have hfit:Calls Tryz.prog 318 #[.pointer (some ⟨g,0,none⟩),.int .u64 (x:Int)] (w.setCell ⟨g,0,none⟩ (.int .u64 (v:Int))) fun e w'=>e=.returned (.bool false)∧Gr (w.setCell ⟨g,0,none⟩ (.int .u64 (v:Int))) w':=by
  have h:=fits_any _ g x win (hG.kv hv1) hw hx hxl (lt_of_block hb1) ⟨_,_,hwv,by simp [World.cell?,hb1],by simp [World.cell?,hb1]⟩
  rwa [decide_eq_false hf] at h
 have hab:=lz_tz hx hxl;have hb1l:=lt_of_block hb1;have HW:=hid fun (W:World) (hN:Nw (w.setCell ⟨g,0,none⟩ (.int .u64 (v:Int))) W)=>windowOf_any W x ((hG.kv hv1).nw hN) hx hxl
 have HF:=hid hfit;have HB:=hid hb1;have HK:=hid hv1;have HI:=hid hI1;have hs1:bl < (w.setCell ⟨g,0,none⟩ (.int .u64 (v:Int))).heap.size:=Nat.lt_of_lt_of_le hb hk1.size;have hs2:3≤(w.setCell ⟨g,0,none⟩ (.int .u64 (v:Int))).heap.size:=Nat.le_trans hs hk1.size;have eg:=S.enters;clear hI hbk hb1 hk1 hfit hI1 hv1 hG hf hx hwv hw;generalize hw1:w.setCell ⟨g,0,none⟩ (.int .u64 (v:Int))=w1 at *;generalize lz x=a at *;generalize tz x=b at *;obtain ⟨n,hn⟩:∃ n,n=64 - a - b:=⟨_,rfl⟩;rw [← hn] at HW hst;have hn1:n+a+b=64:=by omega
 clear hn;have HC:=hid fun (W:World) (cu:List Bool) (y m:Nat) (h1:I cu W) (h2:y < 18446744073709551616) (h3:m≤64) (h4:cu.length≤1000000)=>S.call W cu y m h1 h2 h3 h4
 have HKeep:=hid fun (W W':World) (cu:List Bool) (h1:I cu W) (h2:Kp g g W W')=>S.keep W W' cu h1 h2
 clear S;go_enter Tryz.func313,Tryz.ntmps313
 go_wp2_with fail;refine HF.out.mono ?_;rintro e w2 ⟨rfl,hgr⟩;go_wp2_with fail;refine (HW.out _ hgr.nw).mono ?_;rintro e w3 ⟨rfl,hgr3⟩;have hn3:=hgr.nw.trans hgr3.nw;have hb3:=(hn3.block g hb1l).trans HB.out;have hc3:w3.cell? ⟨g,3,none⟩=some (.func (.func fo) #[] lb):=by simp [World.cell?,hb3]
 have hf3:w3.frozen? ⟨g,1,none⟩=false:=by simp [World.frozen?,hb3]
 have hf3':w3.frozen? ⟨g,2,none⟩=false:=by simp [World.frozen?,hb3]
 have hc31:w3.cell? ⟨g,1,none⟩=some (.int .i64 a0):=by simp [World.cell?,hb3]
 have hc32:w3.cell? ⟨g,2,none⟩=some (.int .i64 n0):=by simp [World.cell?,hb3]
 have hk3:Kp g g w1 ((w3.setCell ⟨g,1,none⟩ (.int .i64 (a:Int))).setCell ⟨g,2,none⟩ (.int .i64 (n:Int))):=((hn3.kp g g).setCell' (.inl rfl) _).setCell' (.inl rfl) _;have HI4:=hid (HKeep.out _ _ _ HI.out hk3);have HK4:=hid (Kv.kp hk3 hs1 hbg hbg hg hg hs2);have HB4:Hid (((w3.setCell ⟨g,1,none⟩ (.int .i64 (a:Int))).setCell ⟨g,2,none⟩ (.int .i64 (n:Int))).heap[g]? = some (.cells #[.int .u64 (v:Int),.int .i64 (a:Int),.int .i64 (n:Int),.func (.func fo) #[] lb] 416 (0,0))):=hid (by simp [World.setCell,Array.getElem?_modify,hb3]);clear hb3 hk3;go_wp2_with (first
  | (go_at_fn fo;refine (HC.out _ bs 3 2 HI4.out (by omega) (by omega) (by omega)).mono ?_;rintro e w5 ⟨rfl,hI5,hg5,hk5⟩))
 have hb5:=hg5.trans HB4.out;have hg5l:=lt_of_block hb5;have hd0:∀ p:Gp,(grow (w5.drewN p.n) p.os).cell? ⟨g,1,none⟩=some (.int .i64 (a:Int)):=cell_gr hg5l (by simp [World.cell?,hb5]);have hd3:∀ p:Gp,(grow (w5.drewN p.n) p.os).cell? ⟨g,3,none⟩=some (.func (.func fo) #[] lb):=cell_gr hg5l (by simp [World.cell?,hb5]);have HB5:=hid hb5;have HI5:=hid hI5;have HK5:=hid hk5;clear hb5 hI5 hk5 hg5 hc3 hf3 hf3' hc31 hc32 hgr hgr3 HF HW;refine wp_region_gr_tail 11 (by kernel_rfl) (by kernel_rfl) ?_;simp only [List.take_succ_cons,List.take_zero,List.drop_succ_cons,List.drop_zero]
 repeat (quiet_step (fail))
 refine wpQuiet_nil ?_;rintro _ ⟨p,rfl⟩;generalize hw6:grow (w5.drewN p.n) p.os=w6;have hn6:Nw w5 w6:=by rw [← hw6];exact Gr.nw ⟨p,rfl⟩
 clear hd0 hd3 hw6;go_wp2_with (first
  | (go_at_fn fo;refine (HC.out _ _ a 6 (HKeep.out _ _ _ HI5.out (hn6.kp _ _)) (by omega) (by omega) (by rw [List.length_append,bitsOf_length];omega)).mono ?_;rintro e w7 ⟨rfl,hI7,hg7,hk7⟩))
 have hb7:=hg7.trans ((hn6.block g hg5l).trans HB5.out);have hg7l:=lt_of_block hb7;have hd0:∀ p:Gp,(grow (w7.drewN p.n) p.os).cell? ⟨g,2,none⟩=some (.int .i64 (n:Int)):=cell_gr hg7l (by simp [World.cell?,hb7]);have hd3:∀ p:Gp,(grow (w7.drewN p.n) p.os).cell? ⟨g,3,none⟩=some (.func (.func fo) #[] lb):=cell_gr hg7l (by simp [World.cell?,hb7]);have HB7:=hid hb7;have HI7:=hid hI7;have HK7:=hid hk7;clear hb7 hI7 hk7 hg7;refine wp_region_gr_tail 12 (by kernel_rfl) (by kernel_rfl) ?_;simp only [List.take_succ_cons,List.take_zero,List.drop_succ_cons,List.drop_zero]
 repeat (quiet_step (fail))
 refine wpQuiet_nil ?_;rintro _ ⟨p,rfl⟩;generalize hw8:grow (w7.drewN p.n) p.os=w8;have hn8:Nw w7 w8:=by rw [← hw8];exact Gr.nw ⟨p,rfl⟩
 clear hd0 hd3 hw8;have HQ8:=hid (show ∀ W cu,I cu W→cu.length≤1000000→Calls Tryz.prog fo (#[.int .u64 ((n:Int) - 1),.int .i64 6]++lb) W fun e W'=>e=.returned (.tuple #[])∧I (cu++bitsOf (n - 1) 6) W'∧W'.heap[g]? = W.heap[g]?∧Kv bl W W' from by
  intro W cu hW hcu;have h:=HC.out W _ (n - 1) 6 hW (by omega) (by omega) hcu
  rwa [show ((n - 1:Nat):Int)=(n:Int) - 1 from by omega] at h)
 go_wp2_with (first
  | (go_at_fn fo;refine (HQ8.out _ _ (HKeep.out _ _ _ HI7.out (hn8.kp _ _)) (by rw [List.length_append,List.length_append,bitsOf_length,bitsOf_length];omega)).mono ?_;rintro e w9 ⟨rfl,hI9,hg9,hk9⟩))
 have hb9:=hg9.trans ((hn8.block g hg7l).trans HB7.out);have hg9l:=lt_of_block hb9;have hd1:∀ p:Gp,(grow (w9.drewN p.n) p.os).cell? ⟨g,1,none⟩=some (.int .i64 (a:Int)):=cell_gr hg9l (by simp [World.cell?,hb9]);have hd2:∀ p:Gp,(grow (w9.drewN p.n) p.os).cell? ⟨g,2,none⟩=some (.int .i64 (n:Int)):=cell_gr hg9l (by simp [World.cell?,hb9]);have hd3:∀ p:Gp,(grow (w9.drewN p.n) p.os).cell? ⟨g,3,none⟩=some (.func (.func fo) #[] lb):=cell_gr hg9l (by simp [World.cell?,hb9]);have HB9:=hid hb9;have HI9:=hid hI9;have HK9:=hid hk9;have HT:=hid (show ∀ W:World,Calls Tryz.prog 316 #[winV a (n:Int)] W fun e w'=>e=.returned (.int .i64 (b:Int))∧Gr W w' from by
  intro W;have h:=trail_any W a n (by omega)
  rwa [show 64 - a - n=b from by omega] at h)
 have HQ:=hid (show ∀ W cu,I cu W→cu.length≤1000000→Calls Tryz.prog fo (#[.int .u64 ((x:Int) / 2 ^ b),.int .i64 (n:Int)]++lb) W fun e W'=>e=.returned (.tuple #[])∧I (cu++bitsOf (x / 2 ^ b) n) W'∧W'.heap[g]? = W.heap[g]?∧Kv bl W W' from by
  intro W cu hW hcu;have hxm:x / 2 ^ b≤x:=Nat.div_le_self _ _;have h:=HC.out W _ (x / 2 ^ b) n hW (by omega) (by omega) hcu
  rwa [show ((x / 2 ^ b:Nat):Int)=(x:Int) / 2 ^ b from by simp] at h)
 clear hb9 hI9 hk9 hg9;refine wp_region_gr_tail 18 (by kernel_rfl) (by kernel_rfl) ?_;simp only [List.take_succ_cons,List.take_zero,List.drop_succ_cons,List.drop_zero]
 repeat (quiet_step (first | (go_at_call 316;refine Calls.gr (HT.out _))))
 refine wpQuiet_nil ?_;rintro _ ⟨p,rfl⟩;generalize hw10:grow (w9.drewN p.n) p.os=w10;have hn10:Nw w9 w10:=by rw [← hw10];exact Gr.nw ⟨p,rfl⟩
 clear hd1 hd2 hd3 hw10;go_wp2_with (first
  | (go_at_fn fo;refine (HQ.out _ _ (HKeep.out _ _ _ HI9.out (hn10.kp _ _)) (by rw [List.length_append,List.length_append,List.length_append,bitsOf_length,bitsOf_length,bitsOf_length];omega)).mono ?_;rintro e w11 ⟨rfl,hI11,hg11,hk11⟩))
 go_end0
 have k4:=HK.out.trans HK4.out;have st:∀ {A B:World},Kv bl w A→Nw A B→Kv bl w B:=by
  intro A B h1 h2;exact h1.trans (Kv.kp (h2.kp g g) (Nat.lt_of_lt_of_le hb h1.size) hbg hbg hg hg (Nat.le_trans hs h1.size))
 have k11:=(st ((st ((st (k4.trans HK5.out) hn6).trans HK7.out) hn8).trans HK9.out) hn10).trans hk11;refine ⟨rfl,?_,?_,k11⟩
 ·rw [hst.out];rw [show 63 - a - b=n - 1 from by omega];simp only [List.append_assoc] at hI11 ⊢;exact hI11
 ·rw [hst.out];refine ⟨_,_,rfl,?_⟩;rw [show 64 - a - b=n from by omega];exact hg11.trans ((hn10.block g hg9l).trans HB9.out)
end
section
open Go Go.RowKit Go.Sort
theorem xword_len (win:Win) (x:Nat):(xword win x).1.length≤78:=by
 unfold xword;split
 ·split<;>simp [bitsOf_length]<;>omega
 ·simp [bitsOf_length];omega
theorem xstep_len (last:Nat) (win:Win) (v:Nat):(xstep last win v).1.length≤78:=by
 unfold xstep;split
 ·simp
 ·exact xword_len _ _
theorem xstep_win {last v:Nat} {win:Win} (hw:WinOk win) (hl:last < 18446744073709551616) (hv:v < 18446744073709551616):WinOk (xstep last win v).2:=by
 unfold xstep;split
 ·exact hw
 ·rename_i h0
  have:=lz_tz h0 (xor_lt64 hv hl);unfold xword;split
  ·split
   ·exact hw
   ·exact this
  ·exact this
theorem put_any (fo:Nat) (lb:Array Value) (g bl:Nat) (I:List Bool→World→Prop) (S:Sink fo lb g bl I) (w:World) (bs:List Bool) (v last:Nat) (win:Win) (hI:I bs w) (hE:EncB w g last win fo lb) (hb:bl < w.heap.size) (hbg:bl≠g) (hg:3≤g) (hG:Gl w)
  (hv:v < 18446744073709551616) (hl:last < 18446744073709551616) (hlen:bs.length≤900000) (hw:WinOk win) :
  Calls Tryz.prog 313 #[.pointer (some ⟨g,0,none⟩),.int .u64 (v:Int)] w (PutV fo lb g bl I w bs v last win):=by
 by_cases hx:v ^^^ last=0
 ·exact put_zero fo lb g bl I S w bs v last win hI hE hb hbg hg hG.lt hv hl (by omega) hx
 ·by_cases hf:fits win (v ^^^ last)
  ·cases win with
   | none=>exact hf.elim
   | some ab=>exact put_fits fo lb g bl I S w bs v last ab.1 ab.2 hI hE hb hbg hg hG hv hl hlen hw hx hf
  ·exact put_new fo lb g bl I S w bs v last win hI hE hb hbg hg hG hv hl hlen hw hx hf
theorem encode_any (w:World) (fo:Nat) (lb:Array Value) (bl:Nat) (I:List Bool→World→Prop) (A:Option Addr) (n c:Nat) (l:List Nat) (hn:n=l.length) (hm:n≤10000) (hr:Rd w bl A (cN .u64 l)) (hbl:bl < w.heap.size)
  (hx:∀ x∈l,x < 18446744073709551616) (hG:Gl w) (S:Sink fo lb w.heap.size bl I) (hI:∀ W,Nw w W→w.heap.size < W.heap.size→I [] W) :
  Calls Tryz.prog 275 #[.slice A n c,.func (.func fo) #[] lb] w fun e w'=>e=.returned (.tuple #[])∧I (xput l) w':=by
 subst hn;have hs:=hG.lt;have HX:=hid hx;have HS:=hid S;have eg:=S.enters;have hw1:Nw w (w.alloc (.cells #[.int .u64 0,.int .i64 0,.int .i64 0,.func (.func fo) #[] lb] 416)):=(Nw.refl w).alloc' _;have hE1:EncB (w.alloc (.cells #[.int .u64 0,.int .i64 0,.int .i64 0,.func (.func fo) #[] lb] 416)) w.heap.size 0 none fo lb:=⟨0,0,rfl,heap_alloc_new w _⟩;have HI1:=hid (hI _ hw1 (by simp));have HK1:=hid (Kv.kp (hw1.kp w.heap.size w.heap.size) hbl (by omega) (by omega) hs hs hs);have HE1:=hid hE1;clear S hI hx hw1 hE1;go_enter Tryz.func275,Tryz.ntmps275
 go_wp2;go_loopw [12] (fun i wr=>∃ k:Nat,k≤l.length∧i=.int .i64 k∧Kv bl w wr∧∃ (cu:List Bool) (last:Nat) (win:Win),I cu wr∧EncB wr w.heap.size last win fo lb∧cu.length≤78*k∧last < 18446744073709551616∧WinOk win ∧
  ((k=0∧cu=[]∧win=none)∨(1≤k∧cu++xputF last win (l.drop k)=xput l))) (fun i _=>l.length - (intOf i).toNat)
 case atStart=>exact ⟨0,by omega,rfl,HK1.out,[],0,none,HI1.out,HE1.out,by simp,by omega,trivial,.inl ⟨rfl,rfl,rfl⟩⟩
 case round =>
  obtain ⟨k,hk,rfl,hkv,cu,last,win,hI,hE,hlen,hll,hwin,hcu⟩:=hrel;by_cases hlt:k < l.length
  ·obtain ⟨o,rfl,_,hc⟩:=(hr.kv hkv rfl).get (k:=k) (by simpa using hlt);rw [List.getElem_map] at hc;have hv:l[k] < 18446744073709551616:=HX.out _ (List.getElem_mem _);have hdrop:l.drop k=l[k]::l.drop (k+1):=List.drop_eq_getElem_cons hlt;have HD:=hid hdrop;have hbr:bl < wr.heap.size:=Nat.lt_of_lt_of_le hbl hkv.size;generalize hvv:l[k]=v at *;clear hdrop;rcases hcu with ⟨rfl,rfl,rfl⟩ | ⟨hk1,hcu⟩
   ·have HC:=hid (HS.out.call wr [] v 64 hI hv (by omega) (by simp));have HE:=hid hE;have HKV:=hid hkv;clear hI hE hkv;simp only [Nat.add_zero] at hc;go_wp2_with fail;refine HC.out.mono ?_;rintro e w2 ⟨rfl,hI2,hg2,hk2⟩;obtain ⟨a0,n0,hw0,hb2⟩:=HE.out.same hg2;have hc2:w2.cell? ⟨w.heap.size,0,none⟩=some (.int .u64 (last:Int)):=by simp [World.cell?,hb2]
    have hf2:w2.frozen? ⟨w.heap.size,0,none⟩=false:=by simp [World.frozen?,hb2]
    go_wp2;go_roundw
    case rel =>
     have hb3:(w2.setCell ⟨w.heap.size,0,none⟩ (.int .u64 (v:Int))).heap[w.heap.size]? = some (.cells #[.int .u64 (v:Int),.int .i64 a0,.int .i64 n0,.func (.func fo) #[] lb] 416 (0,0)):=by simp [World.setCell,Array.getElem?_modify,hb2]
     have hkp:Kp w.heap.size w.heap.size w2 (w2.setCell ⟨w.heap.size,0,none⟩ (.int .u64 (v:Int))):=(Kp.refl _ _ _).setCell' (p:=⟨w.heap.size,0,none⟩) (.inl rfl) _;refine ⟨1,by omega,by simp,(HKV.out.trans hk2).trans (Kv.kp hkp (Nat.lt_of_lt_of_le hbr hk2.size) (by omega) (by omega) hs hs (Nat.le_trans hs (HKV.out.trans hk2).size)),_,v,none,HS.out.keep _ _ _ hI2 hkp,⟨a0,n0,hw0,hb3⟩,by simp [bitsOf_length],hv,trivial,.inr ⟨by omega,?_⟩⟩;have hd:=HD.out;simp only [List.drop_zero,Nat.zero_add] at hd
     conv=>rhs;rw [hd]
     rfl
    case measure=>simp [intOf];omega
   ·have HC:=hid (put_any fo lb w.heap.size bl I HS.out wr cu v last win hI hE hbr (by omega) hs (hG.kv hkv) hv hll (by omega) hwin);have HCU:=hid hcu;have HKV:=hid hkv;have hk0:(0:Int) < (k:Int):=by omega
    clear hI hE hkv hcu;go_wp2_with (first | (go_at_call 313;refine HC.out.mono ?_;rintro e w2 ⟨rfl,hI2,hE2,hk2⟩))
    go_roundw
    case rel =>
     refine ⟨k+1,by omega,by go_num,HKV.out.trans hk2,_,_,_,hI2,hE2,?_,hv,xstep_win hwin hll hv,.inr ⟨by omega,?_⟩⟩
     ·rw [List.length_append];have:=xstep_len last win v;omega
     ·rw [List.append_assoc,← HCU.out,HD.out];rfl
    case measure=>simp [intOf];omega
  ·go_wp2;go_end0
   obtain rfl:k=l.length:=by omega
   refine ⟨rfl,?_⟩;rcases hcu with ⟨h0,rfl,rfl⟩ | ⟨_,hcu⟩
   ·rw [List.eq_nil_of_length_eq_zero h0];exact hI
   ·rw [List.drop_length] at hcu;rw [← hcu];simpa [xputF] using hI
def SizeI (w:World) (B g:Nat) (cu:List Bool) (W:World):Prop :=
 W.cell? ⟨B,0,none⟩=some (.int .i64 (cu.length:Int))∧W.frozen? ⟨B,0,none⟩=false∧B < W.heap.size∧Nw w W∧g < W.heap.size
theorem sizeSink (w:World) (B g bl:Nat) (hB:w.heap.size≤B) (hg:w.heap.size≤g) (hBg:B≠g) (hbl:bl < w.heap.size) (hs:3≤w.heap.size) :
  Sink 276 #[.pointer (some ⟨B,0,none⟩)] g bl (SizeI w B g) where
 call:=by
  intro W bs x n hI hx hn hlen;obtain ⟨h1,h2,h3,h4,h5⟩:=hI;have HK:=hid (show Kp B B W (W.setCell ⟨B,0,none⟩ (.int .i64 ((bs.length:Int)+(n:Int)))) from (Kp.refl _ _ _).setCell' (p:=⟨B,0,none⟩) (.inl rfl) _);show Calls Tryz.prog _ #[.int .u64 (x:Int),.int .i64 (n:Int),.pointer (some ⟨B,0,none⟩)] W _
  go_enter Tryz.func276,Tryz.ntmps276
  go_wp2;go_end0
  have hk:=HK.out;have hsz:=h4.size;refine ⟨rfl,⟨?_,?_,by have:=hk.size;omega,h4.setCell' (by exact hB) _,by have:=hk.size;omega⟩,hk.block g h5 (Ne.symm hBg) (Ne.symm hBg),Kv.kp hk (by omega) (by omega) (by omega) (by omega) (by omega) (by omega)⟩
  ·rw [World.cell?_setCell_same' _ _ _ (by rw [h1];rfl),List.length_append,bitsOf_length];simp
  ·rw [World.frozen?_setCell];exact h2
 keep:=by
  intro W W' bs hI hk;obtain ⟨h1,h2,h3,h4,h5⟩:=hI;have hb:=hk.block B h3 hBg hBg;exact ⟨(World.cell?_of_block hb).trans h1,(by rw [← h2];unfold World.frozen?;rw [hb]),Nat.lt_of_lt_of_le h3 hk.size,Kp.nw h4 hk hg hg,Nat.lt_of_lt_of_le h5 hk.size⟩
 enters:=enters_of Tryz.func276 (by kernel_rfl) rfl
theorem xSize_any (w:World) (bl:Nat) (A:Option Addr) (n c:Nat) (l:List Nat) (hn:n=l.length) (hm:n≤10000) (hr:Rd w bl A (cN .u64 l)) (hbl:bl < w.heap.size) (hx:∀ x∈l,x < 18446744073709551616) (hG:Gl w) :
  Calls Tryz.prog 214 #[.slice A n c] w fun e w'=>e=.returned (.int .i64 ((xput l).length:Int))∧Nw w w':=by
 have hs:=hG.lt;have hw1:Nw w (w.alloc (.cells #[.int .i64 0] 3)):=(Nw.refl w).alloc' _;have HE:=hid (encode_any _ 276 #[.pointer (some ⟨w.heap.size,0,none⟩)] bl (SizeI w w.heap.size (w.heap.size+1)) A n c l hn hm (hr.nw hw1) (by simp;omega) hx (hG.nw hw1)
  (by have h:=sizeSink w w.heap.size (w.heap.size+1) bl (Nat.le_refl _) (by omega) (by omega) hbl hs;rwa [show (w.alloc (.cells #[.int .i64 0] 3)).heap.size=w.heap.size+1 from by simp])
  (by
   intro W hW hlt;have hb:W.heap[w.heap.size]? = some (.cells #[.int .i64 0] 3):=(hW.block _ (by simp)).trans (heap_alloc_new w _);refine ⟨by simp [World.cell?,hb],by simp [World.frozen?,hb],by have:=lt_of_block hb;omega,hw1.trans hW,by simpa using hlt⟩))
 clear hr hx hG hn hm;go_enter Tryz.func214,Tryz.ntmps214
 go_wp2_with (first | (go_at_call 275;refine HE.out.mono ?_;rintro e w2 ⟨rfl,h1,h2,h3,h4,h5⟩))
 go_ret;exact ⟨rfl,h4⟩
def PutI (w:World) (gw b0 B g:Nat) (bs:List Bool) (cu:List Bool) (W:World):Prop :=
 W.heap[B]? = some (.cells #[.pointer (some ⟨gw,0,none⟩)] 273 (0,0))∧(∃ b',Wtr W gw b' (bs++cu)∧(b'=b0∨(w.heap.size≤b'∧b'≠g∧b'≠B)))∧Kp gw b0 w W∧g < W.heap.size∧B < W.heap.size
theorem putSink (w:World) (gw b0 B g bl:Nat) (bs:List Bool) (hbs:bs.length≤1000000000) (hB:w.heap.size≤B) (hg:w.heap.size≤g) (hBg:B≠g) (hbl:bl < w.heap.size) (hgw:gw < w.heap.size) (hb0:b0 < w.heap.size) (h1:bl≠gw) (h2:bl≠b0) (e1:3≤gw) (e2:3≤b0) :
  Sink 277 #[.pointer (some ⟨B,0,none⟩)] g bl (PutI w gw b0 B g bs) where
 call:=by
  intro W cu x n hI hx hn hlen;obtain ⟨hc,⟨b',hW,hb'⟩,hk,hgW,hBW⟩:=hI;have HW:=hid (WBits_any W gw b' (bs++cu) x n hW hn hx (by rw [List.length_append];omega));have hcell:W.cell? ⟨B,0,none⟩=some (.pointer (some ⟨gw,0,none⟩)):=by simp [World.cell?,hc]
  have hwl:=hW.lt;show Calls Tryz.prog _ #[.int .u64 (x:Int),.int .i64 (n:Int),.pointer (some ⟨B,0,none⟩)] W _
  go_enter Tryz.func277,Tryz.ntmps277
  go_wp2_with (first | (go_at_call 177;refine HW.out.mono ?_;rintro e w2 ⟨rfl,b2,hW2,hb2,hk2⟩))
  go_end0
  have hsz:=hk.size;have n1:B≠gw:=by omega
  have n2:g≠gw:=by omega
  have n3:B≠b':=by rcases hb' with h | h<;>omega
  have n4:g≠b':=by rcases hb' with h | h<;>omega
  have n5:bl≠b':=by rcases hb' with h | h<;>omega
  have n6:3≤b':=by rcases hb' with h | h<;>omega
  refine ⟨rfl,⟨(hk2.block B hBW n1 n3).trans hc,⟨b2,by rw [← List.append_assoc];exact hW2,?_⟩,hk.trans hk2 (.inl rfl) ?_,Nat.lt_of_lt_of_le hgW hk2.size,Nat.lt_of_lt_of_le hBW hk2.size⟩,hk2.block g hgW n2 n4,Kv.kp hk2 (by omega) h1 n5 e1 n6 (by omega)⟩
  ·rcases hb2 with rfl | hb2
   ·exact hb'
   ·right;omega
  ·rcases hb' with h | h
   ·exact .inr (.inl h)
   ·exact .inr (.inr h.1)
 keep:=by
  intro W W' cu hI hk;obtain ⟨hc,⟨b',hW,hb'⟩,hk0,hgW,hBW⟩:=hI;refine ⟨(hk.block B hBW hBg hBg).trans hc,⟨b',hW.kp hk (by omega) (by omega) ?_ ?_,hb'⟩,hk0.trans hk (.inr (.inr hg)) (.inr (.inr hg)),Nat.lt_of_lt_of_le hgW hk.size,Nat.lt_of_lt_of_le hBW hk.size⟩
  ·rcases hb' with h | h<;>omega
  ·rcases hb' with h | h<;>omega
 enters:=enters_of Tryz.func277 (by kernel_rfl) rfl
theorem xPut_any (w:World) (gw b0 bl:Nat) (A:Option Addr) (n c:Nat) (bs:List Bool) (l:List Nat) (hW:Wtr w gw b0 bs) (hbs:bs.length≤1000000000) (hn:n=l.length) (hm:n≤10000) (hr:Rd w bl A (cN .u64 l)) (hbl:bl < w.heap.size) (hx:∀ x∈l,x < 18446744073709551616) (hG:Gl w)
  (h1:bl≠gw) (h2:bl≠b0) (e1:3≤gw) (e2:3≤b0) :
  Calls Tryz.prog 215 #[.pointer (some ⟨gw,0,none⟩),.slice A n c] w fun e w'=>e=.returned (.int .i64 0)∧∃ b',Wtr w' gw b' (bs++xput l)∧(b'=b0∨w.heap.size≤b')∧Kp gw b0 w w':=by
 have hs:=hG.lt;have hgw:=hW.glt;have hb0:=hW.lt;have hw1:Nw w (w.alloc (.cells #[.pointer (some ⟨gw,0,none⟩)] 273)):=(Nw.refl w).alloc' _;have hnil:∀ W,(binOp .eql 273 (.pointer (some ⟨gw,0,none⟩)) (.pointer none)).run Tryz.prog W=.ok (.bool false) W:=fun _=>by kernel_rfl
 have HE:=hid (encode_any _ 277 #[.pointer (some ⟨w.heap.size,0,none⟩)] bl (PutI w gw b0 w.heap.size (w.heap.size+1) bs) A n c l hn hm (hr.nw hw1) (by simp;omega) hx (hG.nw hw1)
  (by have h:=putSink w gw b0 w.heap.size (w.heap.size+1) bl bs hbs (Nat.le_refl _) (by omega) (by omega) hbl hgw hb0 h1 h2 e1 e2;rwa [show (w.alloc (.cells #[.pointer (some ⟨gw,0,none⟩)] 273)).heap.size=w.heap.size+1 from by simp])
  (by
   intro W hWn hlt;have hb:W.heap[w.heap.size]? = some (.cells #[.pointer (some ⟨gw,0,none⟩)] 273):=(hWn.block _ (by simp)).trans (heap_alloc_new w _);refine ⟨hb,⟨b0,?_,.inl rfl⟩,(hw1.trans hWn).kp _ _,by simpa using hlt,lt_of_block hb⟩;rw [List.append_nil];exact hW.nw (hw1.trans hWn)))
 clear hr hx hG hn hm hW;go_enter Tryz.func215,Tryz.ntmps215
 go_wp2_with (first | (go_at_call 275;refine HE.out.mono ?_;rintro e w2 ⟨rfl,h1,⟨b',h2,h3⟩,h4,h5,h6⟩))
 go_ret;refine ⟨rfl,b',h2,?_,h4⟩;rcases h3 with h3 | h3
 ·exact .inl h3
 ·exact .inr h3.1
end
section
open Go Go.RowKit Go.Sort Go.Shelf
attribute [local go_sem] Oper.semAt_some
abbrev RunS:={ r:Nat × Nat // r.1 < 18446744073709551616∧1≤r.2∧r.2≤128 }
abbrev runV (v c:Nat):Value:=.agg #[.int .u64 (v:Int),.int .i64 (c:Int)]
theorem runs_any (w:World) (A:Option Addr) (n c:Nat):Calls Tryz.prog 280 #[.slice A n c] w fun e w'=>e=.returned (.func (.func 319) #[] #[.pointer (some ⟨w.heap.size,0,none⟩)])∧w'=w.alloc (.cells #[.slice A n c] 236):=by
 go_enter Tryz.func280,Tryz.ntmps280
 go_wp2;go_ret;exact ⟨rfl,rfl⟩
theorem runF_end {v c:Nat} {l:List Nat} (h:∀ x r,l=x::r→¬ (x=v∧c < 128)):runF v c l=(v,c)::runs l:=by
 cases l with
 | nil=>rfl
 | cons x r=>rw [runF,if_neg (h x r rfl)];rfl
set_option maxRecDepth 100000 in
set_option maxHeartbeats 2000000 in
theorem runs_stops (n:Nat) (hn:1≤n) (w:World) (B bl:Nat) (A:Option Addr) (c:Nat) (l:List Nat) (hm:l.length≤1000000) (hl:∀ x∈l,x < 18446744073709551616) (hB:w.heap[B]? = some (.cells #[.slice A l.length c] 236 (0,0))) (hr:Rd w bl A (cN .u64 l)) :
  SeqStopsK Fence.wide n Tryz.prog 319 #[.pointer (some ⟨B,0,none⟩)] (fun x:RunS=>#[runV x.1.1 x.1.2]) (KpC B bl) (fun xs=>xs.map (·.1)=runs l) (fun _=>True) (runs l).length w:=by
 intro lp J Jx W hW hJ hJx hY h0;have HL:=hid hl;have hBW:=(hW.block B (lt_of_block hB)).trans hB;have hrW:=hr.nw hW;have HY:=hid hY;have HJ:=hid hJ;have HB0:=hid hBW;have HH:=hid hrW;clear hl hY hJ hB hr hBW hrW;refine callsIn_of_wp Tryz.func319 rfl trivial ?_ rfl;simp only [Tryz.ntmps319,List.size_toArray,List.length_cons,List.length_nil,Nat.reduceAdd,Nat.reduceSub,Array.replicate_succ,Array.replicate_zero,List.push_toArray,List.append_toArray,List.nil_append,List.cons_append]
 gi_wp2
 gi_loopw [3] (fun v3 wr=>∃ (pre:List RunS) (k:Nat),k≤l.length∧v3=.int .i64 (k:Int)∧J pre wr∧KpC B bl W wr∧runs l=pre.map (·.1)++runs (l.drop k)) (fun v3 _=>l.length - (intOf v3).toNat)
 case atStart=>exact ⟨[],0,by omega,rfl,h0,⟨rfl,rfl,Nat.le_refl _⟩,by simp⟩
 case round =>
  obtain ⟨pre,k,hk,rfl,hJp,hK,hrel⟩:=hrel;have hBr:wr.cell? ⟨B,0,none⟩=some (.slice A l.length c):=by
   have:=hK.1.trans HB0.out;simp [World.cell?,this]
  have HREL:=hid hrel;have HK:=hid hK;clear hrel hK h0;by_cases hlt:k < l.length
  ·have hltI:(k:Int) < (l.length:Int):=by omega
   gi_wp2
   obtain ⟨o,rfl,hbl,hc0⟩:=(HH.out.kpc HK.out).get (k:=k) (by simpa using hlt);rw [List.getElem_map] at hc0;have hv:=HL.out _ (List.getElem_mem hlt);have hd:l.drop k=l[k]::l.drop (k+1):=List.drop_eq_getElem_cons hlt;generalize hvk:l[k]=v at *;have HVK:=hid hvk;have HD:=hid hd;clear hd hvk;obtain ⟨wo,hwo⟩:∃ wo,wo=wr:=⟨_,rfl⟩;subst hwo;have HR0:Hid (Rd wo bl (some ⟨bl,o,none⟩) (cN .u64 l)):=hid (HH.out.kpc HK.out)
   gi_loopw [4] (fun v4 wq=>∃ c0:Nat,1≤c0∧c0≤128∧k+c0≤l.length∧v4=.int .i64 ((k:Int)+(c0:Int))∧Dr wo wq∧runs (l.drop k)=runF v c0 (l.drop (k+c0))) (fun v4 _=>l.length+1 - (intOf v4).toNat)
   case atStart=>exact ⟨1,by omega,by omega,by omega,rfl,Dr.refl _,by rw [HD.out];rfl⟩
   case round =>
    obtain ⟨c0,h1,h128,hkl,rfl,⟨q,rfl⟩,hrun⟩:=hrel;have HRUN:=hid hrun;clear hrun;have hwr:IntKind.i64.wrap (c0:Int)=(c0:Int):=IntWalk.i64_in _ (by omega);have hsub:(k:Int)+(c0:Int) - (k:Int)=(c0:Int):=by omega
    by_cases hA:k+c0 < l.length
    ·have hAI:(k:Int)+(c0:Int) < (l.length:Int):=by omega
     have hAd:decide ((k:Int)+(c0:Int) < (l.length:Int))=true:=by simp;omega
     have hA0:(0:Int)≤(k:Int)+(c0:Int):=by omega
     have hA2:((k:Int)+(c0:Int)).toNat=k+c0:=by omega
     by_cases hB:c0 < 128
     ·have hBI:(c0:Int) < 128:=by omega
      have hBd:decide ((c0:Int) < 128)=true:=by simp;omega
      obtain ⟨o',ho',_,hc1⟩:=HR0.out.get (k:=k+c0) (by simpa using hA);obtain rfl:o=o':=by simpa using ho'
      rw [List.getElem_map] at hc1;have hd1:l.drop (k+c0)=l[k+c0]::l.drop (k+c0+1):=List.drop_eq_getElem_cons hA;generalize l[k+c0]=x at *;have HD1:=hid hd1;clear hd1 ho';by_cases hx:x=v
      ·subst hx;have HX:=hid (show runs (l.drop k)=runF x (c0+1) (l.drop (k+(c0+1))) from by rw [HRUN.out,HD1.out,runF,if_pos ⟨rfl,hB⟩,Nat.add_assoc])
       gi_wp2_with fail
       refine wpIn_wide.2 ?_;refine wp_region_quiet_lit (by kernel_rfl) (by kernel_rfl) ?_
       repeat (with_reducible refine wpQuiet_step ?_;intro K hK;go_simp;refine hK _ ?_;clear hK K)
       with_reducible refine wpQuiet_nil ?_
       rintro _ ⟨nq,rfl⟩
       gi_wp2
       go_roundw
       case rel=>exact ⟨c0+1,by omega,by omega,by omega,by simp;omega,⟨q+nq,rfl⟩,HX.out⟩
       case measure=>simp [intOf];omega
      ·have hxq:((x:Int) == (v:Int))=false:=by rw [beq_eq_false_iff_ne];omega
       have hend:∀ y r,l.drop (k+c0)=y::r→¬ (y=v∧c0 < 128):=by
        intro y r e h;rw [HD1.out] at e;injection e with e1 e2
        exact hx (e1.trans h.1)
       clear hx
       gi_wp2_with fail
       refine wpIn_wide.2 ?_;refine wp_region_quiet_lit (by kernel_rfl) (by kernel_rfl) ?_
       repeat (with_reducible refine wpQuiet_step ?_;intro K hK;go_simp;refine hK _ ?_;clear hK K)
       with_reducible refine wpQuiet_nil ?_
       rintro _ ⟨nq,rfl⟩;have hJ2:J pre (wo.drewN (q+nq)):=HJ.out pre wo _ none hJp ⟨rfl,rfl,rfl,Nat.le_refl _,fun _ _ _=>rfl⟩ (fun r e=>by cases e);have hnext:runs l=(pre++([⟨(v,c0),hv,h1,h128⟩]:List RunS)).map (·.1)++runs (l.drop (k+c0)):=by
        rw [HREL.out,HRUN.out,runF_end (by
         intro x r e;exact hend x r e)]
        simp
       have hplen:pre.length < (runs l).length:=by rw [hnext];simp
       obtain ⟨fn,tmps,assign,body,hy,hR⟩:=HY.out pre ⟨(v,c0),hv,h1,h128⟩ _ hJ2 hplen;have HR:=hid hR;have HNX:=hid hnext;have HSZ:=hid hkl;clear hR hJp hJ2 hnext hend hplen
       gi_wp2
       refine HR.out.mono ?_;rintro e W3 (⟨rfl,hJ3,hk3⟩ | ⟨rfl,hJx3⟩)
       ·gi_wp2
        go_roundw
        case rel=>exact ⟨_,k+c0,HSZ.out,by simp,hJ3,HK.out.trans hk3,HNX.out⟩
        case measure=>simp [intOf];omega
       ·gi_wp2
        refine bodyPost_ret (results_none rfl _ _ _) rfl ?_;exact ⟨⟨_,rfl⟩,.inr ⟨_,trivial,hJx3⟩⟩
     ·have hBd:decide ((c0:Int) < 128)=false:=by simp;omega
      have hBI:¬ (c0:Int) < 128:=by omega
      have hend:∀ y r,l.drop (k+c0)=y::r→¬ (y=v∧c0 < 128):=fun y r e h=>hB h.2
      clear hB
      gi_wp2_with fail
      refine wpIn_wide.2 ?_;refine wp_region_quiet_lit (by kernel_rfl) (by kernel_rfl) ?_
      repeat (with_reducible refine wpQuiet_step ?_;intro K hK;go_simp;refine hK _ ?_;clear hK K)
      with_reducible refine wpQuiet_nil ?_
      rintro _ ⟨nq,rfl⟩;have hJ2:J pre (wo.drewN (q+nq)):=HJ.out pre wo _ none hJp ⟨rfl,rfl,rfl,Nat.le_refl _,fun _ _ _=>rfl⟩ (fun r e=>by cases e);have hnext:runs l=(pre++([⟨(v,c0),hv,h1,h128⟩]:List RunS)).map (·.1)++runs (l.drop (k+c0)):=by
       rw [HREL.out,HRUN.out,runF_end (by
        intro x r e;exact hend x r e)]
       simp
      have hplen:pre.length < (runs l).length:=by rw [hnext];simp
      obtain ⟨fn,tmps,assign,body,hy,hR⟩:=HY.out pre ⟨(v,c0),hv,h1,h128⟩ _ hJ2 hplen;have HR:=hid hR;have HNX:=hid hnext;have HSZ:=hid hkl;clear hR hJp hJ2 hnext hend hplen
      gi_wp2
      refine HR.out.mono ?_;rintro e W3 (⟨rfl,hJ3,hk3⟩ | ⟨rfl,hJx3⟩)
      ·gi_wp2
       go_roundw
       case rel=>exact ⟨_,k+c0,HSZ.out,by simp,hJ3,HK.out.trans hk3,HNX.out⟩
       case measure=>simp [intOf];omega
      ·gi_wp2
       refine bodyPost_ret (results_none rfl _ _ _) rfl ?_;exact ⟨⟨_,rfl⟩,.inr ⟨_,trivial,hJx3⟩⟩
    ·have hAd:decide ((k:Int)+(c0:Int) < (l.length:Int))=false:=by simp;omega
     have hend:∀ y r,l.drop (k+c0)=y::r→¬ (y=v∧c0 < 128):=by
      intro y r e;rw [List.drop_eq_nil_of_le (by omega)] at e;cases e
     clear hA
     gi_wp2_with fail
     refine wpIn_wide.2 ?_;refine wp_region_quiet_lit (by kernel_rfl) (by kernel_rfl) ?_
     repeat (with_reducible refine wpQuiet_step ?_;intro K hK;go_simp;refine hK _ ?_;clear hK K)
     with_reducible refine wpQuiet_nil ?_
     rintro _ ⟨nq,rfl⟩;have hJ2:J pre (wo.drewN (q+nq)):=HJ.out pre wo _ none hJp ⟨rfl,rfl,rfl,Nat.le_refl _,fun _ _ _=>rfl⟩ (fun r e=>by cases e);have hnext:runs l=(pre++([⟨(v,c0),hv,h1,h128⟩]:List RunS)).map (·.1)++runs (l.drop (k+c0)):=by
      rw [HREL.out,HRUN.out,runF_end (by
       intro x r e;exact hend x r e)]
      simp
     have hplen:pre.length < (runs l).length:=by rw [hnext];simp
     obtain ⟨fn,tmps,assign,body,hy,hR⟩:=HY.out pre ⟨(v,c0),hv,h1,h128⟩ _ hJ2 hplen;have HR:=hid hR;have HNX:=hid hnext;have HSZ:=hid hkl;clear hR hJp hJ2 hnext hend hplen
     gi_wp2
     refine HR.out.mono ?_;rintro e W3 (⟨rfl,hJ3,hk3⟩ | ⟨rfl,hJx3⟩)
     ·gi_wp2
      go_roundw
      case rel=>exact ⟨_,k+c0,HSZ.out,by simp,hJ3,HK.out.trans hk3,HNX.out⟩
      case measure=>simp [intOf];omega
     ·gi_wp2
      refine bodyPost_ret (results_none rfl _ _ _) rfl ?_;exact ⟨⟨_,rfl⟩,.inr ⟨_,trivial,hJx3⟩⟩
  ·have hltI:¬ (k:Int) < (l.length:Int):=by omega
   gi_wp2
   go_end0
   refine ⟨⟨_,rfl⟩,.inl ⟨pre,?_,hJp⟩⟩;rw [HREL.out,List.drop_eq_nil_of_le (by omega)];simp [runs]
end
section
open Go Go.RowKit Go.Sort Go.Shelf
attribute [local go_sem] Oper.semAt_some
def RSI (w:World) (pre:List RunS) (W:World):Prop :=
 W.heap[w.heap.size]? = some (.cells #[.int .i64 ((71*pre.length:Nat):Int)] 3 (0,0))∧Nw w W∧w.heap.size+1 < W.heap.size
theorem RSI.own {w:World} {D:Nat} (hD:w.heap.size+2≤D):OwnFrom D (RSI w):=by
 intro pre W W' row h hg hr;obtain ⟨h1,h2,h3⟩:=h;exact ⟨(hg.block _ (lt_of_block h1) (fun e=>by have:=(hr _ e.symm).1;omega)).trans h1,h2.grown' hg (fun k e=>by have:=(hr _ e).1;omega),Nat.lt_of_lt_of_le h3 hg.size⟩
set_option maxRecDepth 100000 in
theorem rSize_any (w:World) (bl:Nat) (A:Option Addr) (n c:Nat) (l:List Nat) (hn:n=l.length) (hm:n≤10000) (hr:Rd w bl A (cN .u64 l)) (hbl:bl < w.heap.size) (hx:∀ x∈l,x < 18446744073709551616) :
  Calls Tryz.prog 217 #[.slice A n c] w fun e w'=>e=.returned (.int .i64 ((rput l).length:Int))∧Nw w w':=by
 subst hn;have hw1:Nw w (w.alloc (.cells #[.int .i64 0] 3)):=(Nw.refl w).alloc' _;refine (callsIn_wide (n:=4)).1 ?_;refine callsIn_of_wp_marks Tryz.func217 rfl trivial ?_ rfl;simp only [Tryz.ntmps217,List.size_toArray,List.length_cons,List.length_nil,Nat.reduceAdd,Nat.reduceSub,Array.replicate_succ,Array.replicate_zero,List.push_toArray,List.append_toArray,List.nil_append,List.cons_append];have HC:=hid fun W A n c=>runs_any W A n c
 gi_wp2_with (first | (refine ⟨trivial,?_⟩;gi_at_call 280;refine (callsIn_wide.2 (HC.out _ _ _ _)).mono ?_;rintro e w4 ⟨rfl,rfl⟩) | (gi_at_call 280;refine (callsIn_wide.2 (HC.out _ _ _ _)).mono ?_;rintro e w4 ⟨rfl,rfl⟩))
 have hsz:((w.alloc (.cells #[.int .i64 0] 3)).alloc (.cells #[.slice A l.length c] 236)).heap.size=w.heap.size+2:=by simp
 have hbb:((w.alloc (.cells #[.int .i64 0] 3)).alloc (.cells #[.slice A l.length c] 236)).heap[w.heap.size+1]? = some (.cells #[.slice A l.length c] 236 (0,0)):=by
  have:=heap_alloc_new (w.alloc (.cells #[.int .i64 0] 3)) (.cells #[.slice A l.length c] 236)
  rwa [World.size_alloc] at this
 have hW0:Nw w ((w.alloc (.cells #[.int .i64 0] 3)).alloc (.cells #[.slice A l.length c] 236)):=hw1.alloc' _;have hrd:=hr.nw hW0;refine wpIn_rangeFunc_ownG (F:=Fence.wide) (n:=4) rfl (by omega) (gf:=319) (lb:=#[.pointer (some ⟨w.heap.size+1,0,none⟩)]) rfl trivial (enters_of Tryz.func319 (by kernel_rfl) rfl)
  (runs_stops 3 (by omega) _ (w.heap.size+1) bl A c l (by omega) hx hbb hrd)
  KpC.trans (fun W lq o o' h1 _ _ _=>KpC.putObj _ _ W lq o' (by have:=hsz;omega) (by have:=hsz;omega)) (Below.refl _ _) (fun _=>rfl)
  (RSI w) (fun _ _ _=>False) (RSI.own (by have:=hsz;omega)) (fun _ _ _ _ _ hs _ _=>hs) ?start ?a1 ?assign ?body ?done ?stop
 case assign =>
  intro l x W K hK
  gi_wp2
  exact hK
 case stop =>
  intro D c pre W _ _ h _;exact h.elim
 case start =>
  exact ⟨(Below.heap_alloc _ _ _ (by simp)).trans (heap_alloc_new w _),hW0,by rw [hsz];omega⟩
 case body =>
  intro lq pre x W hI hlt;obtain ⟨hb,hN,hs⟩:=hI;have hlen:=runs_length_le l;have hc:W.cell? ⟨w.heap.size,0,none⟩=some (.int .i64 ((71*pre.length:Nat):Int)):=by simp [World.cell?,hb]
  have hf:W.frozen? ⟨w.heap.size,0,none⟩=false:=by simp [World.frozen?,hb]
  have HB:=hid hb;obtain ⟨m,hm'⟩:∃ m,m=71*pre.length:=⟨_,rfl⟩;rw [← hm'] at hc HB;have HM:=hid hm';have hml:m≤1000000:=by omega
  clear hm' hb
  gi_wp2
  have hk:Kp w.heap.size w.heap.size W (W.setCell ⟨w.heap.size,0,none⟩ (.int .i64 ((m:Int)+71))):=(Kp.refl _ _ _).setCell' (p:=⟨w.heap.size,0,none⟩) (.inl rfl) _;refine ⟨⟨hk.size,fun k o hk1 ho hoc=>?_⟩,⟨hk.block _ hs (by omega) (by omega),hk.block _ (by omega) (by omega) (by omega),hk.size⟩,?_,Kp.nw hN hk (Nat.le_refl _) (Nat.le_refl _),Nat.lt_of_lt_of_le hs hk.size⟩
  ·exact (hk.block k (lt_of_block ho) (by omega) (by omega)).trans ho
  ·rw [show (((71*(pre++[x]).length:Nat)):Int)=(m:Int)+71 from by rw [HM.out];simp;omega];simp [World.setCell,Array.getElem?_modify,HB.out]
 case done =>
  intro D ys W hD hS hI hK;obtain ⟨hb,hN,hs⟩:=hI;have hc:W.cell? ⟨w.heap.size,0,none⟩=some (.int .i64 ((71*ys.length:Nat):Int)):=by simp [World.cell?,hb]
  have hyl:ys.length=(runs l).length:=by rw [← hS];simp
  have hv:((71*ys.length:Nat):Int)=((rput l).length:Int):=by rw [rput_length,hyl]
  rw [hv] at hc;clear hv hS
  gi_wp2
  refine ⟨by simp,.inl ⟨_,_,rfl,run_takeDeferred hK,?_⟩⟩;exact ⟨_,results_tmp rfl _ _ _,rfl,hN.grown' (grownBy_putObj' W D _) (fun k e=>by cases e;have:=hsz;omega)⟩
theorem Wtr.cells8 {w:World} {g b:Nat} {bs:List Bool} (h:Wtr w g b bs) (hne:bs≠[]):∃ cs fr,w.heap[b]? = some (.cells cs 5 fr):=by
 obtain ⟨⟨A,c,hb,hO,hA1,hA2⟩,h3⟩:=h;rcases hO with ⟨rfl,h1,h2,h4⟩ | ⟨rfl,hlt2,hO⟩
 ·rw [pk_length] at h1;exact absurd (List.eq_nil_of_length_eq_zero (by omega)) hne
 ·rcases hO.2 with ⟨hv,_⟩ | ⟨g0,cap,cur,hv,hbg,hh,r⟩
  ·cases hv
  ·have hg0:b=g0:=by injection hv with x;injection x with x;injection x
   subst hg0;exact ⟨_,_,hh⟩
def RPI (w:World) (gw b0:Nat) (bs:List Bool) (pre:List RunS) (W:World):Prop :=
 (∃ b',Wtr W gw b' (bs++(pre.map (·.1)).flatMap rbits)∧(b'=b0∨(w.heap.size≤b'∧b'≠w.heap.size∧b'≠w.heap.size+1)))∧Kp gw b0 w W∧W.heap[w.heap.size]? = some (.cells #[.pointer (some ⟨gw,0,none⟩)] 273 (0,0))∧w.heap.size+1 < W.heap.size
theorem RPI.own {w:World} {gw b0 D:Nat} {bs:List Bool} (hD:w.heap.size+2≤D):OwnFrom D (RPI w gw b0 bs):=by
 intro pre W W' row h hg hr;obtain ⟨⟨b',hW,hb'⟩,hK,hBx,hBs⟩:=h;refine ⟨⟨b',hW.own hg (fun r e=>(hr r e).2),hb'⟩,hK.grown hg (fun k e=>.inr (.inr (by have:=(hr k e).1;omega))),?_,Nat.lt_of_lt_of_le hBs hg.size⟩;exact (hg.block _ (lt_of_block hBx) (fun e=>by have:=(hr _ e.symm).1;omega)).trans hBx
theorem rbits_flat (l:List (Nat × Nat)):(l.flatMap rbits).length=71*l.length:=by
 induction l with
 | nil=>rfl
 | cons x l ih=>simp only [List.flatMap_cons,List.length_append,rbits_length,List.length_cons,ih];omega
set_option maxRecDepth 100000 in
set_option maxHeartbeats 1000000 in
theorem rPut_any (w:World) (gw b0 bl:Nat) (A:Option Addr) (n c:Nat) (bs:List Bool) (l:List Nat) (hW:Wtr w gw b0 bs) (hne:bs≠[]) (hbs:bs.length≤1000000000) (hn:n=l.length) (hm:n≤10000) (hr:Rd w bl A (cN .u64 l)) (hbl:bl < w.heap.size) (hx:∀ x∈l,x < 18446744073709551616)
  (h1:bl≠gw) (h2:bl≠b0) :
  Calls Tryz.prog 218 #[.pointer (some ⟨gw,0,none⟩),.slice A n c] w fun e w'=>e=.returned (.int .i64 0)∧∃ b',Wtr w' gw b' (bs++rput l)∧(b'=b0∨w.heap.size≤b')∧Kp gw b0 w w':=by
 subst hn;have hgw:=hW.glt;have hb0:=hW.lt;have hnil:∀ W,(binOp .eql 273 (.pointer (some ⟨gw,0,none⟩)) (.pointer none)).run Tryz.prog W=.ok (.bool false) W:=fun _=>by kernel_rfl
 have hw1:Nw w (w.alloc (.cells #[.pointer (some ⟨gw,0,none⟩)] 273)):=(Nw.refl w).alloc' _;refine (callsIn_wide (n:=4)).1 ?_;refine callsIn_of_wp_marks Tryz.func218 rfl trivial ?_ rfl;simp only [Tryz.ntmps218,List.size_toArray,List.length_cons,List.length_nil,Nat.reduceAdd,Nat.reduceSub,Array.replicate_succ,Array.replicate_zero,List.push_toArray,List.append_toArray,List.nil_append,List.cons_append];have HC:=hid fun W A n c=>runs_any W A n c
 gi_wp2_with (first | (refine ⟨trivial,?_⟩;gi_at_call 280;refine (callsIn_wide.2 (HC.out _ _ _ _)).mono ?_;rintro e w4 ⟨rfl,rfl⟩) | (gi_at_call 280;refine (callsIn_wide.2 (HC.out _ _ _ _)).mono ?_;rintro e w4 ⟨rfl,rfl⟩))
 have hsz:((w.alloc (.cells #[.pointer (some ⟨gw,0,none⟩)] 273)).alloc (.cells #[.slice A l.length c] 236)).heap.size=w.heap.size+2:=by simp
 have hbb:((w.alloc (.cells #[.pointer (some ⟨gw,0,none⟩)] 273)).alloc (.cells #[.slice A l.length c] 236)).heap[w.heap.size+1]? = some (.cells #[.slice A l.length c] 236 (0,0)):=by
  have:=heap_alloc_new (w.alloc (.cells #[.pointer (some ⟨gw,0,none⟩)] 273)) (.cells #[.slice A l.length c] 236)
  rwa [World.size_alloc] at this
 have hW0:Nw w ((w.alloc (.cells #[.pointer (some ⟨gw,0,none⟩)] 273)).alloc (.cells #[.slice A l.length c] 236)):=hw1.alloc' _;have hrd:=hr.nw hW0;refine wpIn_rangeFunc_ownH (F:=Fence.wide) (n:=4) rfl (by omega) (gf:=319) (lb:=#[.pointer (some ⟨w.heap.size+1,0,none⟩)]) rfl trivial (enters_of Tryz.func319 (by kernel_rfl) rfl)
  (runs_stops 3 (by omega) _ (w.heap.size+1) bl A c l (by omega) hx hbb hrd)
  KpC.trans (fun W lq o o' h1 _ _ _=>KpC.putObj _ _ W lq o' (by have:=hsz;omega) (by have:=hsz;omega)) (Below.refl _ _) (fun _=>rfl)
  (RPI w gw b0 bs) (fun _ _ _=>False) (RPI.own (by have:=hsz;omega)) (fun _ _ _ _ _ hs _ _=>hs) ?start (fun x a' W=>∃ Bx,W.heap[Bx]? = some (.cells #[.int .u64 (x.1.1:Int),.int .i64 (x.1.2:Int)] 380 (0,0))∧a' = { tmps:=#[.pointer (some ⟨gw,0,none⟩),.slice A l.length c,.pointer (some ⟨w.heap.size,0,none⟩),undef,.int .i64 0,.pointer (some ⟨Bx,0,none⟩),.pointer (some ⟨gw,0,none⟩),.bool false,.slice A l.length c,.func (.func 319) #[] #[.pointer (some ⟨w.heap.size+1,0,none⟩)],runV x.1.1 x.1.2,undef,undef,undef,undef,undef,undef,undef,undef,undef,undef],defers:=[] }) ?ax ?assign ?body ?done ?stop
 case ax =>
  intro x a' _ W W' row h hg hr;obtain ⟨Bx,h1,h2⟩:=h;refine ⟨Bx,(hg.block _ (lt_of_block h1) ?_).trans h1,h2⟩;intro e;obtain ⟨o,h3,h4⟩:=(hr _ e.symm).2;rw [h1] at h3;cases h3;cases h4
 case assign =>
  intro lq pre x W K hI hK
  gi_wp2
  have hN:Nw W (W.alloc (.cells #[.int .u64 (x.1.1:Int),.int .i64 (x.1.2:Int)] 380)):=(Nw.refl W).alloc' _;obtain ⟨⟨b',hWt,hb'⟩,hKw,hbx,hBs⟩:=hI;have hWs:=hKw.size;refine hK _ _ ((KeepsOthers.alloc _ _).from _) ⟨Below.heap_alloc _ _ _ hBs,Below.heap_alloc _ _ _ (by omega),hN.size⟩ ⟨⟨b',hWt.nw hN,hb'⟩,hKw.nw' hN,(Below.heap_alloc _ _ _ (lt_of_block hbx)).trans hbx,Nat.lt_of_lt_of_le hBs hN.size⟩ ⟨W.heap.size,heap_alloc_new W _,rfl⟩
 case stop =>
  intro D c pre W _ _ h _;exact h.elim
 case start =>
  refine ⟨⟨b0,by simpa using hW.nw hW0,.inl rfl⟩,hW0.kp _ _,(Below.heap_alloc _ _ _ (by simp)).trans (heap_alloc_new w _),by rw [hsz];omega⟩
 case body =>
  rintro lq pre ⟨⟨v,c0⟩,hv,hc1,hc2⟩ a' W _ _ hI ⟨Bx,hBx,rfl⟩ hlt;obtain ⟨⟨b',hWt,hb'⟩,hKw,hbx,hBs⟩:=hI;simp only at hv hc1 hc2 hBx;have hlen:=runs_length_le l;have hfl:=rbits_flat (pre.map (·.1));have hpl:(pre.map (·.1)).length=pre.length:=by simp
  have htl:(bs++(pre.map (·.1)).flatMap rbits).length≤1000800000:=by rw [List.length_append,hfl,hpl];omega
  have hcs:=hWt.cells (by intro h;exact hne (List.append_eq_nil_iff.1 h).1);have hcb:W.cell? ⟨w.heap.size,0,none⟩=some (.pointer (some ⟨gw,0,none⟩)):=by simp [World.cell?,hbx]
  have hbl':=lt_of_block hbx;have hn1:w.heap.size≠gw:=by omega
  have hn2:w.heap.size≠b':=by rcases hb' with h | h<;>omega
  have hBl:=lt_of_block hBx;have hd0:W.cell? ⟨Bx,0,none⟩=some (.int .u64 (v:Int)):=by simp [World.cell?,hBx]
  have hxb:Bx≠b':=by
   rintro rfl;obtain ⟨cs,fr,hcs⟩:=hWt.cells8 (by intro h;exact hne (List.append_eq_nil_iff.1 h).1);rw [hcs] at hBx;injection hBx with h
   injection h with _ h _
   exact absurd h (by decide)
  have hxg:Bx≠gw:=by
   rintro rfl;obtain ⟨⟨A',c',hb,_⟩,_⟩:=hWt;rw [hb] at hBx;injection hBx with h
   injection h with _ h _
   exact absurd h (by decide)
  have HB1:=hid (WBits_any _ gw b' _ v 64 hWt (by omega) hv (by omega));have HWT:=hid hWt;have hc0I:(1:Int)≤(c0:Int):=by omega
  gi_wp2_with fail
  refine ⟨trivial,?_⟩;refine (CallsIn.inRound lq (callsIn_wide.2 HB1.out)).mono ?_;rintro e w4 ⟨rfl,b4,hW4,hb4,hK4'⟩;have hsz4:=hK4'.size;have hfb:=(hK4'.block _ hBl hxg hxb).trans hBx;have hc4:w4.cell? ⟨Bx,1,none⟩=some (.int .i64 (c0:Int)):=by simp [World.cell?,hfb]
  have hcb4:w4.cell? ⟨w.heap.size,0,none⟩=some (.pointer (some ⟨gw,0,none⟩)):=(World.cell?_of_block (hK4'.block _ hbl' hn1 hn2)).trans hcb;have HB2:Hid (Calls Tryz.prog 177 #[.pointer (some ⟨gw,0,none⟩),.int .u64 ((c0:Int) - 1),.int .i64 7] w4 fun e w'=>e=.returned (.int .i64 0)∧∃ b',Wtr w' gw b' (bs++(pre.map (·.1)).flatMap rbits++bitsOf v 64++bitsOf (c0 - 1) 7)∧(b'=b4∨w4.heap.size≤b')∧Kp gw b4 w4 w'):=by
   have h:=WBits_any w4 gw b4 _ (c0 - 1) 7 hW4 (by omega) (by omega) (by rw [List.length_append,bitsOf_length];omega);rw [show ((c0 - 1:Nat):Int)=(c0:Int) - 1 from by omega] at h;exact hid h
  have HK4:=hid hK4';clear hfb hK4'
  gi_wp2_with fail
  refine ⟨trivial,?_⟩;refine (CallsIn.inRound lq (callsIn_wide.2 HB2.out)).mono ?_;rintro e w5 ⟨rfl,b5,hW5,hb5,hK5⟩
  gi_wp2
  have hkw5:Kp gw b' W w5:=by
   refine HK4.out.trans hK5 (.inl rfl) ?_;rcases hb4 with rfl | hb4
   ·exact .inr (.inl rfl)
   ·right;right;omega
  have hb5':b5=b'∨W.heap.size≤b5:=by
   rcases hb5 with rfl | hb5
   ·rcases hb4 with rfl | hb4
    ·exact .inl rfl
    ·right;omega
   ·right;omega
  have hWs:=hKw.size;refine ⟨⟨hkw5.size,fun k o hk ho hoc=>?_⟩,⟨hkw5.block _ hBs (by omega) (by rcases hb' with h | h<;>omega),hkw5.block _ (by omega) h1 (by rcases hb' with h | h<;>omega),hkw5.size⟩,⟨b5,?_,?_⟩,hKw.trans hkw5 (.inl rfl) (by rcases hb' with h | h;exact .inr (.inl h);exact .inr (.inr h.1)),(hkw5.block _ hbl' hn1 hn2).trans hbx,Nat.lt_of_lt_of_le hBs hkw5.size⟩
  ·refine (hkw5.block k (lt_of_block ho) ?_ ?_).trans ho
   ·rintro rfl;omega
   ·rintro rfl;obtain ⟨cs,ty,fr,hcs⟩:=hcs;rw [hcs] at ho;cases ho;cases hoc
  ·simpa [rbits] using hW5
  ·rcases hb5' with rfl | h2'
   ·exact hb'
   ·right;omega
 case done =>
  intro D ys W hD hS hI hK
  gi_wp2
  refine ⟨by simp,.inl ⟨_,_,rfl,run_takeDeferred hK,?_⟩⟩;obtain ⟨⟨b',hWt,hb'⟩,hKp,_⟩:=hI;have hg:=grownBy_putObj' W D (.deferred none);refine ⟨_,results_tmp rfl _ _ _,rfl,b',?_,by rcases hb' with h | h;exact .inl h;exact .inr h.1,hKp.grown hg (fun k e=>by cases e;exact .inr (.inr (by have:=hsz;omega)))⟩;unfold rput;rw [← hS];exact hWt.own hg (fun r e=>by cases e;exact ⟨_,hK,rfl⟩)
end
section
open Go Go.RowKit
def encFs:Array Value:=#[.func (.func 214) #[] #[],.func (.func 215) #[] #[],.func (.func 216) #[] #[],
 .func (.func 217) #[] #[],.func (.func 218) #[] #[],.func (.func 219) #[] #[],
 .func (.func 220) #[] #[],.func (.func 221) #[] #[],.func (.func 222) #[] #[]]
theorem encodings_any (w:World):Calls Tryz.prog 150 #[] w fun e w'=>e=.returned (.agg encFs)∧Nw w w':=by
 go_enter Tryz.func150,Tryz.ntmps150
 go_wp2;refine bodyPost_ret (results_cell_row rfl _ _ w.heap.size 243 _ _ _ rfl (heap_alloc_new _ _) Tryz.underlying243 rfl (by kernel_rfl)) rfl ?_;exact ⟨rfl,(Nw.refl w).alloc' _⟩
theorem three_set {w W:World} {g0 g k:Nat} {x0 x1 x2 x:Value} {t:TypeId} {hd:Array Value} (hN:Nw w W) (h1:w.heap.size≤g) (h2:g0≠g)
  (hO:W.heap[g]? = some (.cells #[x0,x1,x2] t (0,0))) (hZ:W.heap[g0]? = some (.cells hd t (0,0))) :
  Nw w (W.setCell ⟨g,k,none⟩ x)∧(W.setCell ⟨g,k,none⟩ x).heap[g]? = some (.cells (#[x0,x1,x2].setIfInBounds k x) t (0,0))∧(W.setCell ⟨g,k,none⟩ x).heap[g0]? = some (.cells hd t (0,0)) :=
 ⟨Kp.nw hN ((Kp.refl g g W).setCell' (.inl rfl) x) h1 h1,by simp [World.setCell,Array.getElem?_modify,hO],by simp [World.setCell,Array.getElem?_modify,hZ,Ne.symm h2]⟩
theorem three_at {W:World} {g:Nat} {x0 x1 x2:Value} {t:TypeId} (hO:W.heap[g]? = some (.cells #[x0,x1,x2] t (0,0))) :
  (W.cell? ⟨g,0,none⟩=some x0∧W.cell? ⟨g,1,none⟩=some x1∧W.cell? ⟨g,2,none⟩=some x2)∧W.frozen? ⟨g,0,none⟩=false∧W.frozen? ⟨g,1,none⟩=false∧W.frozen? ⟨g,2,none⟩=false :=
 ⟨⟨by simp [World.cell?,hO],by simp [World.cell?,hO],by simp [World.cell?,hO]⟩,by simp [World.frozen?,hO],by simp [World.frozen?,hO],by simp [World.frozen?,hO]⟩
theorem block_on {W W':World} {g:Nat} {o o':Obj} (hN:Nw (W.alloc o) W') (h:W.heap[g]? = some o'):W'.heap[g]? = some o':=by
 have hl:=lt_of_block h;rw [hN.block g (by simp;omega)];exact (heap_alloc_old W o hl).trans h
theorem Sizes_any (w:World) (b:Nat) (A:Option Addr) (n c:Nat) (l:List Nat) (hn:n=l.length) (hm:n≤10000) (hr:Rd w b A (cN .u64 l)) (hb:b < w.heap.size) (hx:∀ x∈l,x < 18446744073709551616) (hG:Gl w) :
  Calls Tryz.prog 225 #[.slice A n c] w fun e w'=>e=.returned (.agg #[.int .i64 ((xput l).length:Int),.int .i64 ((rput l).length:Int),.int .i64 (szOf l)])∧Nw w w':=by
 have H1:=hid fun (w':World) (hN:Nw w w')=>xSize_any w' b A n c l hn hm (hr.nw hN) (Nat.lt_of_lt_of_le hb hN.size) hx (hG.nw hN)
 have H2:=hid fun (w':World) (hN:Nw w w')=>rSize_any w' b A n c l hn hm (hr.nw hN) (Nat.lt_of_lt_of_le hb hN.size) hx
 have H3:=hid fun (w':World) (hN:Nw w w')=>Size_any w' b A n c l hn (by omega) (hr.nw hN) hx
 have i0:∀ W,(Instr.index 243 (.agg encFs) (.int .i64 0)).run Tryz.prog W=.ok (.agg #[.func (.func 214) #[] #[],.func (.func 215) #[] #[],.func (.func 216) #[] #[]]) W:=fun _=>by kernel_rfl
 have i1:∀ W,(Instr.index 243 (.agg encFs) (.int .i64 1)).run Tryz.prog W=.ok (.agg #[.func (.func 217) #[] #[],.func (.func 218) #[] #[],.func (.func 219) #[] #[]]) W:=fun _=>by kernel_rfl
 have i2:∀ W,(Instr.index 243 (.agg encFs) (.int .i64 2)).run Tryz.prog W=.ok (.agg #[.func (.func 220) #[] #[],.func (.func 221) #[] #[],.func (.func 222) #[] #[]]) W:=fun _=>by kernel_rfl
 generalize ((xput l).length:Int)=s1 at *;generalize ((rput l).length:Int)=s2 at *;generalize szOf l=s3 at *;clear hn hm hr hb hx hG;go_enter Tryz.func225,Tryz.ntmps225
 go_wp2_with (go_at_call 150;refine (encodings_any _).mono ?_;rintro e w1 ⟨rfl,hN1⟩)
 have hN:Nw w w1:=(((Nw.refl w).alloc' _).alloc' _).trans hN1;have hO:w1.heap[w.heap.size+1]? = some (.cells #[.int .i64 0,.int .i64 0,.int .i64 0] 318 (0,0)):=(hN1.block _ (by simp)).trans (by simpa using heap_alloc_new (w.alloc _) _);have hZ:w1.heap[w.heap.size]? = some (.cells #[.int .i64 0,.int .i64 0,.int .i64 0] 318 (0,0)):=block_on (W:=w.alloc _) hN1 (heap_alloc_new w _);clear hN1;refine wp_loop_rounds 4 ?_;rw [rounds_succ];go_wp2_with fail;refine (H1.out _ (hN.alloc' _)).mono ?_;rintro e w2 ⟨rfl,hN2⟩;have hO2:=block_on hN2 hO;have hZ2:=block_on hN2 hZ;have hn2:=(hN.alloc' _).trans hN2;have c0:=(three_at hO2).1.1;have f0:=(three_at hO2).2.1;obtain ⟨hN3,hO3,hZ3⟩:=three_set (k:=0) (x:=.int .i64 s1) hn2 (by omega) (by omega) hO2 hZ2;clear hO hZ hN2 hO2 hZ2 hN hn2;go_wp2_with fail;clear c0 f0;generalize w2.setCell ⟨w.heap.size+1,0,none⟩ (.int .i64 s1)=w3 at *;rw [rounds_succ];go_wp2_with fail;refine (H2.out _ (hN3.alloc' _)).mono ?_;rintro e w4 ⟨rfl,hN4⟩;have hO4:=block_on hN4 hO3;have hZ4:=block_on hN4 hZ3;have hn4:=(hN3.alloc' _).trans hN4;have c1:=(three_at hO4).1.2.1;have f1:=(three_at hO4).2.2.1;obtain ⟨hN5,hO5,hZ5⟩:=three_set (k:=1) (x:=.int .i64 s2) hn4 (by omega) (by omega) hO4 hZ4;clear hO3 hZ3 hN4 hO4 hZ4 hN3 hn4;go_wp2_with fail;clear c1 f1;generalize w4.setCell ⟨w.heap.size+1,1,none⟩ (.int .i64 s2)=w5 at *;rw [rounds_succ];go_wp2_with fail;refine (H3.out _ (hN5.alloc' _)).mono ?_;rintro e w6 ⟨rfl,hN6⟩;have hO6:=block_on hN6 hO5;have hZ6:=block_on hN6 hZ5;have hn6:=(hN5.alloc' _).trans hN6;have c2:=(three_at hO6).1.2.2;have f2:=(three_at hO6).2.2.2;obtain ⟨hN7,hO7,hZ7⟩:=three_set (k:=2) (x:=.int .i64 s3) hn6 (by omega) (by omega) hO6 hZ6;clear hO5 hZ5 hN6 hO6 hZ6 hN5 hn6;go_wp2_with fail;clear c2 f2;generalize w6.setCell ⟨w.heap.size+1,2,none⟩ (.int .i64 s3)=w7 at *;obtain ⟨a0,a1,a2⟩:=(three_at hO7).1;obtain ⟨⟨b0,b1,b2⟩,e0,e1,e2⟩:=three_at hZ7;rw [rounds_succ];go_wp2_with fail;have hfin:(((w7.setCell ⟨w.heap.size,0,none⟩ (.int .i64 s1)).setCell ⟨w.heap.size,1,none⟩ (.int .i64 s2)).setCell ⟨w.heap.size,2,none⟩ (.int .i64 s3)).heap[w.heap.size]? = some (.cells #[.int .i64 s1,.int .i64 s2,.int .i64 s3] 318 (0,0)):=by
  simp [World.setCell,Array.getElem?_modify,hZ7]
 refine bodyPost_ret (results_cell_row rfl _ _ w.heap.size 318 _ _ _ rfl hfin Tryz.underlying318 rfl (by kernel_rfl)) rfl ?_;exact ⟨rfl,((hN7.setCell' (Nat.le_refl _) _).setCell' (Nat.le_refl _) _).setCell' (Nat.le_refl _) _⟩
theorem choose_walk (w:World) (A:Option Addr) (n c:Nat) (s1 s2 s3:Int) (t:Nat) (hS:Calls Tryz.prog 225 #[.slice A n c] w fun e w'=>e=.returned (.agg #[.int .i64 s1,.int .i64 s2,.int .i64 s3])∧Nw w w')
  (h1:0≤s1) (h2:0≤s2) (ht:pick3 s1 s2 s3=t) :
  Calls Tryz.prog 152 #[.slice A n c] w fun e w'=>e=.returned (.int .i64 (t:Int))∧Nw w w':=by
 have HS:=hid hS;have HT:=hid ht;have i0:∀ W,(Instr.index 318 (.agg #[.int .i64 s1,.int .i64 s2,.int .i64 s3]) (.int .i64 0)).run Tryz.prog W=.ok (.int .i64 s1) W:=fun _=>by kernel_rfl
 have i1:∀ W,(Instr.index 318 (.agg #[.int .i64 s1,.int .i64 s2,.int .i64 s3]) (.int .i64 1)).run Tryz.prog W=.ok (.int .i64 s2) W:=fun _=>by kernel_rfl
 have i2:∀ W,(Instr.index 318 (.agg #[.int .i64 s1,.int .i64 s2,.int .i64 s3]) (.int .i64 2)).run Tryz.prog W=.ok (.int .i64 s3) W:=fun _=>by kernel_rfl
 clear hS ht;by_cases c3:0≤s3<;>by_cases c21:s2 < s1<;>by_cases c31:s3 < s1<;>by_cases c32:s3 < s2
 all_goals
  first
  | (exfalso;omega)
  | (have hp:t=pick3 s1 s2 s3:=HT.out.symm
     unfold pick3 at hp;simp only [c3,c21,c31,c32,h2,and_self,and_true,and_false,if_true,if_false] at hp;subst hp;clear HT;go_enter Tryz.func152,Tryz.ntmps152
     go_wp2_with (go_at_call 225;refine HS.out.mono ?_;rintro e w1 ⟨rfl,hN1⟩)
     refine wp_loop_rounds 4 ?_;rw [rounds_succ];go_wp2_with fail;rw [rounds_succ];go_wp2_with fail;rw [rounds_succ];go_wp2_with fail;rw [rounds_succ];go_wp2_with fail;go_ret;exact ⟨rfl,hN1.alloc' _⟩)
theorem Choose_any (w:World) (b:Nat) (A:Option Addr) (n c:Nat) (l:List Nat) (hn:n=l.length) (hm:n≤10000) (hr:Rd w b A (cN .u64 l)) (hb:b < w.heap.size) (hx:∀ x∈l,x < 18446744073709551616) (hG:Gl w) :
  Calls Tryz.prog 152 #[.slice A n c] w fun e w'=>e=.returned (.int .i64 (tagOf l:Int))∧Nw w w' :=
 choose_walk w A n c _ _ _ _ (Sizes_any w b A n c l hn hm hr hb hx hG) (by omega) (by omega) rfl
end
section
open Go Go.RowKit Go.Sort
abbrev tsOf (zs:List (Int × Nat)):List Int:=zs.map Prod.fst
abbrev vsOf (zs:List (Int × Nat)):List Nat:=zs.map Prod.snd
theorem InS.t {zs:List (Int × Nat)} (h:InS zs):∀ x∈tsOf zs,I6 x:=by
 intro x hx;obtain ⟨z,hz,rfl⟩:=List.mem_map.1 hx;exact (h z hz).1
theorem InS.v {zs:List (Int × Nat)} (h:InS zs):∀ x∈vsOf zs,x < 18446744073709551616:=by
 intro x hx;obtain ⟨z,hz,rfl⟩:=List.mem_map.1 hx;exact (h z hz).2
theorem make_i64 (W:World) (n:Nat) (h:n≤1000):(Instr.makeSlice 233 (.int .i64 (n:Int)) (.int .i64 (n:Int))).run Tryz.prog W=.ok (.slice (some ⟨W.heap.size,0,none⟩) n n) (W.alloc (.cells (madeCells #[.int .i64 0] n) 2)):=by
 obtain ⟨i0,hi,hz0,hz1,hz2⟩:=E_i64.info;have:=run_make (P:=Tryz.prog) (w:=W) 233 2 i0 (.int .i64 0) Tryz.underlying233 hi hz0 .i64 .i64 n n (by omega) (by omega) (by rw [hz2];omega) (by omega);rw [hz1] at this;simpa [Value.cells] using this
theorem make_u64 (W:World) (n:Nat) (h:n≤1000):(Instr.makeSlice 236 (.int .i64 (n:Int)) (.int .i64 (n:Int))).run Tryz.prog W=.ok (.slice (some ⟨W.heap.size,0,none⟩) n n) (W.alloc (.cells (madeCells #[.int .u64 0] n) 106)):=by
 obtain ⟨i0,hi,hz0,hz1,hz2⟩:=E_u64.info;have:=run_make (P:=Tryz.prog) (w:=W) 236 106 i0 (.int .u64 0) Tryz.underlying236 hi hz0 .i64 .i64 n n (by omega) (by omega) (by rw [hz2];omega) (by omega);rw [hz1] at this;simpa [Value.cells] using this
theorem made_i64 (n:Nat):(madeCells #[Value.int .i64 0] n).toList=cI .i64 (List.replicate n 0):=by
 refine List.ext_getElem (by simp [madeCells]) fun j h1 h2=>?_
 simp [madeCells,Nat.mod_one]
theorem made_u64 (n:Nat):(madeCells #[Value.int .u64 0] n).toList=cN .u64 (List.replicate n 0):=by
 refine List.ext_getElem (by simp [madeCells]) fun j h1 h2=>?_
 simp [madeCells,Nat.mod_one]
def actE (A:Option Addr) (n c bt bv:Nat):Act:={ tmps:=#[.slice A n c,undef,.slice none 0 0,.int .i64 0,.int .i64 (n:Int),.slice (some ⟨bt,0,none⟩) n n,.slice (some ⟨bv,0,none⟩) n n,undef,undef,undef,undef,.slice A n c,.int .i64 (n:Int),.bool false,.int .i64 (n:Int),.bool false,.bool (decide ((120:Int) < (n:Int))),.int .i64 (n:Int),.bool (decide ((120:Int) < (n:Int))),.slice A n c,.int .i64 (n:Int),.slice (some ⟨bt,0,none⟩) n n,.slice A n c,.int .i64 (n:Int),.slice (some ⟨bv,0,none⟩) n n,undef,undef,undef,undef,undef,undef,undef,undef,undef,undef,undef,undef,undef,undef,undef,undef,undef,undef,undef,undef,undef,undef,undef,undef,undef,undef,undef,undef,undef,undef,undef,undef,undef,undef,undef,undef,undef,undef,undef,undef,undef,undef,undef,undef],defers:=[] }
theorem ow_made2 (w:World) (cs cs':Array Value) (e e':TypeId) (n:Nat) (h:cs.size=n) (h':cs'.size=n) (hn:n≤9223372036854775807) :
  Ow ((w.alloc (.cells cs e)).alloc (.cells cs' e')).drew w.heap.size e 1 (some ⟨w.heap.size,0,none⟩) n n cs.toList ∧
  Ow ((w.alloc (.cells cs e)).alloc (.cells cs' e')).drew (w.heap.size+1) e' 1 (some ⟨w.heap.size+1,0,none⟩) n n cs'.toList∧Nw w ((w.alloc (.cells cs e)).alloc (.cells cs' e')).drew ∧
  w.heap.size+1 < ((w.alloc (.cells cs e)).alloc (.cells cs' e')).drew.heap.size:=by
 have h1:=Ow.lit w e 1 n cs (by omega) hn;have h2:=Ow.lit (w.alloc (.cells cs e)) e' 1 n cs' (by omega) hn;have e1:(w.alloc (.cells cs e)).heap.size=w.heap.size+1:=by simp
 rw [e1] at h2;exact ⟨(h1.nw ((Nw.refl _).alloc' _)).nw (Nw.drewO _),h2.nw (Nw.drewO _),(((Nw.refl w).alloc' _).alloc' _).drewP,by simp⟩
theorem fill_next {α:Type} (ts:List α) (k n:Nat) (z:α) (hk:k < n) (h:k < ts.length):(ts.take k++List.replicate (n - k) z).set k ts[k]=ts.take (k+1)++List.replicate (n - (k+1)) z:=by
 have hl:(ts.take k).length=k:=by rw [List.length_take];omega
 rw [List.set_append_right _ _ (by omega),hl,Nat.sub_self,show n - k=(n - (k+1))+1 by omega,List.replicate_succ,List.set_cons_zero,List.take_succ_eq_append_getElem h,List.append_assoc];rfl
theorem cI_set (k:IntKind) (xs:List Int) (i:Nat) (x:Int):(cI k xs).set i (.int k x)=cI k (xs.set i x):=(List.map_set ..).symm
theorem cN_set (k:IntKind) (xs:List Nat) (i:Nat) (x:Nat):(cN k xs).set i (.int k (x:Int))=cN k (xs.set i x):=(List.map_set ..).symm
theorem putBits_small (l:List Nat) (h:l.length≤120) (hd:(dict l).length≤128):(putBits l).length≤20000:=by
 by_cases hl:l=[]
 ·subst hl;simp [putBits]
 ·rw [putBits_length l hl];have h7:=wd_le _ hd;have:wd (dict l).length*l.length≤7*120:=Nat.mul_le_mul h7 (by omega);omega
theorem vput_small (l:List Nat) (h:l.length≤120) (hx:∀ x∈l,x < 18446744073709551616):(vput (tagOf l) l).length≤20000:=by
 have h1:=tagOf_in l;unfold vput;split
 ·have:=xput_length_le l hx;omega
 ·split
  ·have:=rput_length l;have:=runs_length_le l;omega
  ·exact putBits_small l h (tagOf_dict l (by omega))
theorem cbits_small (ts:List Int) (vs:List Nat) (h:ts.length≤120) (h':vs.length≤120) (hx:∀ x∈vs,x < 18446744073709551616):(cbits ts vs).length≤1099511627776:=by
 have h1:=tput_length_le ts;have h2:=vput_small vs h' hx;unfold cbits;simp only [List.length_append,bitsOf_length];omega
def putF (t:Nat):FuncId:=if t=1 then 215 else if t=2 then 218 else 221
theorem vPut_any (t:Nat) (ht:1≤t∧t≤3) (w:World) (gw b0 bl:Nat) (A:Option Addr) (n c:Nat) (bs:List Bool) (l:List Nat) (hW:Wtr w gw b0 bs) (hne:bs≠[]) (hbs:bs.length≤1000000000) (hn:n=l.length) (hm:n≤10000) (hr:Rd w bl A (cN .u64 l)) (hbl:bl < w.heap.size)
  (hx:∀ x∈l,x < 18446744073709551616) (hG:Gl w) (hd:t=3→(dict l).length≤128) (h1:bl≠gw) (h2:bl≠b0) (e1:3≤gw) (e2:3≤b0) :
  Calls Tryz.prog (putF t) #[.pointer (some ⟨gw,0,none⟩),.slice A n c] w fun e w'=>e=.returned (.int .i64 0)∧∃ b',Wtr w' gw b' (bs++vput t l)∧(b'=b0∨w.heap.size≤b')∧Kp gw b0 w w':=by
 have:t=1∨t=2∨t=3:=by omega
 rcases this with rfl | rfl | rfl
 ·exact xPut_any w gw b0 bl A n c bs l hW hbs hn hm hr hbl hx hG h1 h2 e1 e2
 ·exact rPut_any w gw b0 bl A n c bs l hW hne hbs hn hm hr hbl hx h1 h2
 ·exact Put_all w gw b0 bl A n c bs l hn (by omega) hr hx hW h1 h2 hbs (fun _=>hbl) (hd rfl)
theorem Ow.cell1 {w:World} {b:Nat} {e:TypeId} {n c k:Nat} {p:Addr} {xs:List Value} (h:Ow w b e 1 (some p) n c xs) (hk:k < n):∃ u,w.cell? ⟨b,k,none⟩=some u∧w.frozen? ⟨b,k,none⟩=false:=by
 obtain ⟨_,_,h1,h2⟩:=h.at_ (j:=k) (by omega);rw [List.getElem?_eq_getElem (by have:=h.len;omega)] at h1;exact ⟨_,h1,h2⟩
set_option maxRecDepth 100000 in
set_option maxHeartbeats 4000000 in
theorem Encode_ok (w:World) (b:Nat) (A:Option Addr) (n c:Nat) (zs:List (Int × Nat)) (hn:n=zs.length) (h1:1≤n) (h120:n≤120) (hr:Rd w b A (cS zs)) (hx:InS zs) (hG:Gl w) :
  Calls Tryz.prog 106 #[.slice A n c] w fun e w'=>∃ b' A' c',e=.returned (.tuple #[.slice A' (pk (cbits (tsOf zs) (vsOf zs))).length c',.int .i64 0]) ∧
   Ow w' b' 5 1 A' (pk (cbits (tsOf zs) (vsOf zs))).length c' (cN .u8 (pk (cbits (tsOf zs) (vsOf zs))))∧w.heap.size≤b'∧Nw w w':=by
 have mkI:=fun W=>make_i64 W n (by omega)
 have mkU:=fun W=>make_u64 W n (by omega)
 have n0:((n:Int) == 0)=false:=by rw [beq_eq_false_iff_ne];omega
 have HR:=hid hr;have HX:=hid hx;have HG:=hid hG;have HN:=hid hn;clear hr hx hG hn;go_enter Tryz.func106,Tryz.ntmps106
 go_wp2_with fail;refine Code.wp_mono (Q:=fun e a W=>e=.normal∧∃ bt bv,a=actE A n c bt bv∧w.heap.size≤bt∧w.heap.size≤bv∧bt≠bv∧bt < W.heap.size∧bv < W.heap.size∧Ow W bt 2 1 (some ⟨bt,0,none⟩) n n (cI .i64 (List.replicate n 0)) ∧
   Ow W bv 106 1 (some ⟨bv,0,none⟩) n n (cN .u64 (List.replicate n 0))∧Nw w W) ?_ ?_
 ·rintro e a W1 ⟨rfl,bt,bv,rfl,hbt,hbv,hne,hlt,hlv,hOt,hOv,hN1⟩;unfold actE;clear mkI mkU;go_wp2_with fail;go_loopw [27] (fun i wr=>∃ k:Nat,k≤n∧i=.int .i64 k∧Ow wr bt 2 1 (some ⟨bt,0,none⟩) n n (cI .i64 ((tsOf zs).take k++List.replicate (n - k) 0))∧Ow wr bv 106 1 (some ⟨bv,0,none⟩) n n (cN .u64 ((vsOf zs).take k++List.replicate (n - k) 0))∧Nw w wr∧W1.heap.size≤wr.heap.size) (fun i _=>n - (intOf i).toNat)
  case atStart=>exact ⟨0,by omega,rfl,hOt,hOv,hN1,Nat.le_refl _⟩
  case round =>
   obtain ⟨k,hk,rfl,hT,hV,hN,hsz⟩:=hrel;by_cases hlk:k < n
   ·have hlz:k < zs.length:=by have:=HN.out;omega
    obtain ⟨o,rfl,hob,hc0⟩:=(HR.out.nw hN).get (k:=k*2) (by rw [cS_length];omega);obtain ⟨o',ho',_,hc1⟩:=(HR.out.nw hN).get (k:=k*2+1) (by rw [cS_length];omega);obtain ⟨g0,g1⟩:=cS_at zs k hlz;rw [(List.getElem_eq_iff _).2 g0] at hc0;rw [(List.getElem_eq_iff _).2 g1] at hc1;injection ho' with ho';injection ho' with _ ho';subst ho'
    rw [← Nat.add_assoc] at hc1;obtain ⟨ut,ct,ft⟩:=hT.cell1 hlk;obtain ⟨uv,cv,fv⟩:=hV.cell1 hlk;have HT:=hid hT;have HV:=hid hV;clear hT hV;have n8a:bt < wr.heap.size:=by omega
    have n8b:bv < wr.heap.size:=by omega
    have n8c:¬ bt=bv:=hne;have n8d:¬ bv=bt:=fun h=>hne h.symm
    go_wp2_with fail;go_region
    all_goals
     go_wp2_with fail;go_roundw
     case rel =>
      refine ⟨k+1,by omega,by go_num,?_,?_,(((hN.setCell' hbt _).setCell' hbv _).alloc' _).drewP,by simp [World.setCell];omega⟩
      ·have h:=HT.out.set_ k (.int .i64 zs[k].1);have hf:=fill_next (tsOf zs) k n 0 hlk (by simpa using hlz);rw [List.getElem_map] at hf;rw [cI_set,hf] at h;exact ((h.kp ((Kp.refl bv bv _).setCell' (.inl rfl) _) hne hne).nw ((Nw.refl _).alloc' _)).nw (Nw.drewO _)
      ·have h:=(HV.out.kp ((Kp.refl bt bt _).setCell' (p:=⟨bt,k,none⟩) (.inl rfl) (.int .i64 zs[k].1)) (Ne.symm hne) (Ne.symm hne)).set_ k (.int .u64 (zs[k].2:Int));have hf:=fill_next (vsOf zs) k n 0 hlk (by simpa using hlz);rw [List.getElem_map] at hf;rw [cN_set,hf] at h;exact (h.nw ((Nw.refl _).alloc' _)).nw (Nw.drewO _)
     case measure=>simp [intOf];omega
   ·obtain rfl:k=n:=by omega
    rw [Nat.sub_self,List.replicate_zero,List.append_nil,List.take_of_length_le (by simp [← HN.out])] at hT hV;have hvl:(vsOf zs).length=k:=by simp [← HN.out]
    have htl:(tsOf zs).length=k:=by simp [← HN.out]
    have HT:=hid hT;have HV:=hid hV;have HVL:=hid hvl;have HTL:=hid htl;have HCh:=hid (Choose_any wr bv _ k k (vsOf zs) hvl.symm (by omega) hV.rd (by omega) HX.out.v (HG.out.nw hN));have htag:=tagOf_in (vsOf zs);obtain ⟨t,ht⟩:∃ t,tagOf (vsOf zs)=t:=⟨_,rfl⟩;rw [ht] at htag HCh;have HTag:=hid ht;clear hT hV hvl htl ht;have hG2:=HG.out.lt;have hNs:=hN.size;go_wp2_with fail;refine HCh.out.mono ?_;rintro e w3 ⟨rfl,hN3⟩;have hs3:=hN3.size;clear HCh;have HNW:=hid (NewWriter_any w3);have hc8:t < 18446744073709551616:=by omega
    have ek:((k:Int) - 1)=((k - 1:Nat):Int):=by omega
    have EK:=hid ek;clear ek;have i0:∀ W,(Instr.index 243 (.agg encFs) (.int .i64 0)).run Tryz.prog W=.ok (.agg #[.func (.func 214) #[] #[],.func (.func 215) #[] #[],.func (.func 216) #[] #[]]) W:=fun _=>by kernel_rfl
    have i1:∀ W,(Instr.index 243 (.agg encFs) (.int .i64 1)).run Tryz.prog W=.ok (.agg #[.func (.func 217) #[] #[],.func (.func 218) #[] #[],.func (.func 219) #[] #[]]) W:=fun _=>by kernel_rfl
    have i2:∀ W,(Instr.index 243 (.agg encFs) (.int .i64 2)).run Tryz.prog W=.ok (.agg #[.func (.func 220) #[] #[],.func (.func 221) #[] #[],.func (.func 222) #[] #[]]) W:=fun _=>by kernel_rfl
    have fl0:∀ W,(Instr.field 242 (.agg #[.func (.func 214) #[] #[],.func (.func 215) #[] #[],.func (.func 216) #[] #[]]) 1).run Tryz.prog W=.ok (.func (.func 215) #[] #[]) W:=fun _=>by kernel_rfl
    have fl1:∀ W,(Instr.field 242 (.agg #[.func (.func 217) #[] #[],.func (.func 218) #[] #[],.func (.func 219) #[] #[]]) 1).run Tryz.prog W=.ok (.func (.func 218) #[] #[]) W:=fun _=>by kernel_rfl
    have fl2:∀ W,(Instr.field 242 (.agg #[.func (.func 220) #[] #[],.func (.func 221) #[] #[],.func (.func 222) #[] #[]]) 1).run Tryz.prog W=.ok (.func (.func 221) #[] #[]) W:=fun _=>by kernel_rfl
    rcases (show t=1∨t=2∨t=3 by omega) with rfl | rfl | rfl
    all_goals
     go_wp2_with fail;refine HNW.out.mono ?_;rintro e w4 ⟨g,rfl,hW4,hg4,hN4⟩;have hs4:=hN4.size;have hn4:=hN3.trans hN4;have H5:=hid (WBits_any w4 g g [] _ 8 hW4 (by omega) hc8 (by simp));clear hW4;go_wp2_with fail;refine H5.out.mono ?_;rintro e w5 ⟨rfl,b5,hW5,hb5,hK5⟩;rw [List.nil_append] at hW5;have hs5:=hK5.size;have hn5:Nw wr w5:=Kp.nw hn4 hK5 (by omega) (by omega);have H6:=hid (WBits_any w5 g b5 _ (k - 1) 8 hW5 (by omega) (by omega) (by simp [bitsOf_length]));clear hW5 H5 hK5;go_wp2_with fail;rw [EK.out];refine H6.out.mono ?_;rintro e w6 ⟨rfl,b6,hW6,hb6,hK6⟩;have hs6:=hK6.size;have hn6:Nw wr w6:=Kp.nw hn5 hK6 (by omega) (by omega);have H7:=hid (tPut_any w6 g b6 bt _ k k _ (tsOf zs) hW6 (by rw [List.length_append,bitsOf_length,bitsOf_length];omega) HTL.out.symm (by omega) (HT.out.nw hn6).rd (by omega) HX.out.t (HG.out.nw (hN.trans hn6)) (by omega) (by omega) (by omega) (by omega));clear hW6 H6 hK6;go_wp2_with fail;refine H7.out.mono ?_;rintro e w7 ⟨rfl,b7,hW7,hb7,hK7⟩;have hs7:=hK7.size;have hn7:Nw wr w7:=Kp.nw hn6 hK7 (by omega) (by omega);have htl:=tput_length_le (tsOf zs);rw [HTL.out] at htl;have HW7:=hid hW7;have H8:=hid (fun (W:World) (hN8:Nw w7 W)=>vPut_any _ (by omega) W g b7 bv _ k k _ (vsOf zs) (hW7.nw hN8) (by simp [bitsOf]) (by rw [List.length_append,List.length_append,bitsOf_length,bitsOf_length];omega) HVL.out.symm (by omega) ((HV.out.nw hn7).nw hN8).rd (by have:=hN8.size;omega) HX.out.v ((HG.out.nw (hN.trans hn7)).nw hN8)
      (fun h3=>tagOf_dict _ (HTag.out.trans h3)) (by omega) (by omega) (by omega) (by omega))
     clear hW7 H7 hK7;go_wp2_with (go_at_call 150;refine (encodings_any _).mono ?_;rintro e w8 ⟨rfl,hN8⟩)
     refine (H8.out _ hN8).mono ?_;rintro e w9 ⟨rfl,b9,hW9,hb9,hK9⟩;have hs8:=hN8.size;have hs9:=hK9.size;have hn9:Nw wr w9:=Kp.nw (hn7.trans hN8) hK9 (by omega) (by omega);rw [List.append_assoc,List.append_assoc,← HVL.out] at hW9;rw [show bitsOf _ 8++(bitsOf ((vsOf zs).length - 1) 8++(tput (tsOf zs)++vput _ (vsOf zs)))=cbits (tsOf zs) (vsOf zs) from by unfold cbits;rw [HTag.out]] at hW9;have H10:=hid (WBytes_any w9 g b9 _ hW9 (cbits_small (tsOf zs) (vsOf zs) (by rw [HTL.out];omega) (by rw [HVL.out];omega) HX.out.v));clear hW9 H8 hK9;go_wp2_with fail;refine H10.out.mono ?_;rintro e w10 ⟨b10,A10,c10,rfl,hO10,hb10,hN10⟩;have hs10:=hN10.size;go_wp2_with fail;go_ret2;exact ⟨b10,A10,c10,rfl,hO10,by omega,(hN.trans hn9).trans hN10⟩
 ·go_region
  ·obtain ⟨a1,a2,a3,a4⟩:=ow_made2 w (madeCells #[.int .i64 0] n) (madeCells #[.int .u64 0] n) 2 106 n (by simp [madeCells]) (by simp [madeCells]) (by omega);rw [made_i64] at a1;rw [made_u64] at a2;exact ⟨rfl,_,_,rfl,Nat.le_refl _,by omega,by omega,by omega,a4,a1,a2,a3⟩
  ·obtain ⟨a1,a2,a3,a4⟩:=ow_made2 w (madeCells #[.int .u64 0] n) (madeCells #[.int .i64 0] n) 106 2 n (by simp [madeCells]) (by simp [madeCells]) (by omega);rw [made_u64] at a1;rw [made_i64] at a2;exact ⟨rfl,_,_,rfl,by omega,Nat.le_refl _,by omega,a4,by omega,a2,a1,a3⟩
end
section
open Go Go.RowKit Go.Sort
theorem CloneS_any (w:World) (b:Nat) (A:Option Addr) (n c:Nat) (zs:List (Int × Nat)) (hn:n=zs.length) (hm:n*16≤140737488355328) (hr:Rd w b A (cS zs)) (hA:A=none→c=0) :
  Calls Tryz.prog 175 #[.slice A n c] w fun e w'=>∃ b' A' c',e=.returned (.slice A' n c')∧Ow w' b' 126 2 A' n c' (cS zs)∧w.heap.size≤b'∧Nw w w'∧n≤c':=by
 subst hn;cases A with
 | none =>
  obtain rfl:zs=[]:=by
   rcases hr with h | ⟨o,h,_⟩
   ·have:=congrArg List.length h;rw [cS_length] at this;exact List.eq_nil_of_length_eq_zero (by simp at this;omega)
   ·cases h
  obtain rfl:=hA rfl;have hnil:=fun W=>Lib.run_eql_slice_nil (P:=Tryz.prog) W 70 126 none 0 0 0 0 Tryz.underlying70
  go_enter Tryz.func175,Tryz.ntmps175
  go_wp2;go_ret;exact ⟨w.heap.size,none,0,rfl,Ow.nil _ _ _ _,Nat.le_refl _,Nw.refl w⟩
 | some ad =>
  have hnil:=fun W=>Lib.run_eql_slice_nil (P:=Tryz.prog) W 70 126 (some ad) zs.length c 0 0 Tryz.underlying70
  go_enter Tryz.func175,Tryz.ntmps175
  go_wp2_with (at_builtin;refine wpList_app E_smp rfl (.tmp 5) (.tmp 6) rfl rfl (Ow.empty w _ _) rfl (hr.nw (Nw.alloc' (Nw.refl w) _)) (by rw [cS_length];omega) (by intro h;cases h) (oc_S _) (by simp only [maxLen];omega) (by omega) ?_;intro b' A' c' w' h1 h2 h3 _)
  go_ret;rw [List.nil_append,Nat.zero_add] at h1;refine ⟨b',A',c',by simp,h1,?_,Kp.nw (Nw.alloc' (Nw.refl w) _) h3 (by simp) (by simp),h1.cap.1⟩;have:=(Nw.alloc' (Nw.refl w) (.cells #[] 126)).size;rcases h2 with h2 | h2<;>omega
end
end Go.Proofs.YticphebaflnedaaGreatDoor
