/- Laws that the last text builds on. -/
import Derived.Test.YtmmonehfnfbpbaaGreatDoorR5
import Derived.Test.YtmmonehfnfbpbaaGreatDoorChecked
namespace Go.Proofs.YtmmonehfnfbpbaaGreatDoor
open Go.Lib(hid)
section
open Go Go.RowKit
theorem gdict_more (m:Nat) (d:List Nat) (r:List Bool) (h:64≤r.length) (hb:badNext d (bv (r.take 64))=false):gdict (m+1) d r=gdict m (d++[bv (r.take 64)]) (r.drop 64):=by
 conv=>lhs;unfold gdict
 rw [if_neg (by omega),if_neg (by simp [hb])]
theorem gdict_bad (m:Nat) (d:List Nat) (r:List Bool) (h:64≤r.length) (hb:badNext d (bv (r.take 64))=true):gdict (m+1) d r=([],8,r.drop 64):=by
 conv=>lhs;unfold gdict
 rw [if_neg (by omega),if_pos hb]
theorem gdict_eof (m:Nat) (d:List Nat) (r:List Bool) (h:r.length < 64):gdict (m+1) d r=([],3,r):=by
 conv=>lhs;unfold gdict
 rw [if_pos h]
theorem bv64 (r:List Bool) (h:64≤r.length):bv (r.take 64) < 18446744073709551616:=by
 have:=bv_lt (r.take 64);rw [List.length_take,Nat.min_eq_left h] at this;simpa using this
theorem badNext_at (d:List Nat) (x:Nat) (h:0 < d.length):∃ y,d[d.length - 1]? = some y∧badNext d x=decide (x≤y):=by
 have e:d[d.length - 1]? = some (d[d.length - 1]'(by omega)):=List.getElem?_eq_getElem _;refine ⟨_,e,?_⟩;unfold badNext;rw [List.getLast?_eq_getElem?,e]
theorem Rdr.blt {w:World} {g b:Nat} {bytes:List Nat} {pos:Nat} (h:Rdr w g b bytes pos) (hb:bytes≠[]):b < w.heap.size:=by
 obtain ⟨A,c,_,hr⟩:=h.blk;rcases hr with hr | ⟨_,_,hr,_⟩
 ·exact absurd (by simpa using hr) hb
 ·exact hr
def gD (r:List Bool):List Nat × Nat × List Bool:=if r.length < 7 then ([],3,r) else gdict (bv (r.take 7)+1) [] (r.drop 7)
theorem getD_any (w:World) (g b:Nat) (bytes:List Nat) (pos:Nat) (h:Rdr w g b bytes pos) :
  Calls Tryz.prog 270 #[.pointer (some ⟨g,0,none⟩)] w fun e w' =>
   ∃ A c,e=.returned (.tuple #[.slice A (gD (rest bytes pos)).1.length c,.int .i64 ((gD (rest bytes pos)).2.1:Nat)])∧((gD (rest bytes pos)).2.1≠0→A=none∧c=0) ∧
    (∃ p,pos≤p∧rest bytes p=(gD (rest bytes pos)).2.2∧Rdr w' g b bytes p)∧(∃ b',Ow w' b' 97 1 A (gD (rest bytes pos)).1.length c (cN .u64 (gD (rest bytes pos)).1)∧w.heap.size≤b')∧Kp g g w w':=by
 have hlt:=h.lt;have hwi:=h.within;by_cases h7:(rest bytes pos).length < 7
 ·have HR:=hid (RBits_eof w g b bytes pos 7 h (by omega) (by rw [rest_length] at h7;omega));have HG:=hid (show gD (rest bytes pos)=([],3,rest bytes pos) from by unfold gD;rw [if_pos h7]);have HH:=hid h;clear h;go_enter Tryz.func270,Tryz.ntmps270
  go_wp2_with (go_at_call 197;refine HR.out.mono ?_;rintro e w1 ⟨rfl,hdr⟩)
  go_ret2;rw [HG.out];exact ⟨none,0,rfl,by simp,⟨pos,Nat.le_refl _,rfl,HH.out.nw hdr.nw⟩,⟨w.heap.size,Ow.nil _ _ _ _,Nat.le_refl _⟩,hdr.nw.kp _ _⟩
 ·have HR:=hid (RBits_ok w g b bytes pos 7 h (by omega) (by rw [rest_length] at h7;omega));have HG:=hid (show gD (rest bytes pos)=gdict (bv ((rest bytes pos).take 7)+1) [] (rest bytes (pos+7)) from by unfold gD;rw [if_neg h7,rest_drop]);have hk7:=bv_lt ((rest bytes pos).take 7);rw [List.length_take,Nat.min_eq_left (by omega)] at hk7;have hblt:=h.blt (by rintro rfl;simp [rest_length] at h7);generalize bv ((rest bytes pos).take 7)=K at *;have hK:K < 128:=hk7;have e1:IntKind.i64.wrap (K:Int)=(K:Int):=IntWalk.i64_in _ (by omega);clear hk7 h h7;go_enter Tryz.func270,Tryz.ntmps270
  go_wp2_with (go_at_call 197;refine HR.out.mono ?_;rintro e w1 ⟨rfl,hR1,hK1⟩)
  have hs1:=hK1.size;go_loopw [6,21] (fun s i wr=>∃ k:Nat,k≤K+1∧i=.int .i64 k∧∃ (d:List Nat) (bk:Nat) (Ak:Option Addr) (ck p:Nat),d.length=k∧s=.slice Ak k ck∧Ow wr bk 97 1 Ak k ck (cN .u64 d)∧w.heap.size≤bk∧pos≤p∧Rdr wr g b bytes p∧gD (rest bytes pos)=gdict (K+1 - k) d (rest bytes p)∧Kp g g w wr) (fun _ i _=>K+1 - (intOf i).toNat)
  case atStart=>exact ⟨0,by omega,rfl,[],w.heap.size,none,0,pos+7,rfl,rfl,Ow.nil _ _ _ _,Nat.le_refl _,by omega,hR1,by simpa using HG.out,hK1⟩
  case round =>
   obtain ⟨k,hk,rfl,d,bk,Ak,ck,p,hdk,rfl,hO,hbk,hp,hRp,hgd,hKk⟩:=hrel;have hsk:=hKk.size;by_cases hlt2:k < K+1
   ·have hs:K+1 - k=(K - k)+1:=by omega
    rw [hs] at hgd;by_cases h64:(rest bytes p).length < 64
    ·rw [gdict_eof _ _ _ h64] at hgd;have HGD:=hid hgd;have HQ:=hid (RBits_eof wr g b bytes p 64 hRp (by omega) (by rw [rest_length] at h64;omega));have HRP:=hid hRp;clear hgd hRp hO hR1;go_wp2_with (go_at_call 197;refine HQ.out.mono ?_;rintro e w2 ⟨rfl,hdr⟩)
     go_ret2;rw [HGD.out];exact ⟨none,0,rfl,by simp,⟨p,hp,rfl,HRP.out.nw hdr.nw⟩,⟨w.heap.size,Ow.nil _ _ _ _,Nat.le_refl _⟩,hKk.nw' hdr.nw⟩
    ·have HQ:=hid (RBits_ok wr g b bytes p 64 hRp (by omega) (by rw [rest_length] at h64;omega));have hx:=bv64 (rest bytes p) (by omega);by_cases hk0:k=0
     ·subst hk0;obtain rfl:=List.eq_nil_of_length_eq_zero hdk;rw [gdict_more _ _ _ (by omega) rfl] at hgd;generalize bv ((rest bytes p).take 64)=x at *;have HGD:=hid hgd;have HO:=hid hO;clear hgd hRp hO hR1;go_wp2_with (first
       | (go_at_call 197;refine HQ.out.mono ?_;rintro e w2 ⟨rfl,hR2,hK2⟩;have hO2:=HO.out.kp hK2 (by omega) (by omega))
       | (at_builtin;refine wpList_app1 E_u64 rfl (.tmp 45) (.tmp 47) rfl rfl hO2 rfl rfl (by omega) (by omega) ?_;intro b3 A3 c3 w3 h1 h2 h3 h4))
      go_roundw
      case rel =>
       have hs2:=hK2.size;have hg3:g < w2.heap.size:=by omega
       refine ⟨1,by omega,by go_num,[x],b3,A3,c3,p+64,rfl,rfl,h1,by omega,by omega,?_,?_,?_⟩
       ·exact hR2.kp h3 (by omega) (by omega) (by omega) (by omega)
       ·rw [HGD.out,rest_drop];rfl
       ·exact (hKk.trans hK2 (.inl rfl) (.inl rfl)).trans h3 (by omega) (by omega)
      case measure=>simp [intOf]
     ·obtain ⟨y,hy1,hy2⟩:=badNext_at d (bv ((rest bytes p).take 64)) (by omega);rw [hdk] at hy1;obtain ⟨rfl,hbw,hc,_⟩:=hO.at_ (j:=k - 1) (by omega);rw [List.getElem?_map,hy1,Option.map_some] at hc;have HC:=hid (show ∀ w2,Kp g g wr w2→w2.cell? ⟨bk,k - 1,none⟩=some (.int .u64 (y:Int)) from fun w2 hk2=>by rw [← hc];exact World.cell?_of_block (hk2.block bk hbw (by omega) (by omega)));have HO:=hid hO;clear hc hy1 hO hR1 hRp;by_cases hbad:badNext d (bv ((rest bytes p).take 64))=true
      ·rw [gdict_bad _ _ _ (by omega) hbad] at hgd;have HGD:=hid hgd;rw [hy2] at hbad;generalize bv ((rest bytes p).take 64)=x at *;have hbad':x≤y:=by simpa using hbad
       clear hbad hy2 hgd;go_wp2_with (go_at_call 197;refine HQ.out.mono ?_;rintro e w2 ⟨rfl,hR2,hK2⟩;have hc2:=HC.out _ hK2)
       go_ret2;rw [HGD.out];exact ⟨none,0,rfl,by simp,⟨p+64,by omega,by rw [rest_drop],hR2⟩,⟨w.heap.size,Ow.nil _ _ _ _,Nat.le_refl _⟩,hKk.trans hK2 (.inl rfl) (.inl rfl)⟩
      ·rw [gdict_more _ _ _ (by omega) (by simpa using hbad)] at hgd;have HGD:=hid hgd;rw [hy2] at hbad;generalize bv ((rest bytes p).take 64)=x at *;have hbad':¬ x≤y:=by simpa using hbad
       clear hbad hy2 hgd;go_wp2_with (first
        | (go_at_call 197;refine HQ.out.mono ?_;rintro e w2 ⟨rfl,hR2,hK2⟩;have hc2:=HC.out _ hK2;have hO2:=HO.out.kp hK2 (by omega) (by omega))
        | (at_builtin;refine wpList_app1 E_u64 rfl (.tmp 45) (.tmp 47) rfl rfl hO2 rfl rfl (by omega) (by omega) ?_;intro b3 A3 c3 w3 h1 h2 h3 h4))
       go_roundw
       case rel =>
        have hs2:=hK2.size;refine ⟨k+1,by omega,by go_num,d++[x],b3,A3,c3,p+64,by simp [hdk],rfl,by simpa using h1,by omega,by omega,?_,?_,?_⟩
        ·exact hR2.kp h3 (by omega) (by omega) (by omega) (by omega)
        ·rw [HGD.out,rest_drop];congr 1;omega
        ·exact (hKk.trans hK2 (.inl rfl) (.inl rfl)).trans h3 (by omega) (by omega)
       case measure=>simp [intOf];omega
   ·go_wp2_with fail;go_ret2;obtain rfl:k=K+1:=by omega
    rw [Nat.sub_self] at hgd;rw [hgd];unfold gdict;exact ⟨Ak,ck,by rw [hdk];rfl,by simp,⟨p,hp,rfl,hRp⟩,⟨bk,by rw [hdk];exact hO,hbk⟩,hKk⟩
end
section
open Go Go.RowKit Go.Maps
theorem asc_below (d:List Nat) (K:Nat) (h:d.Pairwise (· < ·)) (hb:∀ x∈d,x < K):d.length≤K:=by
 have hge:∀ (l:List Nat) (m:Nat),l.Pairwise (· < ·)→(∀ x∈l,m≤x∧x < K)→l.length+m≤K∨l=[]:=by
  intro l;induction l with
  | nil=>intro m _ _;exact .inr rfl
  | cons x t ih =>
   intro m hp hm;rw [List.pairwise_cons] at hp;have hx:=hm x (by simp);rcases ih (x+1) hp.2 (fun y hy=>⟨hp.1 y hy,(hm y (by simp [hy])).2⟩) with h | rfl
   ·left;simp;omega
   ·left;simp;omega
 rcases hge d 0 h (fun x hx=>⟨Nat.zero_le _,hb x hx⟩) with h | rfl
 ·omega
 ·simp
theorem ins_new (x:Nat) (d:List Nat) (h:x ∉ d):(ins x d).length=d.length+1:=by
 induction d with
 | nil=>rfl
 | cons y l ih =>
  rw [List.mem_cons,not_or] at h;unfold ins;split
  ·rfl
  ·rw [if_neg h.1,List.length_cons,ih h.2,List.length_cons]
theorem ins_old (x:Nat) (d:List Nat) (hd:d.Pairwise (· < ·)) (h:x∈d):(ins x d).length=d.length:=by rw [ins_of_mem d x hd h]
theorem size_sD (xs:List Nat):∀ k,k≤xs.length→Maps.size (sD (xs.take k))=(dict (xs.take k)).length:=by
 intro k;induction k with
 | zero=>intro _;rfl
 | succ k ih =>
  intro h;have hk:k < xs.length:=h;have ih:=ih (by omega);rw [List.take_succ_eq_append_getElem hk,dict_snoc];unfold sD;rw [List.map_append,List.map_cons,List.map_nil,setOf_snoc,size_put (tidy_setOf _ _ (sD_key _))];have hh:=has_sD (xs.take k) xs[k];by_cases hm:xs[k]∈xs.take k
  ·rw [if_pos (hh.2 hm),ins_old _ _ (dict_asc _) ((dict_mem _ _).2 hm)];exact ih
  ·rw [if_neg (fun h=>hm (hh.1 h)),ins_new _ _ (fun h=>hm ((dict_mem _ _).1 h))];exact congrArg (·+1) ih
theorem unused_iff (K:Nat) (is:List Nat) (hb:∀ x∈is,x < K):unused K is=decide (Maps.size (sD is) < K):=by
 have hs:=size_sD is is.length (Nat.le_refl _);rw [List.take_length] at hs;rw [hs];by_cases h:unused K is=true
 ·rw [h]
  symm
  rw [decide_eq_true_iff];unfold unused at h;rw [List.any_eq_true] at h;obtain ⟨j,hj,hc⟩:=h;have hjm:j ∉ is:=by simpa using hc
  have h1:=asc_below (ins j (dict is)) K (ins_asc _ _ (dict_asc _)) (fun x hx=>by
   rw [ins_mem] at hx;rcases hx with rfl | hx
   ·simpa using hj
   ·exact hb x ((dict_mem _ _).1 hx))
  rw [ins_new _ _ (fun h=>hjm ((dict_mem _ _).1 h))] at h1;omega
 ·have hn:∀ j,j < K→j∈is:=by
   intro j hj;refine Classical.byContradiction fun hc=>h ?_
   unfold unused;rw [List.any_eq_true];exact ⟨j,by simpa using hj,by simpa using hc⟩
  have he:dict is=List.range K:=asc_ext _ _ (dict_asc _) List.pairwise_lt_range (fun x=>by rw [dict_mem,List.mem_range];exact ⟨hb x,hn x⟩);rw [he,List.length_range];simp only [Bool.not_eq_true] at h;rw [h]
  symm
  rw [decide_eq_false_iff_not];omega
theorem gdict_length:∀ (m:Nat) (d:List Nat) (r:List Bool),(gdict m d r).2.1=0→(gdict m d r).1.length=d.length+m:=by
 intro m;induction m with
 | zero=>intro d r _;rfl
 | succ m ih =>
  intro d r h;unfold gdict at h ⊢;split at h
  ·simp at h
  ·split at h
   ·simp at h
   ·rename_i h1 h2
    rw [if_neg h1,if_neg h2,ih _ _ h];simp;omega
theorem gD_length (r:List Bool) (h:(gD r).2.1=0):0 < (gD r).1.length∧(gD r).1.length≤128:=by
 unfold gD at h ⊢;split at h
 ·simp at h
 ·rename_i h7
  rw [if_neg h7,gdict_length _ _ _ h];have:=bv_lt (r.take 7);rw [List.length_take,Nat.min_eq_left (by omega)] at this;simp;omega
theorem gidx_more (k m:Nat) (l:List Nat) (r:List Bool) (h:¬ r.length < wd k) (hb:¬ k≤bv (r.take (wd k))):gidx k (m+1) l r=gidx k m (l++[bv (r.take (wd k))]) (r.drop (wd k)):=by
 conv=>lhs;unfold gidx
 rw [if_neg h,if_neg hb]
theorem gidx_bad (k m:Nat) (l:List Nat) (r:List Bool) (h:¬ r.length < wd k) (hb:k≤bv (r.take (wd k))):gidx k (m+1) l r=([],8,r.drop (wd k)):=by
 conv=>lhs;unfold gidx
 rw [if_neg h,if_pos hb]
theorem gidx_eof (k m:Nat) (l:List Nat) (r:List Bool) (h:r.length < wd k):gidx k (m+1) l r=([],3,r):=by
 conv=>lhs;unfold gidx
 rw [if_pos h]
theorem getVals_eq (n:Nat) (r:List Bool) (hn:n≠0):getVals n r=if (gD r).2.1≠0 then ([],(gD r).2.1,(gD r).2.2) else
  if (gidx (gD r).1.length n [] (gD r).2.2).2.1≠0 then ([],(gidx (gD r).1.length n [] (gD r).2.2).2.1,(gidx (gD r).1.length n [] (gD r).2.2).2.2)
  else if unused (gD r).1.length (gidx (gD r).1.length n [] (gD r).2.2).1 then ([],8,(gidx (gD r).1.length n [] (gD r).2.2).2.2)
  else ((gidx (gD r).1.length n [] (gD r).2.2).1.map ((gD r).1.getD · 0),0,(gidx (gD r).1.length n [] (gD r).2.2).2.2):=by
 unfold getVals gD;rw [if_neg hn];by_cases h7:r.length < 7
 ·rw [if_pos h7,if_pos h7];simp
 ·rw [if_neg h7,if_neg h7]
end
section
open Go Go.RowKit Go.Maps
theorem Get_zero (w:World) (g:Nat):Calls Tryz.prog 207 #[.pointer (some ⟨g,0,none⟩),.int .i64 0] w fun e w'=>e=.returned (.tuple #[.slice none 0 0,.int .i64 0])∧w=w':=by
 have hnil:∀ W,(binOp .eql 219 (.pointer (some ⟨g,0,none⟩)) (.pointer none)).run Tryz.prog W=.ok (.bool false) W:=fun _=>by kernel_rfl
 go_enter Tryz.func207,Tryz.ntmps207
 go_wp2;go_ret2;exact ⟨rfl,rfl⟩
theorem cN_getD (D:List Nat) (x:Nat) (h:x < D.length):(cN .u64 D)[x]? = some (.int .u64 ((D.getD x 0:Nat):Int)):=by
 rw [List.getElem?_map,List.getElem?_eq_getElem h,List.getD_eq_getElem?_getD,List.getElem?_eq_getElem h];rfl
theorem bvw (r:List Bool) (k:Nat) (hk:k≤7) (h:¬ r.length < k):bv (r.take k) < 128:=by
 have h1:=bv_lt (r.take k);rw [List.length_take,Nat.min_eq_left (by omega)] at h1;have:=Nat.pow_le_pow_right (n:=2) (by omega) hk;omega
def GotV (w w':World) (g b:Nat) (bytes:List Nat) (pos:Nat) (e:Ending) (V:List Nat × Nat × List Bool):Prop :=
 ∃ A c,e=.returned (.tuple #[.slice A V.1.length c,.int .i64 (V.2.1:Nat)])∧(∃ p,pos≤p∧rest bytes p=V.2.2∧Rdr w' g b bytes p)∧(∃ b',Ow w' b' 97 1 A V.1.length c (cN .u64 V.1)∧w.heap.size≤b')∧Kp g g w w'
theorem GotV.fail {w w':World} {g b:Nat} {bytes:List Nat} {pos p:Nat} {V:List Nat × Nat × List Bool} {k:Nat} (hV:V=([],k,rest bytes p)) (hp:pos≤p) (hR:Rdr w' g b bytes p) (hK:Kp g g w w') :
  GotV w w' g b bytes pos (.returned (.tuple #[.slice none 0 0,.int .i64 (k:Int)])) V:=by
 subst hV;exact ⟨none,0,rfl,⟨p,hp,rfl,hR⟩,⟨w.heap.size,Ow.nil _ _ _ _,Nat.le_refl _⟩,hK⟩
theorem Get_any (w:World) (g b:Nat) (bytes:List Nat) (pos n:Nat) (h:Rdr w g b bytes pos) (hn:0 < n) (hm:n≤1000000) :
  Calls Tryz.prog 207 #[.pointer (some ⟨g,0,none⟩),.int .i64 (n:Int)] w fun e w'=>GotV w w' g b bytes pos e (getVals n (rest bytes pos)):=by
 have hlt:=h.lt;have hnil:∀ W,(binOp .eql 219 (.pointer (some ⟨g,0,none⟩)) (.pointer none)).run Tryz.prog W=.ok (.bool false) W:=fun _=>by kernel_rfl
 have hmm:=@run_makeMap Tryz.prog;have HG:=hid (getVals_eq n (rest bytes pos) (by omega));have HC:=hid (getD_any w g b bytes pos h);have HL:=hid (gD_length (rest bytes pos));have HBL:=hid (show (gD (rest bytes pos)).2.1=0→b < w.heap.size from fun hz=>h.blt (by rintro rfl;simp [gD,rest,up] at hz));generalize getVals n (rest bytes pos)=V at *;generalize gD (rest bytes pos)=D at *;obtain ⟨D,E,R⟩:=D;have hne:(n:Int)≠0:=by omega
 clear h;by_cases hE:E=0
 ·subst hE;obtain ⟨hK0,hK1⟩:=HL.out rfl;have hblt:b < w.heap.size:=HBL.out rfl;clear HBL;have hv:=HG.out;rw [if_neg (by simp)] at hv;have HV:=hid hv;clear hv HG HL;generalize hKd:D.length=K at *;have HKD:=hid hKd;clear hKd;have hw7:wd K≤7:=wd_le K hK1;have e1:IntKind.u64.wrap (K:Int)=(K:Int):=IntWalk.u64_in _ (by omega);go_enter Tryz.func207,Tryz.ntmps207
  go_wp2_with (go_at_call 270;refine HC.out.mono ?_;rintro e w1 ⟨AD,cD,rfl,hA,⟨p0,hp0,hr0,hR0⟩,⟨bd,hOD,hbd⟩,hK⟩;have hs1:=hK.size;have HR0:=hid hr0;clear hr0;have hbd2:bd < w1.heap.size:=hOD.lt hK0;clear hA)
  go_loopw [8,31] (fun s i wr=>∃ k:Nat,k≤n∧i=.int .i64 k∧∃ (is:List Nat) (bk:Nat) (Ak:Option Addr) (ck p:Nat),is.length=k∧(∀ x∈is,x < K)∧s=.slice Ak k ck∧Ow wr bk 97 1 Ak k ck (cN .u64 (is.map (D.getD · 0)))∧w1.heap.size < bk ∧
    wr.ownsMap Tryz.prog 97 (plainElem Tryz.prog 4) w1.heap.size k (sD is)∧pos≤p∧Rdr wr g b bytes p∧Ow wr bd 97 1 AD K cD (cN .u64 D)∧gidx K n [] R=gidx K (n - k) is (rest bytes p)∧Kp g g w wr) (fun _ i _=>n - (intOf i).toNat)
  case atStart =>
   have hnw:=Nw.alloc' (Nw.refl w1) (.map #[] 0);exact ⟨0,by omega,rfl,[],w1.heap.size+1,none,0,p0,rfl,by simp,rfl,Ow.nil _ _ _ _,by omega,World.ownsMap_made _ _ _ _,hp0,hR0.nw hnw,hOD.nw hnw,by rw [HR0.out];rfl,hK.nw' hnw⟩
  case round =>
   obtain ⟨k,hk,rfl,is,bk,Ak,ck,p,hisl,his,rfl,hO,hbk,hown,hp,hR,hOd,hgi,hKr⟩:=hrel;have hsr:=hKr.size;have HI:=hid his;have HIL:=hid hisl;clear his hisl;by_cases hlt2:k < n
   ·rw [show n - k=(n - k - 1)+1 from by omega] at hgi;obtain ⟨rfl,_⟩:=hOd.at_ (j:=0) (by omega);by_cases hf:(rest bytes p).length < wd K
    ·rw [gidx_eof _ _ _ _ hf] at hgi;have HGI:=hid hgi;have HQ:=hid (RBits_eof wr g b bytes p (wd K) hR (by omega) (by rw [rest_length] at hf;have:=hR.within;omega));have HRr:=hid hR;clear hgi hR hf hO hOd hOD;go_wp2_with (first
      | (go_at_call 268;refine (Width_any _ _ (by omega) (by omega)).mono ?_;rintro e w3 ⟨rfl,hw3⟩;simp only [Int.toNat_natCast];subst hw3)
      | (go_at_call 197;refine HQ.out.mono ?_;rintro e w2 ⟨rfl,hdr⟩))
     go_ret2;have hv:=HV.out;rw [HGI.out,if_pos (by simp)] at hv;exact GotV.fail hv hp (HRr.out.nw hdr.nw) (hKr.nw' hdr.nw)
    ·have HQ:=hid (RBits_ok wr g b bytes p (wd K) hR (by omega) (by rw [rest_length] at hf;have:=hR.within;omega));have hx7:=bvw _ _ hw7 hf;by_cases hbad:K≤bv ((rest bytes p).take (wd K))
     ·rw [gidx_bad _ _ _ _ hf hbad,rest_drop] at hgi;generalize bv ((rest bytes p).take (wd K))=x at *;have HGI:=hid hgi;clear hgi hR hf hO hOd hOD;go_wp2_with (first
       | (go_at_call 268;refine (Width_any _ _ (by omega) (by omega)).mono ?_;rintro e w3 ⟨rfl,hw3⟩;simp only [Int.toNat_natCast];subst hw3)
       | (go_at_call 197;refine HQ.out.mono ?_;rintro e w2 ⟨rfl,hR2,hK2⟩))
      go_ret2;have hv:=HV.out;rw [HGI.out,if_pos (by simp)] at hv;exact GotV.fail hv (by omega) hR2 (hKr.trans hK2 (.inl rfl) (.inl rfl))
     ·rw [gidx_more _ _ _ _ hf hbad,rest_drop] at hgi;generalize bv ((rest bytes p).take (wd K))=x at *;have HGI:=hid hgi;have HO:=hid hO;have HOd:=hid hOd;have hown0:=hid hown;have HKEY:=hid (show keyOf Tryz.prog 97 (.int .u64 (x:Int))=some (ky x) from keyOf_int_mk Tryz.underlying97 (wfU _ (by omega)));have HCD:=hid (cN_getD D x (by rw [HKD.out];omega));generalize hy:D.getD x 0=y at *;have HY:=hid hy;clear hgi hR hf hO hOd hOD hown hy;go_wp2_with (first
       | (go_at_call 268;refine (Width_any _ _ (by omega) (by omega)).mono ?_;rintro e w3 ⟨rfl,hw3⟩;simp only [Int.toNat_natCast];subst hw3)
       | (go_at_call 197;refine HQ.out.mono ?_;rintro e w2 ⟨rfl,hR2,hK2⟩;have hown2:=hown0.out.kept hK2.gb (by intro e;injection e;omega);have hO2:=HO.out.kp hK2 (by omega) (by omega);have hOd2:=HOd.out.kp hK2 (by omega) (by omega);have HOO:=hid (And.intro hown2 (And.intro hO2 hOd2));clear hown2 hO2 hOd2)
       | (at_mapUpdate;refine wpList_mapUpdate_own _ rfl _ _ _ 373 rfl 97 4 lawU Tryz.underlying373 (plainElem (H:=Unit) Tryz.prog 4) w1.heap.size k _ rfl HOO.out.1 (by unfold maxLen;omega) _ _ _ rfl rfl HKEY.out _ [] (plainElem_bool Tryz.underlying4 true) ?_;intro w3 hown3 hgrow3;have hK3:Kp w1.heap.size w1.heap.size w2 w3:=(Kp.refl _ _ w2).grown hgrow3 (fun j hj=>by cases hj;exact .inl rfl);have hO3:=HOO.out.2.1.kp hK3 (by omega) (by omega);have hOd3:=HOO.out.2.2.kp hK3 (by omega) (by omega);obtain ⟨_,_,hcell,_⟩:=hOd3.at_ (j:=x) (by omega);rw [HCD.out] at hcell;have HO3:=hid (And.intro hO3 hown3);clear hO3 hown3 hOd3 hgrow3)
       | (at_builtin;refine wpList_app1 E_u64 rfl (.tmp 53) (.tmp 58) rfl rfl HO3.out.1 rfl rfl (by omega) (by omega) ?_;intro b4 A4 c4 w4 h1 h2 h3 h4))
      go_roundw
      case rel =>
       have hs2:=hK2.size;have hs3:=hK3.size;have hml:=hown0.out.lt;refine ⟨k+1,by omega,by go_num,is++[x],b4,A4,c4,p+wd K,by simp [HIL.out],?_,rfl,?_,by omega,?_,by omega,(hR2.kp hK3 (by omega) (by omega) (by omega) (by omega)).kp h3 (by omega) (by omega) (by omega) (by omega),(HOO.out.2.2.kp hK3 (by omega) (by omega)).kp h3 (by omega) (by omega),?_,((hKr.trans hK2 (.inl rfl) (.inl rfl)).trans hK3 (by omega) (by omega)).trans h3 (by omega) (by omega)⟩
       ·intro z hz;rw [List.mem_append] at hz;rcases hz with hz | hz
        ·exact HI.out z hz
        ·simp at hz;omega
       ·rw [List.map_append,List.map_cons,List.map_nil,HY.out];simpa using h1
       ·unfold sD;rw [List.map_append,List.map_cons,List.map_nil,setOf_snoc];exact HO3.out.2.kept h3.gb (by intro e;injection e;omega)
       ·rw [HGI.out];congr 1
      case measure=>simp [intOf];omega
   ·obtain rfl:k=n:=by omega
    rw [Nat.sub_self] at hgi;have hv:=HV.out;rw [hgi] at hv;have hu:=unused_iff K is HI.out;have hv2:V=if unused K is then ([],8,rest bytes p) else (is.map (D.getD · 0),0,rest bytes p):=by
     rw [hv];unfold gidx;rw [if_neg (by simp)]
    rw [hu] at hv2;generalize hsz:Maps.size (sD is)=sz at *;have HSZ:=hid hsz;have HV2:=hid hv2;clear hv hv2 hgi hu hsz;by_cases hlts:sz < K
    ·go_wp2_with (first
      | (at_len;refine wpList_len_own _ rfl _ 373 rfl 97 4 Tryz.underlying373 _ w1.heap.size _ _ rfl hown ?_;rw [HSZ.out])
      | go_in)
     go_ret2;have hv:=HV2.out;rw [decide_eq_true hlts,if_pos rfl] at hv;exact GotV.fail hv hp hR hKr
    ·go_wp2_with (first
      | (at_len;refine wpList_len_own _ rfl _ 373 rfl 97 4 Tryz.underlying373 _ w1.heap.size _ _ rfl hown ?_;rw [HSZ.out])
      | go_in)
     go_ret2;have hv:=HV2.out;rw [decide_eq_false hlts,if_neg (by simp)] at hv;have hlen:(is.map (D.getD · 0)).length=k:=by rw [List.length_map];exact HIL.out
     rw [hv];exact ⟨Ak,ck,by rw [hlen];rfl,⟨p,hp,rfl,hR⟩,⟨bk,by rw [hlen];exact hO,by omega⟩,hKr⟩
 ·have hE2:((E:Int) == 0)=false:=by rw [beq_eq_false_iff_ne];omega
  go_enter Tryz.func207,Tryz.ntmps207
  go_wp2_with (go_at_call 270;refine HC.out.mono ?_;rintro e w1 ⟨A,c,rfl,hA,hp,hO,hK⟩)
  go_ret2;have hv:=HG.out;rw [if_pos hE] at hv;obtain ⟨p,hp1,hp2,hp3⟩:=hp;exact GotV.fail (by rw [hv,hp2]) hp1 hp3 hK
end
section
open Go
theorem badNext_asc (d:List Nat) (x:Nat) (hd:d.Pairwise (· < ·)) (h:badNext d x=false):(d++[x]).Pairwise (· < ·):=by
 rw [List.pairwise_append];refine ⟨hd,by simp,fun a ha b hb=>?_⟩;obtain rfl:b=x:=by simpa using hb
 unfold badNext at h;obtain ⟨l,y,rfl⟩:∃ l y,d=l++[y]:=by
  rcases List.eq_nil_or_concat d with rfl | ⟨l,y,rfl⟩
  ·cases ha
  ·exact ⟨l,y,by simp⟩
 simp at h;rw [List.pairwise_append] at hd;rw [List.mem_append] at ha;rcases ha with ha | ha
 ·have:=hd.2.2 a ha y (by simp);omega
 ·obtain rfl:a=y:=by simpa using ha
  omega
theorem flatMap_map' {α β γ:Type} (f:α→β) (g:β→List γ) (l:List α):(l.map f).flatMap g=l.flatMap (fun x=>g (f x)):=by
 induction l with
 | nil=>rfl
 | cons x l ih=>simp [ih]
theorem flatMap_congr' {α γ:Type} (f g:α→List γ) (l:List α) (h:∀ x∈l,f x=g x):l.flatMap f=l.flatMap g:=by
 induction l with
 | nil=>rfl
 | cons x l ih=>rw [List.flatMap_cons,List.flatMap_cons,h x (by simp),ih fun y hy=>h y (by simp [hy])]
theorem idxOf_getD (D:List Nat) (x:Nat) (h:x∈D):D.getD (D.idxOf x) 0=x:=by
 have hl:=List.idxOf_lt_length_of_mem h;rw [List.getD_eq_getElem?_getD,List.getElem?_eq_getElem hl];simp
theorem idxOf_at (D:List Nat) (hd:D.Pairwise (· < ·)) (i:Nat) (h:i < D.length):D.idxOf (D.getD i 0)=i:=by
 have e:D.getD i 0=D[i]:=by rw [List.getD_eq_getElem?_getD,List.getElem?_eq_getElem h];rfl
 rw [e];have hl:=List.idxOf_lt_length_of_mem (List.getElem_mem h);have hg:D[D.idxOf D[i]]=D[i]:=by simp
 rcases Nat.lt_trichotomy (D.idxOf D[i]) i with hlt | heq | hgt
 ·have:=(List.pairwise_iff_getElem.1 hd) _ _ hl h hlt;omega
 ·exact heq
 ·have:=(List.pairwise_iff_getElem.1 hd) _ _ h hl hgt;omega
theorem unused_false (k:Nat) (l:List Nat):unused k l=false↔∀ j,j < k→j∈l:=by
 unfold unused;rw [List.any_eq_false];constructor
 ·intro h j hj;have:=h j (List.mem_range.2 hj);simpa using this
 ·intro h j hj;have:=h j (List.mem_range.1 hj);simpa using this
theorem gdict_inv:∀ (m:Nat) (d:List Nat) (r:List Bool),d.Pairwise (· < ·)→(gdict m d r).2.1=0 →
  ∃ e,(gdict m d r).1=d++e∧e.length=m∧(d++e).Pairwise (· < ·)∧(∀ x∈e,x < 18446744073709551616)∧r=e.flatMap (bitsOf · 64)++(gdict m d r).2.2:=by
 intro m;induction m with
 | zero=>intro d r hd _;exact ⟨[],by simp [gdict],rfl,by simpa using hd,by simp,by simp [gdict]⟩
 | succ m ih =>
  intro d r hd h;by_cases h64:r.length < 64
  ·rw [gdict_eof m d r h64] at h;simp at h
  ·by_cases hb:badNext d (bv (r.take 64))=true
   ·rw [gdict_bad m d r (by omega) hb] at h;simp at h
   ·have hb':badNext d (bv (r.take 64))=false:=by simpa using hb
    have hbits:bitsOf (bv (r.take 64)) 64=r.take 64:=by
     have:=bitsOf_bv (r.take 64)
     rwa [List.length_take,Nat.min_eq_left (by omega)] at this
    rw [gdict_more m d r (by omega) hb'] at h ⊢;obtain ⟨e,h1,h2,h3,h4,h5⟩:=ih (d++[bv (r.take 64)]) (r.drop 64) (badNext_asc d _ hd hb') h;refine ⟨bv (r.take 64)::e,by rw [h1];simp,by simp [h2],by simpa using h3,?_,?_⟩
    ·intro x hx;rw [List.mem_cons] at hx;rcases hx with rfl | hx
     ·exact bv64 r (by omega)
     ·exact h4 x hx
    ·rw [List.flatMap_cons,hbits,List.append_assoc,← h5,List.take_append_drop]
theorem gidx_inv (k:Nat):∀ (m:Nat) (l:List Nat) (r:List Bool),(gidx k m l r).2.1=0 →
  ∃ is,(gidx k m l r).1=l++is∧is.length=m∧(∀ x∈is,x < k)∧r=is.flatMap (bitsOf · (wd k))++(gidx k m l r).2.2:=by
 intro m;induction m with
 | zero=>intro l r _;exact ⟨[],by simp [gidx],rfl,by simp,by simp [gidx]⟩
 | succ m ih =>
  intro l r h;by_cases hf:r.length < wd k
  ·rw [gidx_eof k m l r hf] at h;simp at h
  ·by_cases hb:k≤bv (r.take (wd k))
   ·rw [gidx_bad k m l r hf hb] at h;simp at h
   ·have hbits:bitsOf (bv (r.take (wd k))) (wd k)=r.take (wd k):=by
     have:=bitsOf_bv (r.take (wd k))
     rwa [List.length_take,Nat.min_eq_left (by omega)] at this
    rw [gidx_more k m l r hf hb] at h ⊢;obtain ⟨is,h1,h2,h3,h4⟩:=ih _ _ h;refine ⟨bv (r.take (wd k))::is,by rw [h1];simp,by simp [h2],?_,?_⟩
    ·intro x hx;rw [List.mem_cons] at hx;rcases hx with rfl | hx
     ·omega
     ·exact h3 x hx
    ·rw [List.flatMap_cons,hbits,List.append_assoc,← h4,List.take_append_drop]
theorem getVals_inv (n:Nat) (r:List Bool) (hn:n≠0) (h:(getVals n r).2.1=0) :
  (getVals n r).1.length=n∧(dict (getVals n r).1).length≤128∧(∀ x∈(getVals n r).1,x < 18446744073709551616)∧r=putBits (getVals n r).1++(getVals n r).2.2:=by
 rw [getVals_eq n r hn] at h ⊢;by_cases hg:(gD r).2.1≠0
 ·rw [if_pos hg] at h;exact absurd h hg
 ·rw [if_neg hg] at h ⊢;have hg0:(gD r).2.1=0:=by simpa using hg
  obtain ⟨hK0,hK1⟩:=gD_length r hg0;have h7:¬ r.length < 7:=by intro h7;unfold gD at hg0;rw [if_pos h7] at hg0;simp at hg0
  have hGe:gD r=gdict (bv (r.take 7)+1) [] (r.drop 7):=by unfold gD;rw [if_neg h7]
  obtain ⟨D,hD1,hD2,hD3,hD4,hD5⟩:=gdict_inv (bv (r.take 7)+1) [] (r.drop 7) List.Pairwise.nil (by rw [← hGe];exact hg0);rw [← hGe,List.nil_append] at hD1;rw [List.nil_append] at hD3;rw [← hGe] at hD5;rw [hD1] at h hK0 hK1 ⊢;generalize (gD r).2.2=R at *;by_cases hi:(gidx D.length n [] R).2.1≠0
  ·rw [if_pos hi] at h;exact absurd h hi
  ·rw [if_neg hi] at h ⊢;obtain ⟨is,hI1,hI2,hI3,hI4⟩:=gidx_inv D.length n [] R (by simpa using hi);rw [List.nil_append] at hI1;rw [hI1] at h ⊢;generalize (gidx D.length n [] R).2.2=S at *;by_cases hu:unused D.length is=true
   ·rw [if_pos hu] at h;simp at h
   ·rw [if_neg hu];have hu':=(unused_false D.length is).1 (by simpa using hu);have hmem:∀ i∈is,D.getD i 0∈D:=by
     intro i hi1;rw [List.getD_eq_getElem?_getD,List.getElem?_eq_getElem (hI3 i hi1)];exact List.getElem_mem _
    have hdict:D=dict (is.map (D.getD · 0)):=by
     refine dict_eq _ _ hD3 fun x=>?_
     constructor
     ·intro hx;exact List.mem_map.2 ⟨D.idxOf x,hu' _ (List.idxOf_lt_length_of_mem hx),idxOf_getD D x hx⟩
     ·intro hx;obtain ⟨i,hi1,rfl⟩:=List.mem_map.1 hx;exact hmem i hi1
    have hbits7:bitsOf (D.length - 1) 7=r.take 7:=by
     have:=bitsOf_bv (r.take 7);rw [List.length_take,Nat.min_eq_left (by omega)] at this;rw [hD2,Nat.add_sub_cancel];exact this
    have hfl:(is.map (D.getD · 0)).flatMap (fun x=>bitsOf (D.idxOf x) (wd D.length))=is.flatMap (bitsOf · (wd D.length)):=by
     rw [flatMap_map'];exact flatMap_congr' _ _ _ fun i hi1=>by rw [idxOf_at D hD3 i (hI3 i hi1)]
    refine ⟨by simp [hI2],by rw [← hdict];exact hK1,?_,?_⟩
    ·intro x hx;obtain ⟨i,hi1,rfl⟩:=List.mem_map.1 hx;exact hD4 _ (hmem i hi1)
    ·have hne:is.map (D.getD · 0)≠[]:=by
      intro e;have:is.length=0:=by simpa using congrArg List.length e
      omega
     unfold putBits;rw [if_neg hne,← hdict,hfl,hbits7,List.append_assoc,List.append_assoc,← hI4,← hD5,List.take_append_drop]
end
section
open Go Go.RowKit
def szOf (l:List Nat):Int:=if 128 < (dict l).length then -1 else if (dict l).length=0 then 0 else 7+(dict l).length*64+l.length*wd (dict l).length
theorem szOf_at (l:List Nat) (k:Nat) (h:(dict l).length=k):szOf l=if 128 < k then -1 else if k=0 then 0 else 7+(k:Int)*64+(l.length:Int)*(wd k:Int):=by subst h;rfl
theorem Size_any (w:World) (b:Nat) (A:Option Addr) (n c:Nat) (l:List Nat) (hn:n=l.length) (hm:n≤1000000) (hr:Rd w b A (cN .u64 l)) (hx:∀ x∈l,x < 18446744073709551616) :
  Calls Tryz.prog 205 #[.slice A n c] w fun e w'=>e=.returned (.int .i64 (szOf l))∧Nw w w':=by
 subst hn;have hdl:=dict_length l;have HD:=hid (Dictionary_any w b A l.length c l rfl (by omega) hr hx);have HW:=hid (wd_le (dict l).length);clear hx hr;generalize hd:(dict l).length=k at *;have HS:=hid (szOf_at l k hd);clear hd;by_cases h1:128 < k
 ·go_enter Tryz.func205,Tryz.ntmps205
  go_wp2_with (go_at_call 267;refine HD.out.mono ?_;rintro e w1 ⟨b1,c1,rfl,hO,hge,hN⟩)
  go_ret;have h:=HS.out;rw [if_pos h1] at h;exact ⟨by rw [h];rfl,hN⟩
 ·by_cases h0:k=0
  ·go_enter Tryz.func205,Tryz.ntmps205
   go_wp2_with (go_at_call 267;refine HD.out.mono ?_;rintro e w1 ⟨b1,c1,rfl,hO,hge,hN⟩)
   go_ret;have h:=HS.out;rw [if_neg h1,if_pos h0] at h;exact ⟨by rw [h];rfl,hN⟩
  ·have hw:=HW.out (by omega);have hmul:l.length*wd k≤l.length*7:=Nat.mul_le_mul_left _ hw;have HM:=hid (show ((l.length*wd k:Nat):Int)=(l.length:Int)*(wd k:Int) from by simp);generalize hv:wd k=v at *;generalize hp:l.length*v=p at *;have HV:=hid hv;have HP:=hid hp;clear hv hp;have e1:(l.length:Int)*(v:Int)=(p:Int):=HM.out.symm;go_enter Tryz.func205,Tryz.ntmps205
   go_wp2_with (first
    | (go_at_call 267;refine HD.out.mono ?_;rintro e w1 ⟨b1,c1,rfl,hO,hge,hN⟩)
    | (go_at_call 268;refine (Width_any _ _ (by omega) (by omega)).mono ?_;rintro e w2 ⟨rfl,hw2⟩;simp only [Int.toNat_natCast,HV.out];subst hw2))
   go_ret;have h:=HS.out;rw [if_neg h1,if_neg h0] at h;refine ⟨?_,hN⟩;rw [h,e1];rfl
end
section
open Go Go.RowKit
theorem getVals_zero (r:List Bool):getVals 0 r=([],0,r):=by simp [getVals]
theorem Get_nat (w:World) (g b:Nat) (bytes:List Nat) (pos n:Nat) (h:Rdr w g b bytes pos) (hm:n≤1000000) :
  Calls Tryz.prog 207 #[.pointer (some ⟨g,0,none⟩),.int .i64 (n:Int)] w fun e w'=>GotV w w' g b bytes pos e (getVals n (rest bytes pos)):=by
 by_cases hn:n=0
 ·subst hn;refine (Get_zero w g).mono ?_;rintro e w' ⟨rfl,rfl⟩;exact GotV.fail (getVals_zero _) (Nat.le_refl _) h (Kp.refl _ _ _)
 ·exact Get_any w g b bytes pos n h (by omega) hm
theorem Nw.drew1 (w:World):Nw w w.drew:=⟨rfl,rfl,rfl,Nat.le_refl _,fun _ _=>rfl⟩
end
section
open Go
def runF (v c:Nat):List Nat→List (Nat × Nat)
 | []=>[(v,c)]
 | x::l=>if x=v∧c < 128 then runF v (c+1) l else (v,c)::runF x 1 l
def runs:List Nat→List (Nat × Nat)
 | []=>[]
 | v::l=>runF v 1 l
def unrun (rs:List (Nat × Nat)):List Nat:=rs.flatMap fun r=>List.replicate r.2 r.1
def rbits (r:Nat × Nat):List Bool:=bitsOf r.1 64++bitsOf (r.2 - 1) 7
def rput (l:List Nat):List Bool:=(runs l).flatMap rbits
def rgetF:Nat→Nat→Nat→Nat→List Bool→Except Nat (List (Nat × Nat) × List Bool)
 | 0,_,_,_,_=>.error 0
 | f+1,n,v,c,bs =>
  if n=0 then .ok ([],bs)
  else if bs.length < 71 then .error 3
  else if n < bv ((bs.drop 64).take 7)+1∨(bv (bs.take 64)=v∧c < 128) then .error 8
  else match rgetF f (n - (bv ((bs.drop 64).take 7)+1)) (bv (bs.take 64)) (bv ((bs.drop 64).take 7)+1) (bs.drop 71) with
   | .error e=>.error e
   | .ok (l,r)=>.ok ((bv (bs.take 64),bv ((bs.drop 64).take 7)+1)::l,r)
def rgetR (n:Nat) (bs:List Bool):Except Nat (List (Nat × Nat) × List Bool):=rgetF (n+1) n 0 128 bs
def rget (n:Nat) (bs:List Bool):Except Nat (List Nat × List Bool) :=
 match rgetR n bs with
 | .error e=>.error e
 | .ok (l,r)=>.ok (unrun l,r)
def RunsOk:Nat→Nat→List (Nat × Nat)→Prop
 | _,_,[]=>True
 | v,c,(x,k)::l=>1≤k∧k≤128∧¬ (x=v∧c < 128)∧RunsOk x k l
def total (rs:List (Nat × Nat)):Nat:=(rs.map (·.2)).sum
theorem unrun_length (rs:List (Nat × Nat)):(unrun rs).length=total rs:=by
 induction rs with
 | nil=>rfl
 | cons r rs ih=>simp [unrun,total,List.flatMap_cons] at *;try omega
theorem runF_same:∀ (k:Nat) (v c:Nat) (l:List Nat),c+k≤128→runF v c (List.replicate k v++l)=runF v (c+k) l:=by
 intro k;induction k with
 | zero=>intro v c l _;rfl
 | succ k ih =>
  intro v c l h;rw [List.replicate_succ,List.cons_append,runF,if_pos ⟨rfl,by omega⟩,ih v (c+1) l (by omega)];congr 1;omega
theorem runF_of_ok:∀ (rs:List (Nat × Nat)) (v c:Nat),RunsOk v c rs→runF v c (unrun rs)=(v,c)::rs:=by
 intro rs;induction rs with
 | nil=>intro v c _;rfl
 | cons r rs ih =>
  obtain ⟨x,k⟩:=r;intro v c h;obtain ⟨h1,h2,h3,h4⟩:=h;obtain ⟨j,rfl⟩:∃ j,k=j+1:=⟨k - 1,by omega⟩;rw [show unrun ((x,j+1)::rs)=x::(List.replicate j x++unrun rs) from by simp [unrun,List.flatMap_cons,List.replicate_succ],runF,if_neg h3,runF_same j x 1 _ (by omega),Nat.add_comm 1 j,ih x (j+1) h4]
theorem runs_of_ok (rs:List (Nat × Nat)) (h:RunsOk 0 128 rs):runs (unrun rs)=rs:=by
 cases rs with
 | nil=>rfl
 | cons r rs =>
  obtain ⟨x,k⟩:=r;obtain ⟨h1,h2,h3,h4⟩:=h;obtain ⟨j,rfl⟩:∃ j,k=j+1:=⟨k - 1,by omega⟩;rw [show unrun ((x,j+1)::rs)=x::(List.replicate j x++unrun rs) from by simp [unrun,List.flatMap_cons,List.replicate_succ]];simp only [runs];rw [runF_same j x 1 _ (by omega),Nat.add_comm 1 j,runF_of_ok rs x (j+1) h4]
theorem rbits_length (r:Nat × Nat):(rbits r).length=71:=by simp [rbits,bitsOf_length]
theorem rgetF_inv:∀ (f n v c:Nat) (bs r:List Bool) (rs:List (Nat × Nat)),rgetF f n v c bs=.ok (rs,r)→RunsOk v c rs∧total rs=n∧(∀ x∈rs,x.1 < 18446744073709551616)∧bs=rs.flatMap rbits++r:=by
 intro f;induction f with
 | zero=>intro n v c bs r rs h;cases h
 | succ f ih =>
  intro n v c bs r rs h;unfold rgetF at h;split at h
  ·rename_i h0
   cases h;exact ⟨trivial,by simp [total,h0],by simp,rfl⟩
  ·split at h
   ·cases h
   ·rename_i hlen
    obtain ⟨g1,g2⟩:=bits_take (r:=bs) (n:=64) (by omega);obtain ⟨g3,g4⟩:=bits_take (r:=bs.drop 64) (n:=7) (by rw [List.length_drop];omega);rw [pow64] at g2;have hc1:=(List.take_append_drop 64 bs).symm;have hc2:=(List.take_append_drop 7 (bs.drop 64)).symm;rw [List.drop_drop] at hc2;rw [← g1] at hc1;rw [← g3] at hc2;generalize bv (bs.take 64)=p at *;generalize bv ((bs.drop 64).take 7)=q at *;split at h
    ·cases h
    ·rename_i hq
     split at h
     ·cases h
     ·rename_i l1 r1 h1
      cases h;obtain ⟨h3,h4,h5,h6⟩:=ih _ _ _ _ _ _ h1;refine ⟨⟨by omega,by simp only [Nat.reducePow] at g4;omega,fun h=>hq (.inr h),h3⟩,by simp [total] at h4 ⊢;omega,?_,?_⟩
      ·intro x hx;rcases List.mem_cons.1 hx with rfl | hx
       ·exact g2
       ·exact h5 x hx
      ·rw [hc1,hc2,h6];simp [rbits,List.flatMap_cons]
theorem rget_inv {n:Nat} {bs r:List Bool} {l:List Nat} (h:rget n bs=.ok (l,r)):l.length=n∧(∀ v∈l,v < 18446744073709551616)∧bs=rput l++r:=by
 unfold rget rgetR at h;split at h
 ·cases h
 ·rename_i rs r1 h1
  cases h;obtain ⟨h3,h4,h5,h6⟩:=rgetF_inv _ _ _ _ _ _ _ h1;refine ⟨by rw [unrun_length,h4],?_,by unfold rput;rw [runs_of_ok _ h3];exact h6⟩;intro v hv;simp only [unrun,List.mem_flatMap] at hv;obtain ⟨x,hx,hv⟩:=hv;rw [List.eq_of_mem_replicate hv];exact h5 x hx
theorem runF_length_le:∀ (l:List Nat) (v c:Nat),(runF v c l).length≤l.length+1:=by
 intro l;induction l with
 | nil=>intro v c;simp [runF]
 | cons x l ih =>
  intro v c;unfold runF;split
  ·have:=ih v (c+1);simp;omega
  ·have:=ih x 1;simp;omega
theorem rput_length (l:List Nat):(rput l).length=71*(runs l).length:=by
 unfold rput;induction runs l with
 | nil=>rfl
 | cons r rs ih=>simp only [List.flatMap_cons,List.length_append,rbits_length,List.length_cons,ih];omega
theorem runs_length_le (l:List Nat):(runs l).length≤l.length:=by
 cases l with
 | nil=>simp [runs]
 | cons v l=>exact runF_length_le l v 1
end
section
open Go Go.RowKit
def pick3 (a b c:Int):Nat :=
 if 0≤b∧b < a then (if 0≤c∧c < b then 3 else 2) else (if 0≤c∧c < a then 3 else 1)
theorem pick3_in (a b c:Int):1≤pick3 a b c∧pick3 a b c≤3:=by unfold pick3;split<;>split<;>omega
def tagOf (l:List Nat):Nat:=pick3 ((xput l).length:Int) ((rput l).length:Int) (szOf l)
theorem tagOf_in (l:List Nat):1≤tagOf l∧tagOf l≤3:=pick3_in _ _ _
def vput (tag:Nat) (l:List Nat):List Bool:=if tag=1 then xput l else if tag=2 then rput l else putBits l
def cbits (ts:List Int) (vs:List Nat):List Bool:=bitsOf (tagOf vs) 8++(bitsOf (vs.length - 1) 8++(tput ts++vput (tagOf vs) vs))
def dgot (x:List Nat × Nat × List Bool):Except Nat (List Nat × List Bool):=if x.2.1=0 then .ok (x.1,x.2.2) else .error x.2.1
def vget (tag n:Nat) (bs:List Bool):Except Nat (List Nat × List Bool):=if tag=1 then xget n bs else if tag=2 then rget n bs else dgot (getVals n bs)
def cget (bytes:List Nat):Except Nat (List Int × List Nat) :=
 match bytes with
 | []=>.error 3
 | tag::r1 =>
  if tag < 1∨3 < tag then .error 9
  else match r1 with
  | []=>.error 3
  | n1::r =>
   if 120≤n1 then .error 7
   else match tget (n1+1) (up r) with
   | .error e=>.error e
   | .ok (ts,bs) =>
    match vget tag (n1+1) bs with
    | .error e=>.error e
    | .ok (vs,bs')=>if endE bs'≠0 then .error (endE bs') else if tagOf vs≠tag then .error 8 else .ok (ts,vs)
theorem bitsOf_up {x:Nat} (l:List Nat) (h:x < 256):bv ((up (x::l)).take 8)=x∧(up (x::l)).drop 8=up l:=by
 rw [up_cons];obtain ⟨h1,h2⟩:=cut_at (bitsOf x 8) (up l) (bitsOf_length x 8);rw [h1,h2,bv_bitsOf];exact ⟨by omega,rfl⟩
theorem up_inj:∀ (a b:List Nat),(∀ x∈a,x < 256)→(∀ x∈b,x < 256)→up a=up b→a=b:=by
 intro a;induction a with
 | nil =>
  intro b _ _ h;have:=congrArg List.length h;rw [up_length,up_length] at this;exact (List.eq_nil_of_length_eq_zero (by simp at this;omega)).symm
 | cons x a ih =>
  intro b ha hb h;cases b with
  | nil=>have:=congrArg List.length h;rw [up_length,up_length] at this;simp at this
  | cons y b =>
   obtain ⟨h1,h2⟩:=bitsOf_up a (ha x (by simp));obtain ⟨h3,h4⟩:=bitsOf_up b (hb y (by simp));rw [h] at h1 h2;rw [h3] at h1;rw [h4] at h2;rw [h1,ih b (fun z hz=>ha z (by simp [hz])) (fun z hz=>hb z (by simp [hz])) h2.symm]
theorem pk_byte {x:Nat} (h:x < 256) (B:List Bool):pk (bitsOf x 8++B)=x::pk B:=by
 refine up_inj _ _ (pk_lt _) ?_ ?_
 ·intro y hy;rcases List.mem_cons.1 hy with rfl | hy
  ·exact h
  ·exact pk_lt _ _ hy
 ·rw [up_pk,up_cons,up_pk,List.append_assoc,List.length_append,bitsOf_length];congr 3
  omega
theorem cbits_pk (ts:List Int) (vs:List Nat) (hv:vs.length≤120):pk (cbits ts vs)=tagOf vs::(vs.length - 1)::pk (tput ts++vput (tagOf vs) vs):=by
 have h:=tagOf_in vs;unfold cbits;rw [pk_byte (by omega),pk_byte (by omega)]
theorem vget_inv {tag n:Nat} {l:List Nat} {bs r:List Bool} (hn:n≠0) (h:vget tag n bs=.ok (l,r)):l.length=n∧(∀ x∈l,x < 18446744073709551616)∧bs=vput tag l++r:=by
 unfold vget at h;unfold vput;split at h
 ·rename_i h1;rw [if_pos h1];exact xget_inv h
 ·rename_i h1
  rw [if_neg h1];split at h
  ·rename_i h2;rw [if_pos h2];exact rget_inv h
  ·rename_i h2
   rw [if_neg h2];unfold dgot at h;split at h
   ·rename_i h3
    obtain ⟨e1,e2,e3,e4⟩:=getVals_inv n bs hn h3;injection h with h
    injection h with ha hb
    rw [ha] at e1 e3 e4;rw [hb] at e4;exact ⟨e1,e3,e4⟩
   ·cases h
theorem endE_zero {bs:List Bool} (h:endE bs=0):bs.length < 8∧bs=List.replicate bs.length false:=by
 unfold endE at h;split at h
 ·cases h
 ·rename_i h1
  refine ⟨by omega,?_⟩;apply List.ext_getElem (by simp)
  intro i h2 h3;rw [List.getElem_replicate];rcases hb:bs[i] with _ | _
  ·rfl
  ·exact absurd (.inr (hb ▸ List.getElem_mem h2)) h1
theorem pk_of_up {r:List Nat} {B:List Bool} {k:Nat} (hr:∀ x∈r,x < 256) (h:up r=B++List.replicate k false) (hk:k < 8):pk B=r:=by
 refine up_inj _ _ (pk_lt _) hr ?_;rw [up_pk,h];have:=congrArg List.length h;rw [up_length,List.length_append,List.length_replicate] at this;congr 2
 omega
theorem cget_inv {bytes:List Nat} {ts:List Int} {vs:List Nat} (hb:∀ x∈bytes,x < 256) (h:cget bytes=.ok (ts,vs)) :
  vs≠[]∧ts.length=vs.length∧vs.length≤120∧(∀ x∈ts,I6 x)∧(∀ x∈vs,x < 18446744073709551616)∧bytes=pk (cbits ts vs):=by
 unfold cget at h;split at h
 ·cases h
 ·rename_i tag r1
  split at h
  ·cases h
  ·rename_i htag
   split at h
   ·cases h
   ·rename_i n1 r
    split at h
    ·cases h
    ·rename_i hn
     split at h
     ·cases h
     ·rename_i ts' bs ht
      split at h
      ·cases h
      ·rename_i vs' bs' hv
       split at h
       ·cases h
       ·rename_i he
        split at h
        ·cases h
        ·rename_i hc
         cases h;obtain ⟨a1,a2,a3⟩:=tget_inv ht;obtain ⟨b1,b2,b3⟩:=vget_inv (by omega) hv;obtain ⟨c1,c2⟩:=endE_zero (Decidable.not_not.1 he);have hc':tagOf vs=tag:=by omega
         have hr:up r=(tput ts++vput (tagOf vs) vs)++List.replicate bs'.length false:=by rw [a3,b3,hc',List.append_assoc,← c2]
         have hp:=pk_of_up (fun x hx=>hb x (by simp [hx])) hr c1;refine ⟨?_,by omega,by omega,a2,b2,?_⟩
         ·rintro rfl;simp at b1
         ·rw [cbits_pk ts vs (by omega),hp,hc',b1];rfl
end
section
open Go Go.RowKit Go.Sort
structure Kv (bl:Nat) (w w':World):Prop where
 size:w.heap.size≤w'.heap.size
 at_:w'.heap[bl]? = w.heap[bl]?
 glo:∀ k,k < 3→w'.heap[k]? = w.heap[k]?
theorem Kv.trans {bl:Nat} {a b c:World} (h:Kv bl a b) (k:Kv bl b c):Kv bl a c:=⟨Nat.le_trans h.size k.size,k.at_.trans h.at_,fun i hi=>(k.glo i hi).trans (h.glo i hi)⟩
theorem Kv.kp {bl g g':Nat} {w w':World} (hk:Kp g g' w w') (hb:bl < w.heap.size) (h1:bl≠g) (h2:bl≠g') (e1:3≤g) (e2:3≤g') (hs:3≤w.heap.size):Kv bl w w' :=
 ⟨hk.size,hk.block bl hb h1 h2,fun i hi=>hk.block _ (by omega) (by omega) (by omega)⟩
theorem Gl.kv {bl:Nat} {w w':World} (h:Gl w) (hk:Kv bl w w'):Gl w' where
 forms k v e:=(World.cell?_of_block (hk.glo _ (by simp only;omega))).trans (h.forms k v e)
 tab k v e:=(World.cell?_of_block (hk.glo _ (by simp only;omega))).trans (h.tab k v e)
 crc k v e:=(World.cell?_of_block (hk.glo _ (by simp only;omega))).trans (h.crc k v e)
 lt:=Nat.le_trans h.lt hk.size
theorem Rd.kv {b bl:Nat} {w w':World} {A:Option Addr} {xs:List Value} (h:Rd w b A xs) (hk:Kv bl w w') (e:b=bl):Rd w' b A xs:=by
 subst e;rcases h with rfl | ⟨o,e,hlt,hc⟩
 ·exact .inl rfl
 ·exact .inr ⟨o,e,Nat.lt_of_lt_of_le hlt hk.size,fun j u hu=>(World.cell?_of_block hk.at_).trans (hc j u hu)⟩
structure Sink (fo:Nat) (lb:Array Value) (g bl:Nat) (I:List Bool→World→Prop):Prop where
 call:∀ (W:World) (bs:List Bool) (x n:Nat),I bs W→x < 18446744073709551616→n≤64→bs.length≤1000000 →
  Calls Tryz.prog fo (#[.int .u64 (x:Int),.int .i64 (n:Int)]++lb) W fun e W'=>e=.returned (.tuple #[])∧I (bs++bitsOf x n) W'∧W'.heap[g]? = W.heap[g]?∧Kv bl W W'
 keep:∀ (W W':World) (bs:List Bool),I bs W→Kp g g W W'→I bs W'
 enters:∀ args w,(callFunc fo args).run Tryz.prog w=.ok (.enter fo args) w
def EncB (W:World) (g last:Nat) (win:Win) (fo:Nat) (lb:Array Value):Prop :=
 ∃ a n:Int,winOf win=winV a n∧W.heap[g]? = some (.cells #[.int .u64 (last:Int),.int .i64 a,.int .i64 n,.func (.func fo) #[] lb] 403 (0,0))
theorem EncB.same {W W':World} {g last fo:Nat} {win:Win} {lb:Array Value} (h:EncB W g last win fo lb) (e:W'.heap[g]? = W.heap[g]?):EncB W' g last win fo lb:=by
 obtain ⟨a,n,h1,h2⟩:=h;exact ⟨a,n,h1,e.trans h2⟩
theorem EncB.lt {W:World} {g last fo:Nat} {win:Win} {lb:Array Value} (h:EncB W g last win fo lb):g < W.heap.size:=by
 obtain ⟨a,n,h1,h2⟩:=h;exact lt_of_block h2
theorem trail_win (w:World) (a b:Nat) (h:a+b≤63):Calls Tryz.prog 304 #[winV a ((64 - a - b:Nat):Int)] w fun e w'=>e=.returned (.int .i64 (b:Int))∧Gr w w':=by
 have h1:=trail_any w a (64 - a - b) (by omega)
 rwa [show 64 - a - (64 - a - b)=b from by omega] at h1
def PutV (fo:Nat) (lb:Array Value) (g bl:Nat) (I:List Bool→World→Prop) (w:World) (bs:List Bool) (v last:Nat) (win:Win) (e:Ending) (w':World):Prop :=
 e=.returned (.tuple #[])∧I (bs++(xstep last win v).1) w'∧EncB w' g v (xstep last win v).2 fo lb∧Kv bl w w'
theorem put_zero (fo:Nat) (lb:Array Value) (g bl:Nat) (I:List Bool→World→Prop) (S:Sink fo lb g bl I) (w:World) (bs:List Bool) (v last:Nat) (win:Win) (hI:I bs w) (hE:EncB w g last win fo lb) (hb:bl < w.heap.size) (hbg:bl≠g) (hg:3≤g) (hs:3≤w.heap.size)
  (hv:v < 18446744073709551616) (hl:last < 18446744073709551616) (hlen:bs.length≤1000000) (hx:v ^^^ last=0) :
  Calls Tryz.prog 301 #[.pointer (some ⟨g,0,none⟩),.int .u64 (v:Int)] w (PutV fo lb g bl I w bs v last win):=by
 have hlt:=hE.lt;obtain ⟨a,n,hw,hbk⟩:=hE;have hxor:=u64_xor_nat v last hv hl;rw [hx] at hxor;have hc0:w.cell? ⟨g,0,none⟩=some (.int .u64 (last:Int)):=by simp [World.cell?,hbk]
 have hf0:w.frozen? ⟨g,0,none⟩=false:=by simp [World.frozen?,hbk]
 have hk1:Kp g g w (w.setCell ⟨g,0,none⟩ (.int .u64 (v:Int))):=(Kp.refl g g w).setCell' (.inl rfl) _;have hb1:(w.setCell ⟨g,0,none⟩ (.int .u64 (v:Int))).heap[g]? = some (.cells #[.int .u64 (v:Int),.int .i64 a,.int .i64 n,.func (.func fo) #[] lb] 403 (0,0)):=by simp [World.setCell,Array.getElem?_modify,hbk]
 have hc3:(w.setCell ⟨g,0,none⟩ (.int .u64 (v:Int))).cell? ⟨g,3,none⟩=some (.func (.func fo) #[] lb):=by simp [World.cell?,hb1]
 have H:=hid (S.call _ bs 0 1 (S.keep _ _ _ hI hk1) (by omega) (by omega) hlen);have eg:=S.enters;have HB:=hid hb1;have HK:=hid (Kv.kp hk1 hb hbg hbg hg hg hs);clear hI hbk hb1 hk1;generalize hw1:w.setCell ⟨g,0,none⟩ (.int .u64 (v:Int))=w1 at *;go_enter Tryz.func301,Tryz.ntmps301
 go_wp2_with (first | (go_at_fn fo;refine H.out.mono ?_;rintro e w2 ⟨rfl,hI2,hg2,hk2⟩))
 refine bodyPost_ret (results_none rfl _ _ _) rfl ?_;have hst:xstep last win v=([false],win):=by unfold xstep;rw [if_pos hx]
 refine ⟨rfl,by rw [hst];exact hI2,?_,HK.out.trans hk2⟩;rw [hst];exact ⟨a,n,hw,hg2.trans HB.out⟩
set_option maxRecDepth 100000 in
set_option maxHeartbeats 1000000 in
theorem put_fits (fo:Nat) (lb:Array Value) (g bl:Nat) (I:List Bool→World→Prop) (S:Sink fo lb g bl I) (w:World) (bs:List Bool) (v last a b:Nat) (hI:I bs w) (hE:EncB w g last (some (a,b)) fo lb) (hb:bl < w.heap.size) (hbg:bl≠g) (hg:3≤g) (hG:Gl w)
  (hv:v < 18446744073709551616) (hl:last < 18446744073709551616) (hlen:bs.length≤900000) (hab:a+b≤63) (hx:v ^^^ last≠0) (hf:fits (some (a,b)) (v ^^^ last)) :
  Calls Tryz.prog 301 #[.pointer (some ⟨g,0,none⟩),.int .u64 (v:Int)] w (PutV fo lb g bl I w bs v last (some (a,b))):=by
 have hs:=hG.lt;have hlt:=hE.lt;obtain ⟨a0,n0,hwv,hbk⟩:=hE;injection hwv with e;injection e with e;injection e with e1 e2;injection e2 with e2 _;injection e1 with _ e1;injection e2 with _ e2
 subst e1 e2;have hxor:=u64_xor_nat v last hv hl;have hst:Hid (xstep last (some (a,b)) v=([true,false]++bitsOf ((v ^^^ last) / 2 ^ b) (64 - a - b),some (a,b))):=hid (by unfold xstep xword;rw [if_neg hx];simp only [if_pos (show a≤lz (v ^^^ last)∧b≤tz (v ^^^ last) from hf)]);have hxl:=xor_lt64 hv hl;have hx0:(((v ^^^ last:Nat):Int) == 0)=false:=by rw [beq_eq_false_iff_ne];omega
 generalize v ^^^ last=x at *;have hc0:w.cell? ⟨g,0,none⟩=some (.int .u64 (last:Int)):=by simp [World.cell?,hbk]
 have hf0:w.frozen? ⟨g,0,none⟩=false:=by simp [World.frozen?,hbk]
 have hk1:Kp g g w (w.setCell ⟨g,0,none⟩ (.int .u64 (v:Int))):=(Kp.refl g g w).setCell' (.inl rfl) _;have hb1:(w.setCell ⟨g,0,none⟩ (.int .u64 (v:Int))).heap[g]? = some (.cells #[.int .u64 (v:Int),.int .i64 (a:Int),.int .i64 ((64 - a - b:Nat):Int),.func (.func fo) #[] lb] 403 (0,0)):=by simp [World.setCell,Array.getElem?_modify,hbk]
 have hI1:=S.keep _ _ _ hI hk1;have hv1:=Kv.kp hk1 hb hbg hbg hg hg hs;have hfit:Calls Tryz.prog 306 #[.pointer (some ⟨g,0,none⟩),.int .u64 (x:Int)] (w.setCell ⟨g,0,none⟩ (.int .u64 (v:Int))) fun e w'=>e=.returned (.bool true)∧Gr (w.setCell ⟨g,0,none⟩ (.int .u64 (v:Int))) w':=by
  have h:=fits_any _ g x (some (a,b)) (hG.kv hv1) hab hx hxl (lt_of_block hb1) ⟨_,_,rfl,by simp [World.cell?,hb1],by simp [World.cell?,hb1]⟩
  rwa [decide_eq_true hf] at h
 have hb1l:=lt_of_block hb1;have HF:=hid hfit;have HB:=hid hb1;have HG:=hid (hG.kv hv1);have HK:=hid hv1;have HI:=hid hI1;have hs1:bl < (w.setCell ⟨g,0,none⟩ (.int .u64 (v:Int))).heap.size:=Nat.lt_of_lt_of_le hb hk1.size;have hs2:3≤(w.setCell ⟨g,0,none⟩ (.int .u64 (v:Int))).heap.size:=Nat.le_trans hs hk1.size;have eg:=S.enters;clear hI hbk hb1 hk1 hfit hI1 hv1 hG hf hx;generalize hw1:w.setCell ⟨g,0,none⟩ (.int .u64 (v:Int))=w1 at *;have HC:=hid fun (W:World) (cu:List Bool) (y m:Nat) (h1:I cu W) (h2:y < 18446744073709551616) (h3:m≤64) (h4:cu.length≤1000000)=>S.call W cu y m h1 h2 h3 h4
 have HKeep:=hid fun (W W':World) (cu:List Bool) (h1:I cu W) (h2:Kp g g W W')=>S.keep W W' cu h1 h2
 clear S;go_enter Tryz.func301,Tryz.ntmps301
 go_wp2_with fail;refine HF.out.mono ?_;rintro e w2 ⟨rfl,hgr⟩;have hc3:=cell_old (v:=.func (.func fo) #[] lb) (a:=⟨g,3,none⟩) hgr.nw hb1l (by simp [World.cell?,HB.out]);go_wp2_with (first
  | (go_at_fn fo;refine (HC.out _ bs 2 2 (HKeep.out _ _ _ HI.out (hgr.nw.kp _ _)) (by omega) (by omega) (by omega)).mono ?_;rintro e w3 ⟨rfl,hI3,hg3,hk3⟩))
 have hn2:=hgr.nw;have hb3:=hg3.trans ((hn2.block g hb1l).trans HB.out);have hg3l:=lt_of_block hb3;have hd1:∀ p:Gp,(grow (w3.drewN p.n) p.os).cell? ⟨g,1,none⟩=some (.int .i64 (a:Int)):=cell_gr hg3l (by simp [World.cell?,hb3]);have hd2:∀ p:Gp,(grow (w3.drewN p.n) p.os).cell? ⟨g,2,none⟩=some (.int .i64 ((64 - a - b:Nat):Int)):=cell_gr hg3l (by simp [World.cell?,hb3]);have hd3:∀ p:Gp,(grow (w3.drewN p.n) p.os).cell? ⟨g,3,none⟩=some (.func (.func fo) #[] lb):=cell_gr hg3l (by simp [World.cell?,hb3]);have HQ:=hid (show ∀ W,I (bs++bitsOf 2 2) W→Calls Tryz.prog fo (#[.int .u64 ((x:Int) / 2 ^ b),.int .i64 ((64 - a - b:Nat):Int)]++lb) W fun e W'=>e=.returned (.tuple #[])∧I (bs++bitsOf 2 2++bitsOf (x / 2 ^ b) (64 - a - b)) W'∧W'.heap[g]? = W.heap[g]?∧Kv bl W W' from by
  intro W hW;have hxm:x / 2 ^ b≤x:=Nat.div_le_self _ _;have h:=HC.out W _ (x / 2 ^ b) (64 - a - b) hW (by omega) (by omega) (by rw [List.length_append,bitsOf_length];omega)
  rwa [show ((x / 2 ^ b:Nat):Int)=(x:Int) / 2 ^ b from by simp] at h)
 have HB3:=hid hb3;have HI3:=hid hI3;have HG3:=hid hk3;have HN2:=hid hn2;have HT:=hid fun W:World=>trail_win W a b hab
 clear hb3 hI3 hk3 hg3 hn2 hc3 hgr HF;refine wp_region_gr_tail 18 (by kernel_rfl) (by kernel_rfl) ?_;simp only [List.take_succ_cons,List.take_zero,List.drop_succ_cons,List.drop_zero]
 repeat (quiet_step (first | (go_at_call 304;refine Calls.gr (HT.out _))))
 refine wpQuiet_nil ?_;rintro _ ⟨p,rfl⟩;generalize hw4:grow (w3.drewN p.n) p.os=w4;have hn4:Nw w3 w4:=by rw [← hw4];exact Gr.nw ⟨p,rfl⟩
 clear hd1 hd2 hd3 hw4;go_wp2_with (first
  | (go_at_fn fo;refine (HQ.out _ (HKeep.out _ _ _ HI3.out (hn4.kp _ _))).mono ?_;rintro e w5 ⟨rfl,hI5,hg5,hk5⟩))
 go_end0
 have hs3:3≤w3.heap.size:=by
  have:=HG3.out.size;have:=HN2.out.size;omega
 have hkk:Kv bl w w4:=by
  have h1:=Kv.kp (HN2.out.kp g g) hs1 hbg hbg hg hg hs2;have h2:=(HK.out.trans h1).trans HG3.out;exact h2.trans (Kv.kp (hn4.kp g g) (Nat.lt_of_lt_of_le hb h2.size) hbg hbg hg hg hs3)
 refine ⟨rfl,?_,?_,hkk.trans hk5⟩
 ·rw [hst.out];rw [List.append_assoc] at hI5;exact hI5
 ·rw [hst.out];exact ⟨_,_,rfl,hg5.trans ((hn4.block g hg3l).trans HB3.out)⟩
theorem xstep_new {last v:Nat} {win:Win} (hx:v ^^^ last≠0) (hf:¬ fits win (v ^^^ last)) :
  xstep last win v=([true,true]++bitsOf (lz (v ^^^ last)) 6++bitsOf (63 - lz (v ^^^ last) - tz (v ^^^ last)) 6++bitsOf ((v ^^^ last) / 2 ^ tz (v ^^^ last)) (64 - lz (v ^^^ last) - tz (v ^^^ last)),some (lz (v ^^^ last),tz (v ^^^ last))):=by
 unfold xstep xword;rw [if_neg hx];cases win with
 | none=>rfl
 | some ab=>simp only [if_neg (show ¬ (ab.1≤lz (v ^^^ last)∧ab.2≤tz (v ^^^ last)) from hf)]
set_option maxRecDepth 100000 in
set_option maxHeartbeats 4000000 in
theorem put_new (fo:Nat) (lb:Array Value) (g bl:Nat) (I:List Bool→World→Prop) (S:Sink fo lb g bl I) (w:World) (bs:List Bool) (v last:Nat) (win:Win) (hI:I bs w) (hE:EncB w g last win fo lb) (hb:bl < w.heap.size) (hbg:bl≠g) (hg:3≤g) (hG:Gl w)
  (hv:v < 18446744073709551616) (hl:last < 18446744073709551616) (hlen:bs.length≤900000) (hw:WinOk win) (hx:v ^^^ last≠0) (hf:¬ fits win (v ^^^ last)) :
  Calls Tryz.prog 301 #[.pointer (some ⟨g,0,none⟩),.int .u64 (v:Int)] w (PutV fo lb g bl I w bs v last win):=by
 have hs:=hG.lt;have hlt:=hE.lt;obtain ⟨a0,n0,hwv,hbk⟩:=hE;have hxor:=u64_xor_nat v last hv hl;have hst:=hid (xstep_new hx hf);have hxl:=xor_lt64 hv hl;have hx0:(((v ^^^ last:Nat):Int) == 0)=false:=by rw [beq_eq_false_iff_ne];omega
 generalize v ^^^ last=x at *;have hc0:w.cell? ⟨g,0,none⟩=some (.int .u64 (last:Int)):=by simp [World.cell?,hbk]
 have hf0:w.frozen? ⟨g,0,none⟩=false:=by simp [World.frozen?,hbk]
 have hk1:Kp g g w (w.setCell ⟨g,0,none⟩ (.int .u64 (v:Int))):=(Kp.refl g g w).setCell' (.inl rfl) _;have hb1:(w.setCell ⟨g,0,none⟩ (.int .u64 (v:Int))).heap[g]? = some (.cells #[.int .u64 (v:Int),.int .i64 a0,.int .i64 n0,.func (.func fo) #[] lb] 403 (0,0)):=by simp [World.setCell,Array.getElem?_modify,hbk]
 have hI1:=S.keep _ _ _ hI hk1;have hv1:=Kv.kp hk1 hb hbg hbg hg hg hs;have hfit:Calls Tryz.prog 306 #[.pointer (some ⟨g,0,none⟩),.int .u64 (x:Int)] (w.setCell ⟨g,0,none⟩ (.int .u64 (v:Int))) fun e w'=>e=.returned (.bool false)∧Gr (w.setCell ⟨g,0,none⟩ (.int .u64 (v:Int))) w':=by
  have h:=fits_any _ g x win (hG.kv hv1) hw hx hxl (lt_of_block hb1) ⟨_,_,hwv,by simp [World.cell?,hb1],by simp [World.cell?,hb1]⟩
  rwa [decide_eq_false hf] at h
 have hab:=lz_tz hx hxl;have hb1l:=lt_of_block hb1;have HW:=hid fun (W:World) (hN:Nw (w.setCell ⟨g,0,none⟩ (.int .u64 (v:Int))) W)=>windowOf_any W x ((hG.kv hv1).nw hN) hx hxl
 have HF:=hid hfit;have HB:=hid hb1;have HK:=hid hv1;have HI:=hid hI1;have hs1:bl < (w.setCell ⟨g,0,none⟩ (.int .u64 (v:Int))).heap.size:=Nat.lt_of_lt_of_le hb hk1.size;have hs2:3≤(w.setCell ⟨g,0,none⟩ (.int .u64 (v:Int))).heap.size:=Nat.le_trans hs hk1.size;have eg:=S.enters;clear hI hbk hb1 hk1 hfit hI1 hv1 hG hf hx hwv hw;generalize hw1:w.setCell ⟨g,0,none⟩ (.int .u64 (v:Int))=w1 at *;generalize lz x=a at *;generalize tz x=b at *;obtain ⟨n,hn⟩:∃ n,n=64 - a - b:=⟨_,rfl⟩;rw [← hn] at HW hst;have hn1:n+a+b=64:=by omega
 clear hn;have HC:=hid fun (W:World) (cu:List Bool) (y m:Nat) (h1:I cu W) (h2:y < 18446744073709551616) (h3:m≤64) (h4:cu.length≤1000000)=>S.call W cu y m h1 h2 h3 h4
 have HKeep:=hid fun (W W':World) (cu:List Bool) (h1:I cu W) (h2:Kp g g W W')=>S.keep W W' cu h1 h2
 clear S;go_enter Tryz.func301,Tryz.ntmps301
 go_wp2_with fail;refine HF.out.mono ?_;rintro e w2 ⟨rfl,hgr⟩;go_wp2_with fail;refine (HW.out _ hgr.nw).mono ?_;rintro e w3 ⟨rfl,hgr3⟩;have hn3:=hgr.nw.trans hgr3.nw;have hb3:=(hn3.block g hb1l).trans HB.out;have hc3:w3.cell? ⟨g,3,none⟩=some (.func (.func fo) #[] lb):=by simp [World.cell?,hb3]
 have hf3:w3.frozen? ⟨g,1,none⟩=false:=by simp [World.frozen?,hb3]
 have hf3':w3.frozen? ⟨g,2,none⟩=false:=by simp [World.frozen?,hb3]
 have hc31:w3.cell? ⟨g,1,none⟩=some (.int .i64 a0):=by simp [World.cell?,hb3]
 have hc32:w3.cell? ⟨g,2,none⟩=some (.int .i64 n0):=by simp [World.cell?,hb3]
 have hk3:Kp g g w1 ((w3.setCell ⟨g,1,none⟩ (.int .i64 (a:Int))).setCell ⟨g,2,none⟩ (.int .i64 (n:Int))):=((hn3.kp g g).setCell' (.inl rfl) _).setCell' (.inl rfl) _;have HI4:=hid (HKeep.out _ _ _ HI.out hk3);have HK4:=hid (Kv.kp hk3 hs1 hbg hbg hg hg hs2);have HB4:Hid (((w3.setCell ⟨g,1,none⟩ (.int .i64 (a:Int))).setCell ⟨g,2,none⟩ (.int .i64 (n:Int))).heap[g]? = some (.cells #[.int .u64 (v:Int),.int .i64 (a:Int),.int .i64 (n:Int),.func (.func fo) #[] lb] 403 (0,0))):=hid (by simp [World.setCell,Array.getElem?_modify,hb3]);clear hb3 hk3;go_wp2_with (first
  | (go_at_fn fo;refine (HC.out _ bs 3 2 HI4.out (by omega) (by omega) (by omega)).mono ?_;rintro e w5 ⟨rfl,hI5,hg5,hk5⟩))
 have hb5:=hg5.trans HB4.out;have hg5l:=lt_of_block hb5;have hd0:∀ p:Gp,(grow (w5.drewN p.n) p.os).cell? ⟨g,1,none⟩=some (.int .i64 (a:Int)):=cell_gr hg5l (by simp [World.cell?,hb5]);have hd3:∀ p:Gp,(grow (w5.drewN p.n) p.os).cell? ⟨g,3,none⟩=some (.func (.func fo) #[] lb):=cell_gr hg5l (by simp [World.cell?,hb5]);have HB5:=hid hb5;have HI5:=hid hI5;have HK5:=hid hk5;clear hb5 hI5 hk5 hg5 hc3 hf3 hf3' hc31 hc32 hgr hgr3 HF HW;refine wp_region_gr_tail 11 (by kernel_rfl) (by kernel_rfl) ?_;simp only [List.take_succ_cons,List.take_zero,List.drop_succ_cons,List.drop_zero]
 repeat (quiet_step (fail))
 refine wpQuiet_nil ?_;rintro _ ⟨p,rfl⟩;generalize hw6:grow (w5.drewN p.n) p.os=w6;have hn6:Nw w5 w6:=by rw [← hw6];exact Gr.nw ⟨p,rfl⟩
 clear hd0 hd3 hw6;go_wp2_with (first
  | (go_at_fn fo;refine (HC.out _ _ a 6 (HKeep.out _ _ _ HI5.out (hn6.kp _ _)) (by omega) (by omega) (by rw [List.length_append,bitsOf_length];omega)).mono ?_;rintro e w7 ⟨rfl,hI7,hg7,hk7⟩))
 have hb7:=hg7.trans ((hn6.block g hg5l).trans HB5.out);have hg7l:=lt_of_block hb7;have hd0:∀ p:Gp,(grow (w7.drewN p.n) p.os).cell? ⟨g,2,none⟩=some (.int .i64 (n:Int)):=cell_gr hg7l (by simp [World.cell?,hb7]);have hd3:∀ p:Gp,(grow (w7.drewN p.n) p.os).cell? ⟨g,3,none⟩=some (.func (.func fo) #[] lb):=cell_gr hg7l (by simp [World.cell?,hb7]);have HB7:=hid hb7;have HI7:=hid hI7;have HK7:=hid hk7;clear hb7 hI7 hk7 hg7;refine wp_region_gr_tail 12 (by kernel_rfl) (by kernel_rfl) ?_;simp only [List.take_succ_cons,List.take_zero,List.drop_succ_cons,List.drop_zero]
 repeat (quiet_step (fail))
 refine wpQuiet_nil ?_;rintro _ ⟨p,rfl⟩;generalize hw8:grow (w7.drewN p.n) p.os=w8;have hn8:Nw w7 w8:=by rw [← hw8];exact Gr.nw ⟨p,rfl⟩
 clear hd0 hd3 hw8;have HQ8:=hid (show ∀ W cu,I cu W→cu.length≤1000000→Calls Tryz.prog fo (#[.int .u64 ((n:Int) - 1),.int .i64 6]++lb) W fun e W'=>e=.returned (.tuple #[])∧I (cu++bitsOf (n - 1) 6) W'∧W'.heap[g]? = W.heap[g]?∧Kv bl W W' from by
  intro W cu hW hcu;have h:=HC.out W _ (n - 1) 6 hW (by omega) (by omega) hcu
  rwa [show ((n - 1:Nat):Int)=(n:Int) - 1 from by omega] at h)
 go_wp2_with (first
  | (go_at_fn fo;refine (HQ8.out _ _ (HKeep.out _ _ _ HI7.out (hn8.kp _ _)) (by rw [List.length_append,List.length_append,bitsOf_length,bitsOf_length];omega)).mono ?_;rintro e w9 ⟨rfl,hI9,hg9,hk9⟩))
 have hb9:=hg9.trans ((hn8.block g hg7l).trans HB7.out);have hg9l:=lt_of_block hb9;have hd1:∀ p:Gp,(grow (w9.drewN p.n) p.os).cell? ⟨g,1,none⟩=some (.int .i64 (a:Int)):=cell_gr hg9l (by simp [World.cell?,hb9]);have hd2:∀ p:Gp,(grow (w9.drewN p.n) p.os).cell? ⟨g,2,none⟩=some (.int .i64 (n:Int)):=cell_gr hg9l (by simp [World.cell?,hb9]);have hd3:∀ p:Gp,(grow (w9.drewN p.n) p.os).cell? ⟨g,3,none⟩=some (.func (.func fo) #[] lb):=cell_gr hg9l (by simp [World.cell?,hb9]);have HB9:=hid hb9;have HI9:=hid hI9;have HK9:=hid hk9;have HT:=hid (show ∀ W:World,Calls Tryz.prog 304 #[winV a (n:Int)] W fun e w'=>e=.returned (.int .i64 (b:Int))∧Gr W w' from by
  intro W;have h:=trail_any W a n (by omega)
  rwa [show 64 - a - n=b from by omega] at h)
 have HQ:=hid (show ∀ W cu,I cu W→cu.length≤1000000→Calls Tryz.prog fo (#[.int .u64 ((x:Int) / 2 ^ b),.int .i64 (n:Int)]++lb) W fun e W'=>e=.returned (.tuple #[])∧I (cu++bitsOf (x / 2 ^ b) n) W'∧W'.heap[g]? = W.heap[g]?∧Kv bl W W' from by
  intro W cu hW hcu;have hxm:x / 2 ^ b≤x:=Nat.div_le_self _ _;have h:=HC.out W _ (x / 2 ^ b) n hW (by omega) (by omega) hcu
  rwa [show ((x / 2 ^ b:Nat):Int)=(x:Int) / 2 ^ b from by simp] at h)
 clear hb9 hI9 hk9 hg9;refine wp_region_gr_tail 18 (by kernel_rfl) (by kernel_rfl) ?_;simp only [List.take_succ_cons,List.take_zero,List.drop_succ_cons,List.drop_zero]
 repeat (quiet_step (first | (go_at_call 304;refine Calls.gr (HT.out _))))
 refine wpQuiet_nil ?_;rintro _ ⟨p,rfl⟩;generalize hw10:grow (w9.drewN p.n) p.os=w10;have hn10:Nw w9 w10:=by rw [← hw10];exact Gr.nw ⟨p,rfl⟩
 clear hd1 hd2 hd3 hw10;go_wp2_with (first
  | (go_at_fn fo;refine (HQ.out _ _ (HKeep.out _ _ _ HI9.out (hn10.kp _ _)) (by rw [List.length_append,List.length_append,List.length_append,bitsOf_length,bitsOf_length,bitsOf_length];omega)).mono ?_;rintro e w11 ⟨rfl,hI11,hg11,hk11⟩))
 go_end0
 have k4:=HK.out.trans HK4.out;have st:∀ {A B:World},Kv bl w A→Nw A B→Kv bl w B:=by
  intro A B h1 h2;exact h1.trans (Kv.kp (h2.kp g g) (Nat.lt_of_lt_of_le hb h1.size) hbg hbg hg hg (Nat.le_trans hs h1.size))
 have k11:=(st ((st ((st (k4.trans HK5.out) hn6).trans HK7.out) hn8).trans HK9.out) hn10).trans hk11;refine ⟨rfl,?_,?_,k11⟩
 ·rw [hst.out];rw [show 63 - a - b=n - 1 from by omega];simp only [List.append_assoc] at hI11 ⊢;exact hI11
 ·rw [hst.out];refine ⟨_,_,rfl,?_⟩;rw [show 64 - a - b=n from by omega];exact hg11.trans ((hn10.block g hg9l).trans HB9.out)
end
section
open Go Go.RowKit Go.Sort
theorem xword_len (win:Win) (x:Nat):(xword win x).1.length≤78:=by
 unfold xword;split
 ·split<;>simp [bitsOf_length]<;>omega
 ·simp [bitsOf_length];omega
theorem xstep_len (last:Nat) (win:Win) (v:Nat):(xstep last win v).1.length≤78:=by
 unfold xstep;split
 ·simp
 ·exact xword_len _ _
theorem xstep_win {last v:Nat} {win:Win} (hw:WinOk win) (hl:last < 18446744073709551616) (hv:v < 18446744073709551616):WinOk (xstep last win v).2:=by
 unfold xstep;split
 ·exact hw
 ·rename_i h0
  have:=lz_tz h0 (xor_lt64 hv hl);unfold xword;split
  ·split
   ·exact hw
   ·exact this
  ·exact this
theorem put_any (fo:Nat) (lb:Array Value) (g bl:Nat) (I:List Bool→World→Prop) (S:Sink fo lb g bl I) (w:World) (bs:List Bool) (v last:Nat) (win:Win) (hI:I bs w) (hE:EncB w g last win fo lb) (hb:bl < w.heap.size) (hbg:bl≠g) (hg:3≤g) (hG:Gl w)
  (hv:v < 18446744073709551616) (hl:last < 18446744073709551616) (hlen:bs.length≤900000) (hw:WinOk win) :
  Calls Tryz.prog 301 #[.pointer (some ⟨g,0,none⟩),.int .u64 (v:Int)] w (PutV fo lb g bl I w bs v last win):=by
 by_cases hx:v ^^^ last=0
 ·exact put_zero fo lb g bl I S w bs v last win hI hE hb hbg hg hG.lt hv hl (by omega) hx
 ·by_cases hf:fits win (v ^^^ last)
  ·cases win with
   | none=>exact hf.elim
   | some ab=>exact put_fits fo lb g bl I S w bs v last ab.1 ab.2 hI hE hb hbg hg hG hv hl hlen hw hx hf
  ·exact put_new fo lb g bl I S w bs v last win hI hE hb hbg hg hG hv hl hlen hw hx hf
theorem encode_any (w:World) (fo:Nat) (lb:Array Value) (bl:Nat) (I:List Bool→World→Prop) (A:Option Addr) (n c:Nat) (l:List Nat) (hn:n=l.length) (hm:n≤10000) (hr:Rd w bl A (cN .u64 l)) (hbl:bl < w.heap.size)
  (hx:∀ x∈l,x < 18446744073709551616) (hG:Gl w) (S:Sink fo lb w.heap.size bl I) (hI:∀ W,Nw w W→w.heap.size < W.heap.size→I [] W) :
  Calls Tryz.prog 259 #[.slice A n c,.func (.func fo) #[] lb] w fun e w'=>e=.returned (.tuple #[])∧I (xput l) w':=by
 subst hn;have hs:=hG.lt;have HX:=hid hx;have HS:=hid S;have eg:=S.enters;have hw1:Nw w (w.alloc (.cells #[.int .u64 0,.int .i64 0,.int .i64 0,.func (.func fo) #[] lb] 403)):=(Nw.refl w).alloc' _;have hE1:EncB (w.alloc (.cells #[.int .u64 0,.int .i64 0,.int .i64 0,.func (.func fo) #[] lb] 403)) w.heap.size 0 none fo lb:=⟨0,0,rfl,heap_alloc_new w _⟩;have HI1:=hid (hI _ hw1 (by simp));have HK1:=hid (Kv.kp (hw1.kp w.heap.size w.heap.size) hbl (by omega) (by omega) hs hs hs);have HE1:=hid hE1;clear S hI hx hw1 hE1;go_enter Tryz.func259,Tryz.ntmps259
 go_wp2;go_loopw [12] (fun i wr=>∃ k:Nat,k≤l.length∧i=.int .i64 k∧Kv bl w wr∧∃ (cu:List Bool) (last:Nat) (win:Win),I cu wr∧EncB wr w.heap.size last win fo lb∧cu.length≤78*k∧last < 18446744073709551616∧WinOk win ∧
  ((k=0∧cu=[]∧win=none)∨(1≤k∧cu++xputF last win (l.drop k)=xput l))) (fun i _=>l.length - (intOf i).toNat)
 case atStart=>exact ⟨0,by omega,rfl,HK1.out,[],0,none,HI1.out,HE1.out,by simp,by omega,trivial,.inl ⟨rfl,rfl,rfl⟩⟩
 case round =>
  obtain ⟨k,hk,rfl,hkv,cu,last,win,hI,hE,hlen,hll,hwin,hcu⟩:=hrel;by_cases hlt:k < l.length
  ·obtain ⟨o,rfl,_,hc⟩:=(hr.kv hkv rfl).get (k:=k) (by simpa using hlt);rw [List.getElem_map] at hc;have hv:l[k] < 18446744073709551616:=HX.out _ (List.getElem_mem _);have hdrop:l.drop k=l[k]::l.drop (k+1):=List.drop_eq_getElem_cons hlt;have HD:=hid hdrop;have hbr:bl < wr.heap.size:=Nat.lt_of_lt_of_le hbl hkv.size;generalize hvv:l[k]=v at *;clear hdrop;rcases hcu with ⟨rfl,rfl,rfl⟩ | ⟨hk1,hcu⟩
   ·have HC:=hid (HS.out.call wr [] v 64 hI hv (by omega) (by simp));have HE:=hid hE;have HKV:=hid hkv;clear hI hE hkv;simp only [Nat.add_zero] at hc;go_wp2_with fail;refine HC.out.mono ?_;rintro e w2 ⟨rfl,hI2,hg2,hk2⟩;obtain ⟨a0,n0,hw0,hb2⟩:=HE.out.same hg2;have hc2:w2.cell? ⟨w.heap.size,0,none⟩=some (.int .u64 (last:Int)):=by simp [World.cell?,hb2]
    have hf2:w2.frozen? ⟨w.heap.size,0,none⟩=false:=by simp [World.frozen?,hb2]
    go_wp2;go_roundw
    case rel =>
     have hb3:(w2.setCell ⟨w.heap.size,0,none⟩ (.int .u64 (v:Int))).heap[w.heap.size]? = some (.cells #[.int .u64 (v:Int),.int .i64 a0,.int .i64 n0,.func (.func fo) #[] lb] 403 (0,0)):=by simp [World.setCell,Array.getElem?_modify,hb2]
     have hkp:Kp w.heap.size w.heap.size w2 (w2.setCell ⟨w.heap.size,0,none⟩ (.int .u64 (v:Int))):=(Kp.refl _ _ _).setCell' (p:=⟨w.heap.size,0,none⟩) (.inl rfl) _;refine ⟨1,by omega,by simp,(HKV.out.trans hk2).trans (Kv.kp hkp (Nat.lt_of_lt_of_le hbr hk2.size) (by omega) (by omega) hs hs (Nat.le_trans hs (HKV.out.trans hk2).size)),_,v,none,HS.out.keep _ _ _ hI2 hkp,⟨a0,n0,hw0,hb3⟩,by simp [bitsOf_length],hv,trivial,.inr ⟨by omega,?_⟩⟩;have hd:=HD.out;simp only [List.drop_zero,Nat.zero_add] at hd
     conv=>rhs;rw [hd]
     rfl
    case measure=>simp [intOf];omega
   ·have HC:=hid (put_any fo lb w.heap.size bl I HS.out wr cu v last win hI hE hbr (by omega) hs (hG.kv hkv) hv hll (by omega) hwin);have HCU:=hid hcu;have HKV:=hid hkv;have hk0:(0:Int) < (k:Int):=by omega
    clear hI hE hkv hcu;go_wp2_with (first | (go_at_call 301;refine HC.out.mono ?_;rintro e w2 ⟨rfl,hI2,hE2,hk2⟩))
    go_roundw
    case rel =>
     refine ⟨k+1,by omega,by go_num,HKV.out.trans hk2,_,_,_,hI2,hE2,?_,hv,xstep_win hwin hll hv,.inr ⟨by omega,?_⟩⟩
     ·rw [List.length_append];have:=xstep_len last win v;omega
     ·rw [List.append_assoc,← HCU.out,HD.out];rfl
    case measure=>simp [intOf];omega
  ·go_wp2;go_end0
   obtain rfl:k=l.length:=by omega
   refine ⟨rfl,?_⟩;rcases hcu with ⟨h0,rfl,rfl⟩ | ⟨_,hcu⟩
   ·rw [List.eq_nil_of_length_eq_zero h0];exact hI
   ·rw [List.drop_length] at hcu;rw [← hcu];simpa [xputF] using hI
def SizeI (w:World) (B g:Nat) (cu:List Bool) (W:World):Prop :=
 W.cell? ⟨B,0,none⟩=some (.int .i64 (cu.length:Int))∧W.frozen? ⟨B,0,none⟩=false∧B < W.heap.size∧Nw w W∧g < W.heap.size
theorem sizeSink (w:World) (B g bl:Nat) (hB:w.heap.size≤B) (hg:w.heap.size≤g) (hBg:B≠g) (hbl:bl < w.heap.size) (hs:3≤w.heap.size) :
  Sink 260 #[.pointer (some ⟨B,0,none⟩)] g bl (SizeI w B g) where
 call:=by
  intro W bs x n hI hx hn hlen;obtain ⟨h1,h2,h3,h4,h5⟩:=hI;have HK:=hid (show Kp B B W (W.setCell ⟨B,0,none⟩ (.int .i64 ((bs.length:Int)+(n:Int)))) from (Kp.refl _ _ _).setCell' (p:=⟨B,0,none⟩) (.inl rfl) _);show Calls Tryz.prog _ #[.int .u64 (x:Int),.int .i64 (n:Int),.pointer (some ⟨B,0,none⟩)] W _
  go_enter Tryz.func260,Tryz.ntmps260
  go_wp2;go_end0
  have hk:=HK.out;have hsz:=h4.size;refine ⟨rfl,⟨?_,?_,by have:=hk.size;omega,h4.setCell' (by exact hB) _,by have:=hk.size;omega⟩,hk.block g h5 (Ne.symm hBg) (Ne.symm hBg),Kv.kp hk (by omega) (by omega) (by omega) (by omega) (by omega) (by omega)⟩
  ·rw [World.cell?_setCell_same' _ _ _ (by rw [h1];rfl),List.length_append,bitsOf_length];simp
  ·rw [World.frozen?_setCell];exact h2
 keep:=by
  intro W W' bs hI hk;obtain ⟨h1,h2,h3,h4,h5⟩:=hI;have hb:=hk.block B h3 hBg hBg;exact ⟨(World.cell?_of_block hb).trans h1,(by rw [← h2];unfold World.frozen?;rw [hb]),Nat.lt_of_lt_of_le h3 hk.size,Kp.nw h4 hk hg hg,Nat.lt_of_lt_of_le h5 hk.size⟩
 enters:=enters_of Tryz.func260 (by kernel_rfl) rfl
theorem xSize_any (w:World) (bl:Nat) (A:Option Addr) (n c:Nat) (l:List Nat) (hn:n=l.length) (hm:n≤10000) (hr:Rd w bl A (cN .u64 l)) (hbl:bl < w.heap.size) (hx:∀ x∈l,x < 18446744073709551616) (hG:Gl w) :
  Calls Tryz.prog 199 #[.slice A n c] w fun e w'=>e=.returned (.int .i64 ((xput l).length:Int))∧Nw w w':=by
 have hs:=hG.lt;have hw1:Nw w (w.alloc (.cells #[.int .i64 0] 3)):=(Nw.refl w).alloc' _;have HE:=hid (encode_any _ 260 #[.pointer (some ⟨w.heap.size,0,none⟩)] bl (SizeI w w.heap.size (w.heap.size+1)) A n c l hn hm (hr.nw hw1) (by simp;omega) hx (hG.nw hw1)
  (by have h:=sizeSink w w.heap.size (w.heap.size+1) bl (Nat.le_refl _) (by omega) (by omega) hbl hs;rwa [show (w.alloc (.cells #[.int .i64 0] 3)).heap.size=w.heap.size+1 from by simp])
  (by
   intro W hW hlt;have hb:W.heap[w.heap.size]? = some (.cells #[.int .i64 0] 3):=(hW.block _ (by simp)).trans (heap_alloc_new w _);refine ⟨by simp [World.cell?,hb],by simp [World.frozen?,hb],by have:=lt_of_block hb;omega,hw1.trans hW,by simpa using hlt⟩))
 clear hr hx hG hn hm;go_enter Tryz.func199,Tryz.ntmps199
 go_wp2_with (first | (go_at_call 259;refine HE.out.mono ?_;rintro e w2 ⟨rfl,h1,h2,h3,h4,h5⟩))
 go_ret;exact ⟨rfl,h4⟩
end
section
open Go Go.RowKit Go.Sort Go.Shelf
attribute [local go_sem] Oper.semAt_some
abbrev RunS:={ r:Nat × Nat // r.1 < 18446744073709551616∧1≤r.2∧r.2≤128 }
abbrev runV (v c:Nat):Value:=.agg #[.int .u64 (v:Int),.int .i64 (c:Int)]
theorem runs_any (w:World) (A:Option Addr) (n c:Nat):Calls Tryz.prog 264 #[.slice A n c] w fun e w'=>e=.returned (.func (.func 307) #[] #[.pointer (some ⟨w.heap.size,0,none⟩)])∧w'=w.alloc (.cells #[.slice A n c] 224):=by
 go_enter Tryz.func264,Tryz.ntmps264
 go_wp2;go_ret;exact ⟨rfl,rfl⟩
theorem runF_end {v c:Nat} {l:List Nat} (h:∀ x r,l=x::r→¬ (x=v∧c < 128)):runF v c l=(v,c)::runs l:=by
 cases l with
 | nil=>rfl
 | cons x r=>rw [runF,if_neg (h x r rfl)];rfl
set_option maxRecDepth 100000 in
set_option maxHeartbeats 2000000 in
theorem runs_stops (n:Nat) (hn:1≤n) (w:World) (B bl:Nat) (A:Option Addr) (c:Nat) (l:List Nat) (hm:l.length≤1000000) (hl:∀ x∈l,x < 18446744073709551616) (hB:w.heap[B]? = some (.cells #[.slice A l.length c] 224 (0,0))) (hr:Rd w bl A (cN .u64 l)) :
  SeqStopsK Fence.wide n Tryz.prog 307 #[.pointer (some ⟨B,0,none⟩)] (fun x:RunS=>#[runV x.1.1 x.1.2]) (KpC B bl) (fun xs=>xs.map (·.1)=runs l) (fun _=>True) (runs l).length w:=by
 intro lp J Jx W hW hJ hJx hY h0;have HL:=hid hl;have hBW:=(hW.block B (lt_of_block hB)).trans hB;have hrW:=hr.nw hW;have HY:=hid hY;have HJ:=hid hJ;have HB0:=hid hBW;have HH:=hid hrW;clear hl hY hJ hB hr hBW hrW;refine callsIn_of_wp Tryz.func307 rfl trivial ?_ rfl;simp only [Tryz.ntmps307,List.size_toArray,List.length_cons,List.length_nil,Nat.reduceAdd,Nat.reduceSub,Array.replicate_succ,Array.replicate_zero,List.push_toArray,List.append_toArray,List.nil_append,List.cons_append]
 gi_wp2
 gi_loopw [3] (fun v3 wr=>∃ (pre:List RunS) (k:Nat),k≤l.length∧v3=.int .i64 (k:Int)∧J pre wr∧KpC B bl W wr∧runs l=pre.map (·.1)++runs (l.drop k)) (fun v3 _=>l.length - (intOf v3).toNat)
 case atStart=>exact ⟨[],0,by omega,rfl,h0,⟨rfl,rfl,Nat.le_refl _⟩,by simp⟩
 case round =>
  obtain ⟨pre,k,hk,rfl,hJp,hK,hrel⟩:=hrel;have hBr:wr.cell? ⟨B,0,none⟩=some (.slice A l.length c):=by
   have:=hK.1.trans HB0.out;simp [World.cell?,this]
  have HREL:=hid hrel;have HK:=hid hK;clear hrel hK h0;by_cases hlt:k < l.length
  ·have hltI:(k:Int) < (l.length:Int):=by omega
   gi_wp2
   obtain ⟨o,rfl,hbl,hc0⟩:=(HH.out.kpc HK.out).get (k:=k) (by simpa using hlt);rw [List.getElem_map] at hc0;have hv:=HL.out _ (List.getElem_mem hlt);have hd:l.drop k=l[k]::l.drop (k+1):=List.drop_eq_getElem_cons hlt;generalize hvk:l[k]=v at *;have HVK:=hid hvk;have HD:=hid hd;clear hd hvk;obtain ⟨wo,hwo⟩:∃ wo,wo=wr:=⟨_,rfl⟩;subst hwo;have HR0:Hid (Rd wo bl (some ⟨bl,o,none⟩) (cN .u64 l)):=hid (HH.out.kpc HK.out)
   gi_loopw [4] (fun v4 wq=>∃ c0:Nat,1≤c0∧c0≤128∧k+c0≤l.length∧v4=.int .i64 ((k:Int)+(c0:Int))∧Dr wo wq∧runs (l.drop k)=runF v c0 (l.drop (k+c0))) (fun v4 _=>l.length+1 - (intOf v4).toNat)
   case atStart=>exact ⟨1,by omega,by omega,by omega,rfl,Dr.refl _,by rw [HD.out];rfl⟩
   case round =>
    obtain ⟨c0,h1,h128,hkl,rfl,⟨q,rfl⟩,hrun⟩:=hrel;have HRUN:=hid hrun;clear hrun;have hwr:IntKind.i64.wrap (c0:Int)=(c0:Int):=IntWalk.i64_in _ (by omega);have hsub:(k:Int)+(c0:Int) - (k:Int)=(c0:Int):=by omega
    by_cases hA:k+c0 < l.length
    ·have hAI:(k:Int)+(c0:Int) < (l.length:Int):=by omega
     have hAd:decide ((k:Int)+(c0:Int) < (l.length:Int))=true:=by simp;omega
     have hA0:(0:Int)≤(k:Int)+(c0:Int):=by omega
     have hA2:((k:Int)+(c0:Int)).toNat=k+c0:=by omega
     by_cases hB:c0 < 128
     ·have hBI:(c0:Int) < 128:=by omega
      have hBd:decide ((c0:Int) < 128)=true:=by simp;omega
      obtain ⟨o',ho',_,hc1⟩:=HR0.out.get (k:=k+c0) (by simpa using hA);obtain rfl:o=o':=by simpa using ho'
      rw [List.getElem_map] at hc1;have hd1:l.drop (k+c0)=l[k+c0]::l.drop (k+c0+1):=List.drop_eq_getElem_cons hA;generalize l[k+c0]=x at *;have HD1:=hid hd1;clear hd1 ho';by_cases hx:x=v
      ·subst hx;have HX:=hid (show runs (l.drop k)=runF x (c0+1) (l.drop (k+(c0+1))) from by rw [HRUN.out,HD1.out,runF,if_pos ⟨rfl,hB⟩,Nat.add_assoc])
       gi_wp2_with fail
       refine wpIn_wide.2 ?_;refine wp_region_quiet_lit (by kernel_rfl) (by kernel_rfl) ?_
       repeat (with_reducible refine wpQuiet_step ?_;intro K hK;go_simp;refine hK _ ?_;clear hK K)
       with_reducible refine wpQuiet_nil ?_
       rintro _ ⟨nq,rfl⟩
       gi_wp2
       go_roundw
       case rel=>exact ⟨c0+1,by omega,by omega,by omega,by simp;omega,⟨q+nq,rfl⟩,HX.out⟩
       case measure=>simp [intOf];omega
      ·have hxq:((x:Int) == (v:Int))=false:=by rw [beq_eq_false_iff_ne];omega
       have hend:∀ y r,l.drop (k+c0)=y::r→¬ (y=v∧c0 < 128):=by
        intro y r e h;rw [HD1.out] at e;injection e with e1 e2
        exact hx (e1.trans h.1)
       clear hx
       gi_wp2_with fail
       refine wpIn_wide.2 ?_;refine wp_region_quiet_lit (by kernel_rfl) (by kernel_rfl) ?_
       repeat (with_reducible refine wpQuiet_step ?_;intro K hK;go_simp;refine hK _ ?_;clear hK K)
       with_reducible refine wpQuiet_nil ?_
       rintro _ ⟨nq,rfl⟩;have hJ2:J pre (wo.drewN (q+nq)):=HJ.out pre wo _ none hJp ⟨rfl,rfl,rfl,Nat.le_refl _,fun _ _ _=>rfl⟩ (fun r e=>by cases e);have hnext:runs l=(pre++([⟨(v,c0),hv,h1,h128⟩]:List RunS)).map (·.1)++runs (l.drop (k+c0)):=by
        rw [HREL.out,HRUN.out,runF_end (by
         intro x r e;exact hend x r e)]
        simp
       have hplen:pre.length < (runs l).length:=by rw [hnext];simp
       obtain ⟨fn,tmps,assign,body,hy,hR⟩:=HY.out pre ⟨(v,c0),hv,h1,h128⟩ _ hJ2 hplen;have HR:=hid hR;have HNX:=hid hnext;have HSZ:=hid hkl;clear hR hJp hJ2 hnext hend hplen
       gi_wp2
       refine HR.out.mono ?_;rintro e W3 (⟨rfl,hJ3,hk3⟩ | ⟨rfl,hJx3⟩)
       ·gi_wp2
        go_roundw
        case rel=>exact ⟨_,k+c0,HSZ.out,by simp,hJ3,HK.out.trans hk3,HNX.out⟩
        case measure=>simp [intOf];omega
       ·gi_wp2
        refine bodyPost_ret (results_none rfl _ _ _) rfl ?_;exact ⟨⟨_,rfl⟩,.inr ⟨_,trivial,hJx3⟩⟩
     ·have hBd:decide ((c0:Int) < 128)=false:=by simp;omega
      have hBI:¬ (c0:Int) < 128:=by omega
      have hend:∀ y r,l.drop (k+c0)=y::r→¬ (y=v∧c0 < 128):=fun y r e h=>hB h.2
      clear hB
      gi_wp2_with fail
      refine wpIn_wide.2 ?_;refine wp_region_quiet_lit (by kernel_rfl) (by kernel_rfl) ?_
      repeat (with_reducible refine wpQuiet_step ?_;intro K hK;go_simp;refine hK _ ?_;clear hK K)
      with_reducible refine wpQuiet_nil ?_
      rintro _ ⟨nq,rfl⟩;have hJ2:J pre (wo.drewN (q+nq)):=HJ.out pre wo _ none hJp ⟨rfl,rfl,rfl,Nat.le_refl _,fun _ _ _=>rfl⟩ (fun r e=>by cases e);have hnext:runs l=(pre++([⟨(v,c0),hv,h1,h128⟩]:List RunS)).map (·.1)++runs (l.drop (k+c0)):=by
       rw [HREL.out,HRUN.out,runF_end (by
        intro x r e;exact hend x r e)]
       simp
      have hplen:pre.length < (runs l).length:=by rw [hnext];simp
      obtain ⟨fn,tmps,assign,body,hy,hR⟩:=HY.out pre ⟨(v,c0),hv,h1,h128⟩ _ hJ2 hplen;have HR:=hid hR;have HNX:=hid hnext;have HSZ:=hid hkl;clear hR hJp hJ2 hnext hend hplen
      gi_wp2
      refine HR.out.mono ?_;rintro e W3 (⟨rfl,hJ3,hk3⟩ | ⟨rfl,hJx3⟩)
      ·gi_wp2
       go_roundw
       case rel=>exact ⟨_,k+c0,HSZ.out,by simp,hJ3,HK.out.trans hk3,HNX.out⟩
       case measure=>simp [intOf];omega
      ·gi_wp2
       refine bodyPost_ret (results_none rfl _ _ _) rfl ?_;exact ⟨⟨_,rfl⟩,.inr ⟨_,trivial,hJx3⟩⟩
    ·have hAd:decide ((k:Int)+(c0:Int) < (l.length:Int))=false:=by simp;omega
     have hend:∀ y r,l.drop (k+c0)=y::r→¬ (y=v∧c0 < 128):=by
      intro y r e;rw [List.drop_eq_nil_of_le (by omega)] at e;cases e
     clear hA
     gi_wp2_with fail
     refine wpIn_wide.2 ?_;refine wp_region_quiet_lit (by kernel_rfl) (by kernel_rfl) ?_
     repeat (with_reducible refine wpQuiet_step ?_;intro K hK;go_simp;refine hK _ ?_;clear hK K)
     with_reducible refine wpQuiet_nil ?_
     rintro _ ⟨nq,rfl⟩;have hJ2:J pre (wo.drewN (q+nq)):=HJ.out pre wo _ none hJp ⟨rfl,rfl,rfl,Nat.le_refl _,fun _ _ _=>rfl⟩ (fun r e=>by cases e);have hnext:runs l=(pre++([⟨(v,c0),hv,h1,h128⟩]:List RunS)).map (·.1)++runs (l.drop (k+c0)):=by
      rw [HREL.out,HRUN.out,runF_end (by
       intro x r e;exact hend x r e)]
      simp
     have hplen:pre.length < (runs l).length:=by rw [hnext];simp
     obtain ⟨fn,tmps,assign,body,hy,hR⟩:=HY.out pre ⟨(v,c0),hv,h1,h128⟩ _ hJ2 hplen;have HR:=hid hR;have HNX:=hid hnext;have HSZ:=hid hkl;clear hR hJp hJ2 hnext hend hplen
     gi_wp2
     refine HR.out.mono ?_;rintro e W3 (⟨rfl,hJ3,hk3⟩ | ⟨rfl,hJx3⟩)
     ·gi_wp2
      go_roundw
      case rel=>exact ⟨_,k+c0,HSZ.out,by simp,hJ3,HK.out.trans hk3,HNX.out⟩
      case measure=>simp [intOf];omega
     ·gi_wp2
      refine bodyPost_ret (results_none rfl _ _ _) rfl ?_;exact ⟨⟨_,rfl⟩,.inr ⟨_,trivial,hJx3⟩⟩
  ·have hltI:¬ (k:Int) < (l.length:Int):=by omega
   gi_wp2
   go_end0
   refine ⟨⟨_,rfl⟩,.inl ⟨pre,?_,hJp⟩⟩;rw [HREL.out,List.drop_eq_nil_of_le (by omega)];simp [runs]
end
section
open Go Go.RowKit Go.Sort Go.Shelf
attribute [local go_sem] Oper.semAt_some
def RSI (w:World) (pre:List RunS) (W:World):Prop :=
 W.heap[w.heap.size]? = some (.cells #[.int .i64 ((71*pre.length:Nat):Int)] 3 (0,0))∧Nw w W∧w.heap.size+1 < W.heap.size
theorem RSI.own {w:World} {D:Nat} (hD:w.heap.size+2≤D):OwnFrom D (RSI w):=by
 intro pre W W' row h hg hr;obtain ⟨h1,h2,h3⟩:=h;exact ⟨(hg.block _ (lt_of_block h1) (fun e=>by have:=(hr _ e.symm).1;omega)).trans h1,h2.grown' hg (fun k e=>by have:=(hr _ e).1;omega),Nat.lt_of_lt_of_le h3 hg.size⟩
set_option maxRecDepth 100000 in
theorem rSize_any (w:World) (bl:Nat) (A:Option Addr) (n c:Nat) (l:List Nat) (hn:n=l.length) (hm:n≤10000) (hr:Rd w bl A (cN .u64 l)) (hbl:bl < w.heap.size) (hx:∀ x∈l,x < 18446744073709551616) :
  Calls Tryz.prog 202 #[.slice A n c] w fun e w'=>e=.returned (.int .i64 ((rput l).length:Int))∧Nw w w':=by
 subst hn;have hw1:Nw w (w.alloc (.cells #[.int .i64 0] 3)):=(Nw.refl w).alloc' _;refine (callsIn_wide (n:=4)).1 ?_;refine callsIn_of_wp_marks Tryz.func202 rfl trivial ?_ rfl;simp only [Tryz.ntmps202,List.size_toArray,List.length_cons,List.length_nil,Nat.reduceAdd,Nat.reduceSub,Array.replicate_succ,Array.replicate_zero,List.push_toArray,List.append_toArray,List.nil_append,List.cons_append];have HC:=hid fun W A n c=>runs_any W A n c
 gi_wp2_with (first | (refine ⟨trivial,?_⟩;gi_at_call 264;refine (callsIn_wide.2 (HC.out _ _ _ _)).mono ?_;rintro e w4 ⟨rfl,rfl⟩) | (gi_at_call 264;refine (callsIn_wide.2 (HC.out _ _ _ _)).mono ?_;rintro e w4 ⟨rfl,rfl⟩))
 have hsz:((w.alloc (.cells #[.int .i64 0] 3)).alloc (.cells #[.slice A l.length c] 224)).heap.size=w.heap.size+2:=by simp
 have hbb:((w.alloc (.cells #[.int .i64 0] 3)).alloc (.cells #[.slice A l.length c] 224)).heap[w.heap.size+1]? = some (.cells #[.slice A l.length c] 224 (0,0)):=by
  have:=heap_alloc_new (w.alloc (.cells #[.int .i64 0] 3)) (.cells #[.slice A l.length c] 224)
  rwa [World.size_alloc] at this
 have hW0:Nw w ((w.alloc (.cells #[.int .i64 0] 3)).alloc (.cells #[.slice A l.length c] 224)):=hw1.alloc' _;have hrd:=hr.nw hW0;refine wpIn_rangeFunc_ownG (F:=Fence.wide) (n:=4) rfl (by omega) (gf:=307) (lb:=#[.pointer (some ⟨w.heap.size+1,0,none⟩)]) rfl trivial (enters_of Tryz.func307 (by kernel_rfl) rfl)
  (runs_stops 3 (by omega) _ (w.heap.size+1) bl A c l (by omega) hx hbb hrd)
  KpC.trans (fun W lq o o' h1 _ _ _=>KpC.putObj _ _ W lq o' (by have:=hsz;omega) (by have:=hsz;omega)) (Below.refl _ _) (fun _=>rfl)
  (RSI w) (fun _ _ _=>False) (RSI.own (by have:=hsz;omega)) (fun _ _ _ _ _ hs _ _=>hs) ?start ?a1 ?assign ?body ?done ?stop
 case assign =>
  intro l x W K hK
  gi_wp2
  exact hK
 case stop =>
  intro D c pre W _ _ h _;exact h.elim
 case start =>
  exact ⟨(Below.heap_alloc _ _ _ (by simp)).trans (heap_alloc_new w _),hW0,by rw [hsz];omega⟩
 case body =>
  intro lq pre x W hI hlt;obtain ⟨hb,hN,hs⟩:=hI;have hlen:=runs_length_le l;have hc:W.cell? ⟨w.heap.size,0,none⟩=some (.int .i64 ((71*pre.length:Nat):Int)):=by simp [World.cell?,hb]
  have hf:W.frozen? ⟨w.heap.size,0,none⟩=false:=by simp [World.frozen?,hb]
  have HB:=hid hb;obtain ⟨m,hm'⟩:∃ m,m=71*pre.length:=⟨_,rfl⟩;rw [← hm'] at hc HB;have HM:=hid hm';have hml:m≤1000000:=by omega
  clear hm' hb
  gi_wp2
  have hk:Kp w.heap.size w.heap.size W (W.setCell ⟨w.heap.size,0,none⟩ (.int .i64 ((m:Int)+71))):=(Kp.refl _ _ _).setCell' (p:=⟨w.heap.size,0,none⟩) (.inl rfl) _;refine ⟨⟨hk.size,fun k o hk1 ho hoc=>?_⟩,⟨hk.block _ hs (by omega) (by omega),hk.block _ (by omega) (by omega) (by omega),hk.size⟩,?_,Kp.nw hN hk (Nat.le_refl _) (Nat.le_refl _),Nat.lt_of_lt_of_le hs hk.size⟩
  ·exact (hk.block k (lt_of_block ho) (by omega) (by omega)).trans ho
  ·rw [show (((71*(pre++[x]).length:Nat)):Int)=(m:Int)+71 from by rw [HM.out];simp;omega];simp [World.setCell,Array.getElem?_modify,HB.out]
 case done =>
  intro D ys W hD hS hI hK;obtain ⟨hb,hN,hs⟩:=hI;have hc:W.cell? ⟨w.heap.size,0,none⟩=some (.int .i64 ((71*ys.length:Nat):Int)):=by simp [World.cell?,hb]
  have hyl:ys.length=(runs l).length:=by rw [← hS];simp
  have hv:((71*ys.length:Nat):Int)=((rput l).length:Int):=by rw [rput_length,hyl]
  rw [hv] at hc;clear hv hS
  gi_wp2
  refine ⟨by simp,.inl ⟨_,_,rfl,run_takeDeferred hK,?_⟩⟩;exact ⟨_,results_tmp rfl _ _ _,rfl,hN.grown' (grownBy_putObj' W D _) (fun k e=>by cases e;have:=hsz;omega)⟩
end
end Go.Proofs.YtmmonehfnfbpbaaGreatDoor
