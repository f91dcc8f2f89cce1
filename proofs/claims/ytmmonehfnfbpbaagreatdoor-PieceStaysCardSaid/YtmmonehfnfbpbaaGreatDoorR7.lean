/- Laws that the last text builds on. -/
import Derived.Test.YtmmonehfnfbpbaaGreatDoorR6
import Derived.Test.YtmmonehfnfbpbaaGreatDoorProg
namespace Go.Proofs.YtmmonehfnfbpbaaGreatDoor
open Go.Lib(hid)
section
open Go Go.RowKit Go.Sort
theorem results_cell_tmp_row {P:Program} {fn:Func} {p u:Tmp} {ty:TypeId} (h:fn.results=#[.cell p ty,.tmp u]) (tmps:Array Value) (w:World) (g:Nat) (t:TypeId) (cs:Array Value) (fr:Nat × Nat) (d:TypeDesc)
  (hp:tmps.getD p undef=.pointer (some ⟨g,0,none⟩)) (hg:w.heap[g]? = some (.cells cs t fr))
  (hu:P.underlying ty=some d) (hd:(match d with | .struct _ | .array _ _=>true | _=>false)=true) (hi:(P.info? ty).map (·.size)=some cs.size) :
  (results fn tmps).run P w=.ok (.tuple #[.agg cs,tmps.getD u undef]) w:=by
 rw [results_cell_tmp h,hp];simp [asAddr,Result.andThen,run_loadVar_row w g t ty cs fr d hg hu hd hi]
theorem two_set {W:World} {g:Nat} {t:TypeId} {u0 u1:Value} (a b:Value) (h:W.heap[g]? = some (.cells #[u0,u1] t (0,0))):((W.setCell ⟨g,0,none⟩ a).setCell ⟨g,1,none⟩ b).heap[g]? = some (.cells #[a,b] t (0,0)):=by
 simp [World.setCell,Array.getElem?_modify,h]
def RunGot (w:World) (gr b:Nat) (bytes:List Nat) (R:List Bool) (e:Ending) (w':World):Prop :=
 Kp gr gr w w'∧if R.length < 71 then ∃ x c:Int,e=.returned (.tuple #[.agg #[.int .u64 x,.int .i64 c],.int .i64 3])
  else e=.returned (.tuple #[runV (bv (R.take 64)) (bv ((R.drop 64).take 7)+1),.int .i64 0])∧∃ pos,Rdr w' gr b bytes pos∧rest bytes pos=R.drop 71
set_option maxRecDepth 100000 in
theorem getRun_any (w:World) (gr b:Nat) (bytes:List Nat) (pos:Nat) (h:Rdr w gr b bytes pos) (hbb0:bytes=[]∨b < w.heap.size) :
  Calls Tryz.prog 265 #[.pointer (some ⟨gr,0,none⟩)] w (RunGot w gr b bytes (rest bytes pos)):=by
 have hbb:bytes=[]∨(b≠w.heap.size∧b≠w.heap.size):=by rcases hbb0 with h | h;exact .inl h;right;omega
 have hwi:=h.within;have hgl:=h.lt;have hlen:=rest_length bytes pos;have hN1:Nw w (w.alloc (.cells #[.int .u64 0,.int .i64 0] 365)):=(Nw.refl w).alloc' _;have hR1:=h.nw hN1;obtain ⟨R,hR⟩:∃ R,R=rest bytes pos:=⟨_,rfl⟩;rw [← hR] at hlen ⊢;by_cases h64:R.length < 64
 ·have HB:=hid (RBits_eof _ gr b bytes pos 64 hR1 (by omega) (by omega));have H71:Hid (R.length < 71):=hid (by omega);clear h hR1 hR hlen h64 hN1;go_enter Tryz.func265,Tryz.ntmps265
  go_wp2_with (go_at_call 197;refine HB.out.mono ?_;rintro e w1 ⟨rfl,⟨q,rfl⟩⟩)
  have hfin:((((w.alloc (.cells #[.int .u64 0,.int .i64 0] 365)).drewN q).setCell ⟨w.heap.size,0,none⟩ (.int .u64 0)).setCell ⟨w.heap.size,1,none⟩ (.int .i64 0)).heap[w.heap.size]? = some (.cells #[.int .u64 0,.int .i64 0] 365 (0,0)):=by
   have h0:((w.alloc (.cells #[.int .u64 0,.int .i64 0] 365)).drewN q).heap[w.heap.size]? = some (.cells #[.int .u64 0,.int .i64 0] 365 (0,0)):=heap_alloc_new w _;exact two_set _ _ h0
  refine bodyPost_ret (results_cell_tmp_row rfl _ _ w.heap.size 365 #[.int .u64 0,.int .i64 0] _ _ rfl hfin Tryz.underlying365 rfl (by kernel_rfl)) rfl ?_;refine ⟨?_,by rw [if_pos H71.out];exact ⟨0,0,rfl⟩⟩;exact (((Kp.refl gr gr w).alloc' _).drewN' q |>.setCell' (p:=⟨w.heap.size,0,none⟩) (.inr (.inr (Nat.le_refl _))) _).setCell' (p:=⟨w.heap.size,1,none⟩) (.inr (.inr (Nat.le_refl _))) _
 ·have hB:=RBits_ok _ gr b bytes pos 64 hR1 (by omega) (by omega);rw [← hR] at hB;have hd1:rest bytes (pos+64)=R.drop 64:=rest_take hR.symm;obtain ⟨_,hu⟩:=bits_take (r:=R) (n:=64) (by omega);rw [pow64] at hu;have hlen2:(R.drop 64).length=8*bytes.length - (pos+64):=by rw [List.length_drop];omega
  have HB:=hid hB;have hgo:Hid (∃ x,x=bv (R.take 64)):=hid ⟨_,rfl⟩;obtain ⟨x,hx⟩:=hgo.out;rw [← hx] at HB hu;have HX:=hid hx;clear h hR1 hR hB hx;by_cases h71:R.length < 71
  ·have H71:=hid h71;go_enter Tryz.func265,Tryz.ntmps265
   go_wp2_with fail;refine HB.out.mono ?_;rintro e w1 ⟨rfl,hR1,hK1⟩;have hb1:w1.heap[w.heap.size]? = some (.cells #[.int .u64 0,.int .i64 0] 365 (0,0)):=(hK1.block _ (by simp) (by omega) (by omega)).trans (heap_alloc_new w _);have HB2:=hid (RBits_eof w1 gr b bytes (pos+64) 7 hR1 (by omega) (by omega));have HBK:=hid hb1;have HK1:=hid hK1;have hz0:w1.cell? ⟨w.heap.size,0,none⟩=some (.int .u64 0):=by simp [World.cell?,hb1]
   have hz1:w1.cell? ⟨w.heap.size,1,none⟩=some (.int .i64 0):=by simp [World.cell?,hb1]
   have hf0:w1.frozen? ⟨w.heap.size,0,none⟩=false:=by simp [World.frozen?,hb1]
   have hf1:w1.frozen? ⟨w.heap.size,1,none⟩=false:=by simp [World.frozen?,hb1]
   clear hb1 hR1 hK1;go_wp2_with (go_at_call 197;refine HB2.out.mono ?_;rintro e w2 ⟨rfl,⟨q,rfl⟩⟩)
   have hfin:(((w1.drewN q).setCell ⟨w.heap.size,0,none⟩ (.int .u64 (x:Int))).setCell ⟨w.heap.size,1,none⟩ (.int .i64 1)).heap[w.heap.size]? = some (.cells #[.int .u64 (x:Int),.int .i64 1] 365 (0,0)):=by
    have h0:(w1.drewN q).heap[w.heap.size]? = _:=HBK.out;exact two_set _ _ h0
   refine bodyPost_ret (results_cell_tmp_row rfl _ _ w.heap.size 365 #[.int .u64 (x:Int),.int .i64 1] _ _ rfl hfin Tryz.underlying365 rfl (by kernel_rfl)) rfl ?_;refine ⟨?_,by rw [if_pos H71.out];exact ⟨x,1,rfl⟩⟩;have k1:Kp gr gr w w1:=((Kp.refl gr gr w).alloc' _).trans HK1.out (.inl rfl) (.inl rfl);exact ((k1.drewN' q).setCell' (p:=⟨w.heap.size,0,none⟩) (.inr (.inr (Nat.le_refl _))) _).setCell' (p:=⟨w.heap.size,1,none⟩) (.inr (.inr (Nat.le_refl _))) _
  ·have H71:=hid h71;go_enter Tryz.func265,Tryz.ntmps265
   go_wp2_with fail;refine HB.out.mono ?_;rintro e w1 ⟨rfl,hR1,hK1⟩;have hb1:w1.heap[w.heap.size]? = some (.cells #[.int .u64 0,.int .i64 0] 365 (0,0)):=(hK1.block _ (by simp) (by omega) (by omega)).trans (heap_alloc_new w _);have hB2:=RBits_ok w1 gr b bytes (pos+64) 7 hR1 (by omega) (by omega);rw [hd1] at hB2;have hd2:rest bytes (pos+64+7)=R.drop 71:=by rw [rest_take hd1,List.drop_drop]
   obtain ⟨_,hu2⟩:=bits_take (r:=R.drop 64) (n:=7) (by omega);obtain ⟨y,hy⟩:∃ y,y=bv ((R.drop 64).take 7):=⟨_,rfl⟩;rw [← hy] at hB2 hu2;simp only [Nat.reducePow] at hu2;have HB2:=hid hB2;have HY:=hid hy;have HBK:=hid hb1;have HK1:=hid hK1;have HD2:=hid hd2;have hz0:w1.cell? ⟨w.heap.size,0,none⟩=some (.int .u64 0):=by simp [World.cell?,hb1]
   clear hb1 hR1 hK1 hB2 hy hd2 hz0;go_wp2_with fail;refine HB2.out.mono ?_;rintro e w2 ⟨rfl,hR2,hK2⟩;have hb2:w2.heap[w.heap.size]? = some (.cells #[.int .u64 0,.int .i64 0] 365 (0,0)):=(hK2.block _ (lt_of_block HBK.out) (by omega) (by omega)).trans HBK.out;have hz0:w2.cell? ⟨w.heap.size,0,none⟩=some (.int .u64 0):=by simp [World.cell?,hb2]
   have hz1:w2.cell? ⟨w.heap.size,1,none⟩=some (.int .i64 0):=by simp [World.cell?,hb2]
   have hf0:w2.frozen? ⟨w.heap.size,0,none⟩=false:=by simp [World.frozen?,hb2]
   have hf1:w2.frozen? ⟨w.heap.size,1,none⟩=false:=by simp [World.frozen?,hb2]
   have HB3:=hid hb2;have HR2:=hid hR2;have HK2:=hid hK2;clear hb2 hR2 hK2;go_wp2;have hfin:((w2.setCell ⟨w.heap.size,0,none⟩ (.int .u64 (x:Int))).setCell ⟨w.heap.size,1,none⟩ (.int .i64 ((y:Int)+1))).heap[w.heap.size]? = some (.cells #[.int .u64 (x:Int),.int .i64 ((y:Int)+1)] 365 (0,0)):=by
    simp [World.setCell,Array.getElem?_modify,HB3.out]
   refine bodyPost_ret (results_cell_tmp_row rfl _ _ w.heap.size 365 #[.int .u64 (x:Int),.int .i64 ((y:Int)+1)] _ _ rfl hfin Tryz.underlying365 rfl (by kernel_rfl)) rfl ?_;have hkf:Kp w.heap.size w.heap.size w2 ((w2.setCell ⟨w.heap.size,0,none⟩ (.int .u64 (x:Int))).setCell ⟨w.heap.size,1,none⟩ (.int .i64 ((y:Int)+1))):=((Kp.refl _ _ _).setCell' (p:=⟨w.heap.size,0,none⟩) (.inl rfl) _).setCell' (p:=⟨w.heap.size,1,none⟩) (.inl rfl) _;have k1:Kp gr gr w w2:=(((Kp.refl gr gr w).alloc' _).trans HK1.out (.inl rfl) (.inl rfl)).trans HK2.out (.inl rfl) (.inl rfl);refine ⟨k1.trans hkf (.inr (.inr (Nat.le_refl _))) (.inr (.inr (Nat.le_refl _))),?_⟩;rw [if_neg H71.out,← HX.out,← HY.out];exact ⟨rfl,pos+64+7,HR2.out.off hkf (by omega) (by omega) hbb,HD2.out⟩
abbrev rcells (rs:List (Nat × Nat)):List Value:=rs.flatMap fun r=>[.int .u64 (r.1:Int),.int .i64 (r.2:Int)]
theorem rcells_length (rs:List (Nat × Nat)):(rcells rs).length=2*rs.length:=by
 induction rs with
 | nil=>rfl
 | cons r rs ih=>simp only [rcells,List.flatMap_cons,List.length_append,List.length_cons,List.length_nil] at ih ⊢;omega
theorem rcells_get:∀ (rs:List (Nat × Nat)) (k:Nat) (hk:k < rs.length),(rcells rs)[2*k]? = some (.int .u64 (rs[k].1:Int))∧(rcells rs)[2*k+1]? = some (.int .i64 (rs[k].2:Int)):=by
 intro rs;induction rs with
 | nil=>intro k hk;simp at hk
 | cons r rs ih =>
  intro k hk;cases k with
  | zero=>simp [rcells]
  | succ k =>
   have h:=ih k (by simpa using hk);simp only [rcells,List.flatMap_cons,List.getElem_cons_succ] at h ⊢;rw [show 2*(k+1)=2*k+2 from by omega,show 2*k+2+1=(2*k+1)+2 from by omega];exact h
theorem unrun_take (rs:List (Nat × Nat)) (k:Nat) (hk:k < rs.length):unrun (rs.take (k+1))=unrun (rs.take k)++List.replicate rs[k].2 rs[k].1:=by
 rw [List.take_succ_eq_append_getElem hk];unfold unrun;rw [List.flatMap_append];simp only [List.flatMap_cons,List.flatMap_nil,List.append_nil]
set_option maxRecDepth 100000 in
theorem Join_any (w:World) (bl:Nat) (A:Option Addr) (n c:Nat) (rs:List (Nat × Nat)) (hn:n=rs.length) (hm:total rs≤10000) (hr:Rd w bl A (rcells rs)) (h128:∀ r∈rs,r.2≤128) (hn2:n≤10000) :
  Calls Tryz.prog 266 #[.slice A n c] w fun e w'=>∃ b' A' c',e=.returned (.slice A' (unrun rs).length c')∧Ow w' b' 97 1 A' (unrun rs).length c' (cN .u64 (unrun rs))∧w.heap.size≤b'∧Nw w w':=by
 subst hn;have H128:=hid h128;have htot:∀ k,(unrun (rs.take k)).length≤total rs:=by
  intro k;rw [unrun_length];have:=List.take_append_drop k rs;have h2:total rs=total (rs.take k)+total (rs.drop k):=by
   conv=>lhs;rw [← this]
   simp only [total,List.map_append,List.sum_append]
  omega
 have HT:=hid htot;clear h128 htot;go_enter Tryz.func266,Tryz.ntmps266
 go_wp2;go_loopw [3,8] (fun s i wr=>∃ k:Nat,k≤rs.length∧i=.int .i64 k∧∃ (m bk:Nat) (Ak:Option Addr) (ck:Nat),m=(unrun (rs.take k)).length∧s=.slice Ak m ck∧Ow wr bk 97 1 Ak m ck (cN .u64 (unrun (rs.take k)))∧w.heap.size≤bk∧Nw w wr) (fun _ i _=>rs.length - (intOf i).toNat)
 case atStart=>exact ⟨0,by omega,rfl,0,w.heap.size,none,0,rfl,rfl,Ow.nil _ _ _ _,Nat.le_refl _,Nw.refl w⟩
 case round =>
  obtain ⟨k,hk,rfl,m,bk,Ak,ck,hmk,rfl,hO,hbk,hN⟩:=hrel;by_cases hlt:k < rs.length
  ·obtain ⟨hg0,hg1⟩:=rcells_get rs k hlt;have h128:=H128.out _ (List.getElem_mem hlt);have htk:=unrun_take rs k hlt;have hlen:=rcells_length rs;obtain ⟨o,rfl,hbl,hc0⟩:=(hr.nw hN).get (k:=2*k) (by omega);obtain ⟨o',ho',_,hc1⟩:=(hr.nw hN).get (k:=2*k+1) (by omega);obtain rfl:o=o':=by simpa using ho'
   rw [List.getElem?_eq_getElem (by omega)] at hg0 hg1;injection hg0 with hg0
   injection hg1 with hg1
   rw [hg0] at hc0;rw [hg1] at hc1;generalize rs[k].1=v at *;generalize rs[k].2=q at *;have hmm:=HT.out k;have hmm1:=HT.out (k+1);rw [htk,List.length_append,List.length_replicate,← hmk] at hmm1;rw [← Nat.add_assoc] at hc1;rw [Nat.mul_comm 2 k] at hc0 hc1;have HTK:=hid htk;have HMK:=hid hmk;have HO:=hid hO;have HN:=hid hN;have hqI:(q:Int)≤128:=by omega
   clear htk hmk hO hN hg0 hg1 ho';obtain ⟨wo,hwo⟩:∃ wo,wo=wr:=⟨_,rfl⟩;subst hwo;go_wp2;go_loopw [3,17] (fun s i wq=>∃ j:Nat,j≤q∧i=.int .i64 j∧∃ (bj:Nat) (Aj:Option Addr) (cj:Nat),s=.slice Aj (m+j) cj∧Ow wq bj 97 1 Aj (m+j) cj (cN .u64 (unrun (rs.take k)++List.replicate j v))∧w.heap.size≤bj∧bj≠wo.heap.size∧(bj=bk∨wo.heap.size≤bj)∧Kp bk bk wo wq ∧
    wq.heap[wo.heap.size]? = some (.cells #[.int .u64 (v:Int),.int .i64 (q:Int)] 365 (0,0))) (fun _ i _=>q - (intOf i).toNat)
   case atStart =>
    have hN2:Nw wo (wo.alloc (.cells #[.int .u64 (v:Int),.int .i64 (q:Int)] 365)):=(Nw.refl _).alloc' _;have hNs:=HN.out.size;rcases HO.out with ⟨rfl,h1,rfl,h2⟩ | ⟨rfl,hlt2,hOw⟩
    ·subst h1;have hnil:unrun (rs.take k)=[]:=by simpa using h2
     refine ⟨0,by omega,rfl,wo.heap.size+1,none,0,rfl,?_,by omega,by omega,.inr (by omega),hN2.kp _ _,heap_alloc_new wo _⟩;rw [hnil];exact Ow.nil _ _ _ _
    ·refine ⟨0,by omega,rfl,bk,_,ck,rfl,?_,hbk,by omega,.inl rfl,hN2.kp _ _,heap_alloc_new wo _⟩;simpa using HO.out.nw hN2
   case round =>
    obtain ⟨j,hj,rfl,bj,Aj,cj,rfl,hOj,hbj,hne,hbn,hK,hb⟩:=hrel;have hcj0:wr.cell? ⟨wo.heap.size,0,none⟩=some (.int .u64 (v:Int)):=by simp [World.cell?,hb]
    have hcj1:wr.cell? ⟨wo.heap.size,1,none⟩=some (.int .i64 (q:Int)):=by simp [World.cell?,hb]
    have hbl2:=lt_of_block hb;have HB:=hid hb;have HK:=hid hK;have hNs:=HN.out.size;clear hb hK;by_cases hjq:j < q
    ·have hjI:(j:Int) < (q:Int):=by omega
     go_wp2_with (at_builtin;refine wpList_app1 E_u64 rfl (.tmp 19) (.tmp 22) rfl rfl hOj rfl rfl (by omega) (by omega) ?_;intro b1 A1 c1 w5 g1 g2 g3 g4)
     go_roundw
     case rel =>
      refine ⟨j+1,by omega,by go_num,b1,A1,c1,by rw [← Nat.add_assoc],?_,by rcases g2 with rfl | g2<;>omega,by rcases g2 with rfl | g2<;>omega,by rcases g2 with rfl | g2;exact hbn;right;omega,?_,(g3.block _ hbl2 (Ne.symm hne) (Ne.symm hne)).trans HB.out⟩
      ·rw [List.replicate_succ',← List.append_assoc,← Nat.add_assoc];simpa using g1
      ·refine HK.out.trans g3 ?_ ?_;all_goals
        rcases hbn with h | h
        ·exact .inl h
        ·exact .inr (.inr h)
     case measure=>simp [intOf];omega
    ·obtain rfl:j=q:=by omega
     go_wp2;go_roundw
     case rel =>
      refine ⟨k+1,by omega,by go_num,m+j,bj,Aj,cj,by rw [HTK.out,List.length_append,List.length_replicate,HMK.out],rfl,by rw [HTK.out];exact hOj,hbj,Kp.nw HN.out HK.out hbk hbk⟩
     case measure=>simp [intOf];omega
  ·go_wp2;go_ret;obtain rfl:k=rs.length:=by omega
   rw [List.take_length] at hO hmk;subst hmk;exact ⟨bk,Ak,ck,rfl,hO,hbk,hN⟩
end
section
open Go Go.RowKit Go.Sort
theorem rgetF_glue (l:List (Nat × Nat)) (f m v c:Nat) (bs:List Bool):glue l (rgetF (f+1) m v c bs) =
  if m=0 then .ok (l,bs) else if bs.length < 71 then .error 3
  else if m < bv ((bs.drop 64).take 7)+1∨(bv (bs.take 64)=v∧c < 128) then .error 8
  else glue (l++[(bv (bs.take 64),bv ((bs.drop 64).take 7)+1)]) (rgetF f (m - (bv ((bs.drop 64).take 7)+1)) (bv (bs.take 64)) (bv ((bs.drop 64).take 7)+1) (bs.drop 71)):=by
 conv=>lhs;rw [rgetF]
 split
 ·simp [glue]
 ·split
  ·rfl
  ·split
   ·rfl
   ·cases rgetF f (m - (bv ((bs.drop 64).take 7)+1)) (bv (bs.take 64)) (bv ((bs.drop 64).take 7)+1) (bs.drop 71) with
    | error e=>rfl
    | ok y =>
     obtain ⟨l2,r2⟩:=y;simp [glue]
def joinX (X:Except Nat (List (Nat × Nat) × List Bool)):Except Nat (List Nat × List Bool) :=
 match X with
 | .error e=>.error e
 | .ok (l,r)=>.ok (unrun l,r)
theorem E_run:ElemT Tryz.prog 366 365 (.agg #[.int .u64 0,.int .i64 0]) 2 16:=ElemT.mk' Tryz.underlying366 (by kernel_rfl) rfl (by omega)
set_option maxRecDepth 100000 in
set_option maxHeartbeats 1000000 in
theorem rGet_any (w:World) (gr b:Nat) (bytes:List Nat) (pos n:Nat) (h:Rdr w gr b bytes pos) (hb:b < w.heap.size) (hn:n≤10000) :
  Calls Tryz.prog 204 #[.pointer (some ⟨gr,0,none⟩),.int .i64 (n:Int)] w (XGot w gr b bytes (rget n (rest bytes pos))):=by
 have hgl:=h.lt;have hnil:∀ W,(binOp .eql 219 (.pointer (some ⟨gr,0,none⟩)) (.pointer none)).run Tryz.prog W=.ok (.bool false) W:=fun _=>by kernel_rfl
 obtain ⟨X,hX⟩:∃ X,X=rgetR n (rest bytes pos):=⟨_,rfl⟩;have hXe:rget n (rest bytes pos)=joinX X:=by rw [hX];rfl
 rw [hXe];have HR:=hid h;have HX:=hid hX;clear h hX hXe;go_enter Tryz.func204,Tryz.ntmps204
 go_wp2;go_loopw [1,6] (fun vn vs wr=>∃ (m k f:Nat) (rs:List (Nat × Nat)) (v c bk:Nat) (Ak:Option Addr) (ck p:Nat),vn=.int .i64 m∧vs=.slice Ak k ck∧k=rs.length∧m < f∧total rs+m=n∧k+m≤n∧(∀ r∈rs,r.2≤128)∧v < 18446744073709551616∧c≤128 ∧
  Ow wr bk 365 2 Ak k ck (rcells rs)∧w.heap.size < bk∧wr.heap[w.heap.size]? = some (.cells #[.int .u64 (v:Int),.int .i64 (c:Int)] 365 (0,0)) ∧
  Rdr wr gr b bytes p∧Kp gr gr w wr∧X=glue rs (rgetF f m v c (rest bytes p))) (fun vn _ _=>(intOf vn).toNat)
 case atStart =>
  have hN:Nw w (w.alloc (.cells #[.int .u64 0,.int .i64 128] 365)):=(Nw.refl w).alloc' _;refine ⟨n,0,n+1,[],0,128,w.heap.size+1,none,0,pos,rfl,rfl,rfl,by omega,by simp [total],by omega,by simp,by omega,by omega,Ow.nil _ _ _ _,by omega,heap_alloc_new w _,HR.out.nw hN,hN.kp _ _,?_⟩;rw [HX.out];unfold rgetR;cases rgetF (n+1) n 0 128 (rest bytes pos) with
  | error e=>rfl
  | ok y=>rfl
 case round =>
  obtain ⟨m,k,f,rs,v,c,bk,Ak,ck,p,rfl,rfl,hk,hmf,htot,hkm,h128,hv,hc,hO,hbk,hb7,hR,hK,hXX⟩:=hrel;subst hk;obtain ⟨f,rfl⟩:∃ f',f=f'+1:=⟨f - 1,by omega⟩;rw [rgetF_glue] at hXX;by_cases hm0:m=0
  ·subst hm0;rw [if_pos rfl] at hXX;have HJ:=hid (Join_any wr bk Ak rs.length ck rs rfl (by omega) hO.rd h128 (by omega));have HXX:=hid hXX;have HK:=hid hK;clear hXX hO hb7 hK;go_wp2_with (go_at_call 266;refine HJ.out.mono ?_;rintro e w2 ⟨b2,A2,c2,rfl,hO2,hb2,hN2⟩)
   go_ret2;rw [HXX.out];have hKs:=HK.out.size;exact ⟨⟨⟨b2,A2,c2,rfl,hO2,by omega⟩,p,hR.nw hN2,rfl⟩,HK.out.nw' hN2⟩
  ·rw [if_neg hm0] at hXX;have hm0I:(0:Int) < (m:Int):=by omega
   have hKs:=hK.size;have hG:=getRun_any wr gr b bytes p hR (.inr (by omega));by_cases h71:(rest bytes p).length < 71
   ·rw [if_pos h71] at hXX;unfold RunGot at hG;simp only [if_pos h71] at hG;have HG:=hid hG;have HXX:=hid hXX;have HK:=hid hK;clear hXX hG hO hb7 hK hR h71;go_wp2_with fail;refine HG.out.mono ?_;rintro e w2 ⟨hK2,x,y,rfl⟩;go_wp2;go_ret2;rw [HXX.out];exact ⟨⟨rfl,by omega⟩,(HK.out.trans hK2 (.inl rfl) (.inl rfl)).alloc' _⟩
   ·rw [if_neg h71] at hXX;unfold RunGot at hG;simp only [if_neg h71] at hG;obtain ⟨_,hu⟩:=bits_take (r:=rest bytes p) (n:=64) (by omega);rw [pow64] at hu;obtain ⟨_,hu2⟩:=bits_take (r:=(rest bytes p).drop 64) (n:=7) (by rw [List.length_drop];omega);generalize bv ((rest bytes p).take 64)=x at *;generalize bv (((rest bytes p).drop 64).take 7)=y at *;simp only [Nat.reducePow] at hu2;obtain ⟨q,hq⟩:∃ q,q=y+1:=⟨_,rfl⟩;rw [← hq] at hXX hG;have hq1:1≤q:=by omega
    have hq2:q≤128:=by omega
    clear hq hu2;have HG:=hid hG;have HK:=hid hK;have HO:=hid hO;have HB7:=hid hb7;have H128:=hid h128;clear hG hO hb7 hK hR h71 h128;go_wp2_with fail;refine HG.out.mono ?_;rintro e w2 ⟨hK2,rfl,p2,hR2,hr2⟩;have hK2s:=hK2.size;have hb7':=(hK2.block _ (lt_of_block HB7.out) (by omega) (by omega)).trans HB7.out;have hN3:Nw w2 (w2.alloc (.cells #[.int .u64 (x:Int),.int .i64 (q:Int)] 365)):=(Nw.refl w2).alloc' _;have hcl0:(w2.alloc (.cells #[.int .u64 (x:Int),.int .i64 (q:Int)] 365)).cell? ⟨w.heap.size,0,none⟩=some (.int .u64 (v:Int)):=cell_old hN3 (lt_of_block hb7') (by simp [World.cell?,hb7']);have hcl1:(w2.alloc (.cells #[.int .u64 (x:Int),.int .i64 (q:Int)] 365)).cell? ⟨w.heap.size,1,none⟩=some (.int .i64 (c:Int)):=cell_old hN3 (lt_of_block hb7') (by simp [World.cell?,hb7']);have HB7':=hid hb7';have HR2:=hid hR2;have HRR:=hid hr2;have HK2:=hid hK2;clear hR2 hr2 hK2 hb7';by_cases hA:m < q
    ·rw [if_pos (.inl hA)] at hXX;have HXX:=hid hXX;have hAI:(m:Int) < (q:Int):=by omega
     clear hXX;go_wp2;go_ret2;rw [HXX.out];exact ⟨⟨rfl,by omega⟩,(HK.out.trans HK2.out (.inl rfl) (.inl rfl)).alloc' _⟩
    ·have hAI:¬ (m:Int) < (q:Int):=by omega
     by_cases hB:x=v∧c < 128
     ·rw [if_pos (.inr hB)] at hXX;have HXX:=hid hXX;obtain ⟨rfl,hc128⟩:=hB;have hcI:(c:Int) < 128:=by omega
      clear hXX;go_wp2;go_ret2;rw [HXX.out];exact ⟨⟨rfl,by omega⟩,(HK.out.trans HK2.out (.inl rfl) (.inl rfl)).alloc' _⟩
     ·rw [if_neg (fun h=>h.elim hA hB)] at hXX;have HXX:=hid hXX;clear hXX;have hgd:((x:Int) == (v:Int) && decide ((c:Int) < 128))=false:=by
       rw [Bool.and_eq_false_iff,beq_eq_false_iff_ne,decide_eq_false_iff_not];by_cases hx:x=v
       ·right;intro h;exact hB ⟨hx,by omega⟩
       ·left;omega
      clear hB;by_cases hx:x=v
      ·have hc128:¬ (c:Int) < 128:=by subst hx;simp at hgd;omega
       have hxv:((x:Int) == (v:Int))=true:=by rw [beq_iff_eq];omega
       have HX0:=hid hx;clear hx hgd;go_wp2_with fail;have hO3:=(HO.out.kp HK2.out (by omega) (by omega)).nw hN3;have hb83:(w2.alloc (.cells #[.int .u64 (x:Int),.int .i64 (q:Int)] 365)).heap[w2.heap.size]? = some (.cells #[.int .u64 (x:Int),.int .i64 (q:Int)] 365 (0,0)):=heap_alloc_new w2 _;have hb73:(w2.alloc (.cells #[.int .u64 (x:Int),.int .i64 (q:Int)] 365)).heap[w.heap.size]? = some (.cells #[.int .u64 (v:Int),.int .i64 (c:Int)] 365 (0,0)):=(hN3.block _ (lt_of_block HB7'.out)).trans HB7'.out;have hR3:=HR2.out.nw hN3;have hK3:Kp gr gr w (w2.alloc (.cells #[.int .u64 (x:Int),.int .i64 (q:Int)] 365)):=(HK.out.trans HK2.out (.inl rfl) (.inl rfl)).alloc' _;have ht8:w.heap.size < w2.heap.size:=lt_of_block HB7'.out;have hbT:Ak=none∨(Ak=some ⟨bk,0,none⟩∧bk < w2.heap.size):=by
        rcases HO.out.kp HK2.out (by omega) (by omega) with ⟨h,_⟩ | ⟨h,h',_⟩
        ·exact .inl h
        ·exact .inr ⟨h,h'⟩
       generalize hw3:w2.alloc (.cells #[.int .u64 (x:Int),.int .i64 (q:Int)] 365)=w3 at *;generalize w2.heap.size=T8 at *;have h8l:=lt_of_block hb83;have h7l:=lt_of_block hb73;have hs0:w3.cell? ⟨T8,0,none⟩=some (.int .u64 (x:Int)):=by simp [World.cell?,hb83]
       have hs1:w3.cell? ⟨T8,1,none⟩=some (.int .i64 (q:Int)):=by simp [World.cell?,hb83]
       obtain ⟨i0,hi,hz0,hz1,hz2⟩:=E_run.info;have HOW:=hid fun W (hN:Nw w3 W)=>(hO3.nw hN).row
       have HO3:=hid hO3;have HR3:=hid hR3;have HK3:=hid hK3;have HB73:=hid hb73;have HB83:=hid hb83;have hlr:rs.length≤10000:=by omega
       have HOB8:Hid (some T8≠(Value.slice Ak rs.length ck).ownBlock):=hid (by
        rcases hbT with rfl | ⟨rfl,h⟩
        ·simp [Value.ownBlock]
        ·simp [Value.ownBlock];omega)
       have HOB7:Hid (some w.heap.size≠(Value.slice Ak rs.length ck).ownBlock):=hid (by
        rcases hbT with rfl | ⟨rfl,h⟩
        ·simp [Value.ownBlock]
        ·simp [Value.ownBlock];omega)
       have HOWB:Hid (∀ j,(Value.slice Ak rs.length ck).ownBlock=some j→j=bk):=hid (by
        rcases hbT with rfl | ⟨rfl,h⟩
        ·simp [Value.ownBlock]
        ·simp [Value.ownBlock])
       have h70:w3.cell? ⟨w.heap.size,0,none⟩=some (.int .u64 (v:Int)):=by simp [World.cell?,hb73]
       have h71c:w3.cell? ⟨w.heap.size,1,none⟩=some (.int .i64 (c:Int)):=by simp [World.cell?,hb73]
       have h7f0:w3.frozen? ⟨w.heap.size,0,none⟩=false:=by simp [World.frozen?,hb73]
       have h7f1:w3.frozen? ⟨w.heap.size,1,none⟩=false:=by simp [World.frozen?,hb73]
       have H70:=hid h70;have H71c:=hid h71c;have H7f0:=hid h7f0;have H7f1:=hid h7f1;have HS0:=hid hs0;have HS1:=hid hs1;have HW5:Hid (∀ W5,(w3.drew.alloc (.cells #[.int .u64 (x:Int),.int .i64 (q:Int)] 365)).grownBy W5 (Value.slice Ak rs.length ck).ownBlock→(W5.cell? ⟨T8,0,none⟩=some (.int .u64 (x:Int))∧W5.cell? ⟨T8,1,none⟩=some (.int .i64 (q:Int)))∧W5.cell? ⟨w.heap.size,0,none⟩=some (.int .u64 (v:Int))∧W5.cell? ⟨w.heap.size,1,none⟩=some (.int .i64 (c:Int))∧W5.frozen? ⟨w.heap.size,0,none⟩=false∧W5.frozen? ⟨w.heap.size,1,none⟩=false∧W5.heap[w.heap.size]? = some (.cells #[.int .u64 (v:Int),.int .i64 (c:Int)] 365 (0,0))):=by
        refine hid fun W5 hg=>?_
        have hN4:Nw w3 (w3.drew.alloc (.cells #[.int .u64 (x:Int),.int .i64 (q:Int)] 365)):=(Nw.drewO w3).alloc' _;have h8:=(hg.block T8 (Nat.lt_of_lt_of_le h8l hN4.size) HOB8.out).trans (hN4.block T8 h8l);have h7:=(hg.block _ (Nat.lt_of_lt_of_le h7l hN4.size) HOB7.out).trans (hN4.block _ h7l);have h7':=h7.trans hb73;exact ⟨⟨(World.cell?_of_block h8).trans HS0.out,(World.cell?_of_block h8).trans HS1.out⟩,(World.cell?_of_block h7).trans H70.out,(World.cell?_of_block h7).trans H71c.out,(World.frozen?_of_block h7).trans H7f0.out,(World.frozen?_of_block h7).trans H7f1.out,h7'⟩
       clear h70 h71c h7f0 h7f1;clear hO3 hR3 hK3 hcl0 hcl1 hN3 hw3 hb83 hbT hb73;have hne78:w.heap.size≠T8:=by omega
       go_region_held3 (fun w'=>w'.cell? ⟨T8,0,none⟩=some (.int .u64 (x:Int))∧w'.cell? ⟨T8,1,none⟩=some (.int .i64 (q:Int)))
        (first | exact ⟨hs0,hs1⟩ | exact ⟨hp0,hp1⟩ | exact ⟨cell_past h8l hs0,cell_past h8l hs1⟩ | exact ⟨cell_skip (Ne.symm hne78) (cell_skip (Ne.symm hne78) hp0),cell_skip (Ne.symm hne78) (cell_skip (Ne.symm hne78) hp1)⟩ | (constructor<;>simp [*]))
        (first
         | (refine step_append_lies _ rfl (.tmp 43) (.tmp 45) 366 rfl 0 365 i0 (.agg #[.int .u64 0,.int .i64 0]) 2 16 Tryz.underlying366 hi hz0 hz1 hz2 rfl (by omega) _ rs.length (rcells rs) rfl (HOW.out _ (Nw.alloc' (Nw.drewO _) _)) ⟨_,0,none⟩ 1 1 [.int .u64 (x:Int),.int .i64 (q:Int)] rfl rfl (World.news_of_block (heap_alloc_new _ _)) (by intro u hu;simp at hu;rcases hu with rfl | rfl<;>rfl) (by omega) (by simp only [maxLen];omega) (by omega) (Nat.zero_le _) _ rfl ?_;intro g5 cap5 w5 q1 q2 q3 q4;obtain ⟨⟨hp0,hp1⟩,hr0,hr1,hrf0,hrf1,hrb⟩:=HW5.out w5 q2))
       have HB5:=hid hrb;have hkA:Kp bk bk w3 w5:=by
        have h1:Kp bk bk w3 (w3.drew.alloc (.cells #[.int .u64 (x:Int),.int .i64 (q:Int)] 365)):=((Nw.drewO w3).alloc' _).kp _ _;exact h1.grown q2 (fun j e=>.inl (HOWB.out j e))
       have hkB:Kp w.heap.size w.heap.size w5 ((w5.setCell ⟨w.heap.size,0,none⟩ (.int .u64 (x:Int))).setCell ⟨w.heap.size,1,none⟩ (.int .i64 (q:Int))):=((Kp.refl _ _ _).setCell' (p:=⟨w.heap.size,0,none⟩) (.inl rfl) _).setCell' (p:=⟨w.heap.size,1,none⟩) (.inl rfl) _;have hg5:w.heap.size < g5:=by
        rcases q3 with h | h
        ·have:=HOWB.out g5 h;omega
        ·have h2:g5=w3.heap.size+1:=by simpa using h
         omega
       have hO5:Ow w5 g5 365 2 (some ⟨g5,0,none⟩) (rs.length+1) cap5 (rcells (rs++[(x,q)])):=by
        have e:rcells (rs++[(x,q)])=rcells rs++[.int .u64 (x:Int),.int .i64 (q:Int)]:=by simp [rcells]
        rw [e];exact .inr ⟨rfl,q4,q1⟩
       have hO6:=hO5.kp hkB (by omega) (by omega);have hb6:=two_set (.int .u64 (x:Int)) (.int .i64 (q:Int)) HB5.out;have hR6:=(HR3.out.off hkA (by omega) (by omega) (.inr ⟨by omega,by omega⟩)).off hkB (by omega) (by omega) (.inr ⟨by omega,by omega⟩);have hK6:=(HK3.out.trans hkA (.inr (.inr (by omega))) (.inr (.inr (by omega)))).trans hkB (.inr (.inr (Nat.le_refl _))) (.inr (.inr (Nat.le_refl _)));have he6:((w5.setCell ⟨w.heap.size,0,none⟩ (.int .u64 (x:Int))).setCell ⟨w.heap.size,1,none⟩ (.int .i64 (q:Int))).cell? ⟨T8,1,none⟩=some (.int .i64 (q:Int)):=cell_skip (Ne.symm hne78) (cell_skip (Ne.symm hne78) hp1);generalize (w5.setCell ⟨w.heap.size,0,none⟩ (.int .u64 (x:Int))).setCell ⟨w.heap.size,1,none⟩ (.int .i64 (q:Int))=w6 at *;have HO6:=hid hO6;have HB6:=hid hb6;have HR6:=hid hR6;have HK6:=hid hK6;clear hO6 hb6 hR6 hK6 hO5 hkA hkB q1 q2 q3 q4 hrb HB5 hr0 hr1 hrf0 hrf1 hp0 hp1 hs0 hs1;go_wp2;go_roundw
       case rel =>
        refine ⟨m - q,rs.length+1,f,rs++[(x,q)],x,q,g5,some ⟨g5,0,none⟩,cap5,p2,?_,rfl,by simp,by omega,?_,by omega,?_,hu,hq2,HO6.out,hg5,HB6.out,HR6.out,HK6.out,?_⟩
        ·go_num
        ·simp [total] at htot ⊢;omega
        ·intro r hr;rcases List.mem_append.1 hr with h | h
         ·exact H128.out r h
         ·simp at h;subst h;exact hq2
        ·rw [HXX.out,HRR.out]
       case measure=>simp [intOf];omega
      ·have hxv:((x:Int) == (v:Int))=false:=by rw [beq_eq_false_iff_ne];omega
       have HX0:=hid hx;clear hx hgd;go_wp2_with fail;have hO3:=(HO.out.kp HK2.out (by omega) (by omega)).nw hN3;have hb83:(w2.alloc (.cells #[.int .u64 (x:Int),.int .i64 (q:Int)] 365)).heap[w2.heap.size]? = some (.cells #[.int .u64 (x:Int),.int .i64 (q:Int)] 365 (0,0)):=heap_alloc_new w2 _;have hb73:(w2.alloc (.cells #[.int .u64 (x:Int),.int .i64 (q:Int)] 365)).heap[w.heap.size]? = some (.cells #[.int .u64 (v:Int),.int .i64 (c:Int)] 365 (0,0)):=(hN3.block _ (lt_of_block HB7'.out)).trans HB7'.out;have hR3:=HR2.out.nw hN3;have hK3:Kp gr gr w (w2.alloc (.cells #[.int .u64 (x:Int),.int .i64 (q:Int)] 365)):=(HK.out.trans HK2.out (.inl rfl) (.inl rfl)).alloc' _;have ht8:w.heap.size < w2.heap.size:=lt_of_block HB7'.out;have hbT:Ak=none∨(Ak=some ⟨bk,0,none⟩∧bk < w2.heap.size):=by
        rcases HO.out.kp HK2.out (by omega) (by omega) with ⟨h,_⟩ | ⟨h,h',_⟩
        ·exact .inl h
        ·exact .inr ⟨h,h'⟩
       generalize hw3:w2.alloc (.cells #[.int .u64 (x:Int),.int .i64 (q:Int)] 365)=w3 at *;generalize w2.heap.size=T8 at *;have h8l:=lt_of_block hb83;have h7l:=lt_of_block hb73;have hs0:w3.cell? ⟨T8,0,none⟩=some (.int .u64 (x:Int)):=by simp [World.cell?,hb83]
       have hs1:w3.cell? ⟨T8,1,none⟩=some (.int .i64 (q:Int)):=by simp [World.cell?,hb83]
       obtain ⟨i0,hi,hz0,hz1,hz2⟩:=E_run.info;have HOW:=hid fun W (hN:Nw w3 W)=>(hO3.nw hN).row
       have HO3:=hid hO3;have HR3:=hid hR3;have HK3:=hid hK3;have HB73:=hid hb73;have HB83:=hid hb83;have hlr:rs.length≤10000:=by omega
       have HOB8:Hid (some T8≠(Value.slice Ak rs.length ck).ownBlock):=hid (by
        rcases hbT with rfl | ⟨rfl,h⟩
        ·simp [Value.ownBlock]
        ·simp [Value.ownBlock];omega)
       have HOB7:Hid (some w.heap.size≠(Value.slice Ak rs.length ck).ownBlock):=hid (by
        rcases hbT with rfl | ⟨rfl,h⟩
        ·simp [Value.ownBlock]
        ·simp [Value.ownBlock];omega)
       have HOWB:Hid (∀ j,(Value.slice Ak rs.length ck).ownBlock=some j→j=bk):=hid (by
        rcases hbT with rfl | ⟨rfl,h⟩
        ·simp [Value.ownBlock]
        ·simp [Value.ownBlock])
       have h70:w3.cell? ⟨w.heap.size,0,none⟩=some (.int .u64 (v:Int)):=by simp [World.cell?,hb73]
       have h71c:w3.cell? ⟨w.heap.size,1,none⟩=some (.int .i64 (c:Int)):=by simp [World.cell?,hb73]
       have h7f0:w3.frozen? ⟨w.heap.size,0,none⟩=false:=by simp [World.frozen?,hb73]
       have h7f1:w3.frozen? ⟨w.heap.size,1,none⟩=false:=by simp [World.frozen?,hb73]
       have H70:=hid h70;have H71c:=hid h71c;have H7f0:=hid h7f0;have H7f1:=hid h7f1;have HS0:=hid hs0;have HS1:=hid hs1;have HW5:Hid (∀ W5,(w3.drew.alloc (.cells #[.int .u64 (x:Int),.int .i64 (q:Int)] 365)).grownBy W5 (Value.slice Ak rs.length ck).ownBlock→(W5.cell? ⟨T8,0,none⟩=some (.int .u64 (x:Int))∧W5.cell? ⟨T8,1,none⟩=some (.int .i64 (q:Int)))∧W5.cell? ⟨w.heap.size,0,none⟩=some (.int .u64 (v:Int))∧W5.cell? ⟨w.heap.size,1,none⟩=some (.int .i64 (c:Int))∧W5.frozen? ⟨w.heap.size,0,none⟩=false∧W5.frozen? ⟨w.heap.size,1,none⟩=false∧W5.heap[w.heap.size]? = some (.cells #[.int .u64 (v:Int),.int .i64 (c:Int)] 365 (0,0))):=by
        refine hid fun W5 hg=>?_
        have hN4:Nw w3 (w3.drew.alloc (.cells #[.int .u64 (x:Int),.int .i64 (q:Int)] 365)):=(Nw.drewO w3).alloc' _;have h8:=(hg.block T8 (Nat.lt_of_lt_of_le h8l hN4.size) HOB8.out).trans (hN4.block T8 h8l);have h7:=(hg.block _ (Nat.lt_of_lt_of_le h7l hN4.size) HOB7.out).trans (hN4.block _ h7l);have h7':=h7.trans hb73;exact ⟨⟨(World.cell?_of_block h8).trans HS0.out,(World.cell?_of_block h8).trans HS1.out⟩,(World.cell?_of_block h7).trans H70.out,(World.cell?_of_block h7).trans H71c.out,(World.frozen?_of_block h7).trans H7f0.out,(World.frozen?_of_block h7).trans H7f1.out,h7'⟩
       clear h70 h71c h7f0 h7f1;clear hO3 hR3 hK3 hcl0 hcl1 hN3 hw3 hb83 hbT hb73;have hne78:w.heap.size≠T8:=by omega
       go_region_held3 (fun w'=>w'.cell? ⟨T8,0,none⟩=some (.int .u64 (x:Int))∧w'.cell? ⟨T8,1,none⟩=some (.int .i64 (q:Int)))
        (first | exact ⟨hs0,hs1⟩ | exact ⟨hp0,hp1⟩ | exact ⟨cell_past h8l hs0,cell_past h8l hs1⟩ | exact ⟨cell_skip (Ne.symm hne78) (cell_skip (Ne.symm hne78) hp0),cell_skip (Ne.symm hne78) (cell_skip (Ne.symm hne78) hp1)⟩ | (constructor<;>simp [*]))
        (first
         | (refine step_append_lies _ rfl (.tmp 43) (.tmp 45) 366 rfl 0 365 i0 (.agg #[.int .u64 0,.int .i64 0]) 2 16 Tryz.underlying366 hi hz0 hz1 hz2 rfl (by omega) _ rs.length (rcells rs) rfl (HOW.out _ (Nw.alloc' (Nw.drewO _) _)) ⟨_,0,none⟩ 1 1 [.int .u64 (x:Int),.int .i64 (q:Int)] rfl rfl (World.news_of_block (heap_alloc_new _ _)) (by intro u hu;simp at hu;rcases hu with rfl | rfl<;>rfl) (by omega) (by simp only [maxLen];omega) (by omega) (Nat.zero_le _) _ rfl ?_;intro g5 cap5 w5 q1 q2 q3 q4;obtain ⟨⟨hp0,hp1⟩,hr0,hr1,hrf0,hrf1,hrb⟩:=HW5.out w5 q2))
       have HB5:=hid hrb;have hkA:Kp bk bk w3 w5:=by
        have h1:Kp bk bk w3 (w3.drew.alloc (.cells #[.int .u64 (x:Int),.int .i64 (q:Int)] 365)):=((Nw.drewO w3).alloc' _).kp _ _;exact h1.grown q2 (fun j e=>.inl (HOWB.out j e))
       have hkB:Kp w.heap.size w.heap.size w5 ((w5.setCell ⟨w.heap.size,0,none⟩ (.int .u64 (x:Int))).setCell ⟨w.heap.size,1,none⟩ (.int .i64 (q:Int))):=((Kp.refl _ _ _).setCell' (p:=⟨w.heap.size,0,none⟩) (.inl rfl) _).setCell' (p:=⟨w.heap.size,1,none⟩) (.inl rfl) _;have hg5:w.heap.size < g5:=by
        rcases q3 with h | h
        ·have:=HOWB.out g5 h;omega
        ·have h2:g5=w3.heap.size+1:=by simpa using h
         omega
       have hO5:Ow w5 g5 365 2 (some ⟨g5,0,none⟩) (rs.length+1) cap5 (rcells (rs++[(x,q)])):=by
        have e:rcells (rs++[(x,q)])=rcells rs++[.int .u64 (x:Int),.int .i64 (q:Int)]:=by simp [rcells]
        rw [e];exact .inr ⟨rfl,q4,q1⟩
       have hO6:=hO5.kp hkB (by omega) (by omega);have hb6:=two_set (.int .u64 (x:Int)) (.int .i64 (q:Int)) HB5.out;have hR6:=(HR3.out.off hkA (by omega) (by omega) (.inr ⟨by omega,by omega⟩)).off hkB (by omega) (by omega) (.inr ⟨by omega,by omega⟩);have hK6:=(HK3.out.trans hkA (.inr (.inr (by omega))) (.inr (.inr (by omega)))).trans hkB (.inr (.inr (Nat.le_refl _))) (.inr (.inr (Nat.le_refl _)));have he6:((w5.setCell ⟨w.heap.size,0,none⟩ (.int .u64 (x:Int))).setCell ⟨w.heap.size,1,none⟩ (.int .i64 (q:Int))).cell? ⟨T8,1,none⟩=some (.int .i64 (q:Int)):=cell_skip (Ne.symm hne78) (cell_skip (Ne.symm hne78) hp1);generalize (w5.setCell ⟨w.heap.size,0,none⟩ (.int .u64 (x:Int))).setCell ⟨w.heap.size,1,none⟩ (.int .i64 (q:Int))=w6 at *;have HO6:=hid hO6;have HB6:=hid hb6;have HR6:=hid hR6;have HK6:=hid hK6;clear hO6 hb6 hR6 hK6 hO5 hkA hkB q1 q2 q3 q4 hrb HB5 hr0 hr1 hrf0 hrf1 hp0 hp1 hs0 hs1;go_wp2;go_roundw
       case rel =>
        refine ⟨m - q,rs.length+1,f,rs++[(x,q)],x,q,g5,some ⟨g5,0,none⟩,cap5,p2,?_,rfl,by simp,by omega,?_,by omega,?_,hu,hq2,HO6.out,hg5,HB6.out,HR6.out,HK6.out,?_⟩
        ·go_num
        ·simp [total] at htot ⊢;omega
        ·intro r hr;rcases List.mem_append.1 hr with h | h
         ·exact H128.out r h
         ·simp at h;subst h;exact hq2
        ·rw [HXX.out,HRR.out]
       case measure=>simp [intOf];omega
end
section
open Go Go.RowKit
def encFs:Array Value:=#[.func (.func 199) #[] #[],.func (.func 200) #[] #[],.func (.func 201) #[] #[],
 .func (.func 202) #[] #[],.func (.func 203) #[] #[],.func (.func 204) #[] #[],
 .func (.func 205) #[] #[],.func (.func 206) #[] #[],.func (.func 207) #[] #[]]
theorem encodings_any (w:World):Calls Tryz.prog 139 #[] w fun e w'=>e=.returned (.agg encFs)∧Nw w w':=by
 go_enter Tryz.func139,Tryz.ntmps139
 go_wp2;refine bodyPost_ret (results_cell_row rfl _ _ w.heap.size 231 _ _ _ rfl (heap_alloc_new _ _) Tryz.underlying231 rfl (by kernel_rfl)) rfl ?_;exact ⟨rfl,(Nw.refl w).alloc' _⟩
theorem three_set {w W:World} {g0 g k:Nat} {x0 x1 x2 x:Value} {t:TypeId} {hd:Array Value} (hN:Nw w W) (h1:w.heap.size≤g) (h2:g0≠g)
  (hO:W.heap[g]? = some (.cells #[x0,x1,x2] t (0,0))) (hZ:W.heap[g0]? = some (.cells hd t (0,0))) :
  Nw w (W.setCell ⟨g,k,none⟩ x)∧(W.setCell ⟨g,k,none⟩ x).heap[g]? = some (.cells (#[x0,x1,x2].setIfInBounds k x) t (0,0))∧(W.setCell ⟨g,k,none⟩ x).heap[g0]? = some (.cells hd t (0,0)) :=
 ⟨Kp.nw hN ((Kp.refl g g W).setCell' (.inl rfl) x) h1 h1,by simp [World.setCell,Array.getElem?_modify,hO],by simp [World.setCell,Array.getElem?_modify,hZ,Ne.symm h2]⟩
theorem three_at {W:World} {g:Nat} {x0 x1 x2:Value} {t:TypeId} (hO:W.heap[g]? = some (.cells #[x0,x1,x2] t (0,0))) :
  (W.cell? ⟨g,0,none⟩=some x0∧W.cell? ⟨g,1,none⟩=some x1∧W.cell? ⟨g,2,none⟩=some x2)∧W.frozen? ⟨g,0,none⟩=false∧W.frozen? ⟨g,1,none⟩=false∧W.frozen? ⟨g,2,none⟩=false :=
 ⟨⟨by simp [World.cell?,hO],by simp [World.cell?,hO],by simp [World.cell?,hO]⟩,by simp [World.frozen?,hO],by simp [World.frozen?,hO],by simp [World.frozen?,hO]⟩
theorem block_on {W W':World} {g:Nat} {o o':Obj} (hN:Nw (W.alloc o) W') (h:W.heap[g]? = some o'):W'.heap[g]? = some o':=by
 have hl:=lt_of_block h;rw [hN.block g (by simp;omega)];exact (heap_alloc_old W o hl).trans h
theorem Sizes_any (w:World) (b:Nat) (A:Option Addr) (n c:Nat) (l:List Nat) (hn:n=l.length) (hm:n≤10000) (hr:Rd w b A (cN .u64 l)) (hb:b < w.heap.size) (hx:∀ x∈l,x < 18446744073709551616) (hG:Gl w) :
  Calls Tryz.prog 210 #[.slice A n c] w fun e w'=>e=.returned (.agg #[.int .i64 ((xput l).length:Int),.int .i64 ((rput l).length:Int),.int .i64 (szOf l)])∧Nw w w':=by
 have H1:=hid fun (w':World) (hN:Nw w w')=>xSize_any w' b A n c l hn hm (hr.nw hN) (Nat.lt_of_lt_of_le hb hN.size) hx (hG.nw hN)
 have H2:=hid fun (w':World) (hN:Nw w w')=>rSize_any w' b A n c l hn hm (hr.nw hN) (Nat.lt_of_lt_of_le hb hN.size) hx
 have H3:=hid fun (w':World) (hN:Nw w w')=>Size_any w' b A n c l hn (by omega) (hr.nw hN) hx
 have i0:∀ W,(Instr.index 231 (.agg encFs) (.int .i64 0)).run Tryz.prog W=.ok (.agg #[.func (.func 199) #[] #[],.func (.func 200) #[] #[],.func (.func 201) #[] #[]]) W:=fun _=>by kernel_rfl
 have i1:∀ W,(Instr.index 231 (.agg encFs) (.int .i64 1)).run Tryz.prog W=.ok (.agg #[.func (.func 202) #[] #[],.func (.func 203) #[] #[],.func (.func 204) #[] #[]]) W:=fun _=>by kernel_rfl
 have i2:∀ W,(Instr.index 231 (.agg encFs) (.int .i64 2)).run Tryz.prog W=.ok (.agg #[.func (.func 205) #[] #[],.func (.func 206) #[] #[],.func (.func 207) #[] #[]]) W:=fun _=>by kernel_rfl
 generalize ((xput l).length:Int)=s1 at *;generalize ((rput l).length:Int)=s2 at *;generalize szOf l=s3 at *;clear hn hm hr hb hx hG;go_enter Tryz.func210,Tryz.ntmps210
 go_wp2_with (go_at_call 139;refine (encodings_any _).mono ?_;rintro e w1 ⟨rfl,hN1⟩)
 have hN:Nw w w1:=(((Nw.refl w).alloc' _).alloc' _).trans hN1;have hO:w1.heap[w.heap.size+1]? = some (.cells #[.int .i64 0,.int .i64 0,.int .i64 0] 300 (0,0)):=(hN1.block _ (by simp)).trans (by simpa using heap_alloc_new (w.alloc _) _);have hZ:w1.heap[w.heap.size]? = some (.cells #[.int .i64 0,.int .i64 0,.int .i64 0] 300 (0,0)):=block_on (W:=w.alloc _) hN1 (heap_alloc_new w _);clear hN1;refine wp_loop_rounds 4 ?_;rw [rounds_succ];go_wp2_with fail;refine (H1.out _ (hN.alloc' _)).mono ?_;rintro e w2 ⟨rfl,hN2⟩;have hO2:=block_on hN2 hO;have hZ2:=block_on hN2 hZ;have hn2:=(hN.alloc' _).trans hN2;have c0:=(three_at hO2).1.1;have f0:=(three_at hO2).2.1;obtain ⟨hN3,hO3,hZ3⟩:=three_set (k:=0) (x:=.int .i64 s1) hn2 (by omega) (by omega) hO2 hZ2;clear hO hZ hN2 hO2 hZ2 hN hn2;go_wp2_with fail;clear c0 f0;generalize w2.setCell ⟨w.heap.size+1,0,none⟩ (.int .i64 s1)=w3 at *;rw [rounds_succ];go_wp2_with fail;refine (H2.out _ (hN3.alloc' _)).mono ?_;rintro e w4 ⟨rfl,hN4⟩;have hO4:=block_on hN4 hO3;have hZ4:=block_on hN4 hZ3;have hn4:=(hN3.alloc' _).trans hN4;have c1:=(three_at hO4).1.2.1;have f1:=(three_at hO4).2.2.1;obtain ⟨hN5,hO5,hZ5⟩:=three_set (k:=1) (x:=.int .i64 s2) hn4 (by omega) (by omega) hO4 hZ4;clear hO3 hZ3 hN4 hO4 hZ4 hN3 hn4;go_wp2_with fail;clear c1 f1;generalize w4.setCell ⟨w.heap.size+1,1,none⟩ (.int .i64 s2)=w5 at *;rw [rounds_succ];go_wp2_with fail;refine (H3.out _ (hN5.alloc' _)).mono ?_;rintro e w6 ⟨rfl,hN6⟩;have hO6:=block_on hN6 hO5;have hZ6:=block_on hN6 hZ5;have hn6:=(hN5.alloc' _).trans hN6;have c2:=(three_at hO6).1.2.2;have f2:=(three_at hO6).2.2.2;obtain ⟨hN7,hO7,hZ7⟩:=three_set (k:=2) (x:=.int .i64 s3) hn6 (by omega) (by omega) hO6 hZ6;clear hO5 hZ5 hN6 hO6 hZ6 hN5 hn6;go_wp2_with fail;clear c2 f2;generalize w6.setCell ⟨w.heap.size+1,2,none⟩ (.int .i64 s3)=w7 at *;obtain ⟨a0,a1,a2⟩:=(three_at hO7).1;obtain ⟨⟨b0,b1,b2⟩,e0,e1,e2⟩:=three_at hZ7;rw [rounds_succ];go_wp2_with fail;have hfin:(((w7.setCell ⟨w.heap.size,0,none⟩ (.int .i64 s1)).setCell ⟨w.heap.size,1,none⟩ (.int .i64 s2)).setCell ⟨w.heap.size,2,none⟩ (.int .i64 s3)).heap[w.heap.size]? = some (.cells #[.int .i64 s1,.int .i64 s2,.int .i64 s3] 300 (0,0)):=by
  simp [World.setCell,Array.getElem?_modify,hZ7]
 refine bodyPost_ret (results_cell_row rfl _ _ w.heap.size 300 _ _ _ rfl hfin Tryz.underlying300 rfl (by kernel_rfl)) rfl ?_;exact ⟨rfl,((hN7.setCell' (Nat.le_refl _) _).setCell' (Nat.le_refl _) _).setCell' (Nat.le_refl _) _⟩
theorem choose_walk (w:World) (A:Option Addr) (n c:Nat) (s1 s2 s3:Int) (t:Nat) (hS:Calls Tryz.prog 210 #[.slice A n c] w fun e w'=>e=.returned (.agg #[.int .i64 s1,.int .i64 s2,.int .i64 s3])∧Nw w w')
  (h1:0≤s1) (h2:0≤s2) (ht:pick3 s1 s2 s3=t) :
  Calls Tryz.prog 141 #[.slice A n c] w fun e w'=>e=.returned (.int .i64 (t:Int))∧Nw w w':=by
 have HS:=hid hS;have HT:=hid ht;have i0:∀ W,(Instr.index 300 (.agg #[.int .i64 s1,.int .i64 s2,.int .i64 s3]) (.int .i64 0)).run Tryz.prog W=.ok (.int .i64 s1) W:=fun _=>by kernel_rfl
 have i1:∀ W,(Instr.index 300 (.agg #[.int .i64 s1,.int .i64 s2,.int .i64 s3]) (.int .i64 1)).run Tryz.prog W=.ok (.int .i64 s2) W:=fun _=>by kernel_rfl
 have i2:∀ W,(Instr.index 300 (.agg #[.int .i64 s1,.int .i64 s2,.int .i64 s3]) (.int .i64 2)).run Tryz.prog W=.ok (.int .i64 s3) W:=fun _=>by kernel_rfl
 clear hS ht;by_cases c3:0≤s3<;>by_cases c21:s2 < s1<;>by_cases c31:s3 < s1<;>by_cases c32:s3 < s2
 all_goals
  first
  | (exfalso;omega)
  | (have hp:t=pick3 s1 s2 s3:=HT.out.symm
     unfold pick3 at hp;simp only [c3,c21,c31,c32,h2,and_self,and_true,and_false,if_true,if_false] at hp;subst hp;clear HT;go_enter Tryz.func141,Tryz.ntmps141
     go_wp2_with (go_at_call 210;refine HS.out.mono ?_;rintro e w1 ⟨rfl,hN1⟩)
     refine wp_loop_rounds 4 ?_;rw [rounds_succ];go_wp2_with fail;rw [rounds_succ];go_wp2_with fail;rw [rounds_succ];go_wp2_with fail;rw [rounds_succ];go_wp2_with fail;go_ret;exact ⟨rfl,hN1.alloc' _⟩)
theorem Choose_any (w:World) (b:Nat) (A:Option Addr) (n c:Nat) (l:List Nat) (hn:n=l.length) (hm:n≤10000) (hr:Rd w b A (cN .u64 l)) (hb:b < w.heap.size) (hx:∀ x∈l,x < 18446744073709551616) (hG:Gl w) :
  Calls Tryz.prog 141 #[.slice A n c] w fun e w'=>e=.returned (.int .i64 (tagOf l:Int))∧Nw w w' :=
 choose_walk w A n c _ _ _ _ (Sizes_any w b A n c l hn hm hr hb hx hG) (by omega) (by omega) rfl
end
section
open Go Go.RowKit Go.Sort
abbrev tsOf (zs:List (Int × Nat)):List Int:=zs.map Prod.fst
abbrev vsOf (zs:List (Int × Nat)):List Nat:=zs.map Prod.snd
theorem fill_next {α:Type} (ts:List α) (k n:Nat) (z:α) (hk:k < n) (h:k < ts.length):(ts.take k++List.replicate (n - k) z).set k ts[k]=ts.take (k+1)++List.replicate (n - (k+1)) z:=by
 have hl:(ts.take k).length=k:=by rw [List.length_take];omega
 rw [List.set_append_right _ _ (by omega),hl,Nat.sub_self,show n - k=(n - (k+1))+1 by omega,List.replicate_succ,List.set_cons_zero,List.take_succ_eq_append_getElem h,List.append_assoc];rfl
end
section
open Go Go.RowKit Go.Sort
def getF (t:Nat):FuncId:=if t=1 then 201 else if t=2 then 204 else 207
def VGot (w:World) (gr b:Nat) (bytes:List Nat) (X:Except Nat (List Nat × List Bool)) (e:Ending) (w':World):Prop :=
 (match X with
  | .ok (l,r)=>(∃ b' A c,e=.returned (.tuple #[.slice A l.length c,.int .i64 0])∧Ow w' b' 97 1 A l.length c (cN .u64 l)∧w.heap.size≤b')∧∃ pos,Rdr w' gr b bytes pos∧rest bytes pos=r
  | .error k=>(∃ A n c,e=.returned (.tuple #[.slice A n c,.int .i64 (k:Int)]))∧k≠0)∧Kp gr gr w w'
theorem XGot.v {w:World} {gr b:Nat} {bytes:List Nat} {X:Except Nat (List Nat × List Bool)} {e:Ending} {w':World} (h:XGot w gr b bytes X e w'):VGot w gr b bytes X e w':=by
 cases X with
 | error k=>exact ⟨⟨⟨_,_,_,h.1.1⟩,h.1.2⟩,h.2⟩
 | ok y=>exact h
theorem vGet_any (t:Nat) (ht:1≤t∧t≤3) (w:World) (gr b:Nat) (bytes:List Nat) (pos n:Nat) (h:Rdr w gr b bytes pos) (hb:b < w.heap.size) (hG:Gl w) (hgr2:3≤gr) (h1:1≤n) (hn:n≤10000) :
  Calls Tryz.prog (getF t) #[.pointer (some ⟨gr,0,none⟩),.int .i64 (n:Int)] w (VGot w gr b bytes (vget t n (rest bytes pos))):=by
 have:t=1∨t=2∨t=3:=by omega
 rcases this with rfl | rfl | rfl
 ·exact (xGet_any w gr b bytes pos n h hb hG hgr2 h1 hn).mono fun _ _ h=>h.v
 ·exact (rGet_any w gr b bytes pos n h hb hn).mono fun _ _ h=>h.v
 ·refine (Get_nat w gr b bytes pos n h (by omega)).mono ?_;rintro e w' ⟨A,c,rfl,⟨p,_,hp,hR⟩,⟨b',hO,hb'⟩,hK⟩;show VGot w gr b bytes (dgot (getVals n (rest bytes pos))) _ w'
  unfold dgot;generalize getVals n (rest bytes pos)=V at *;obtain ⟨l,k,r⟩:=V;dsimp only at hp hO ⊢;split
  ·rename_i hk
   subst hk;exact ⟨⟨⟨b',A,c,rfl,hO,hb'⟩,p,hR,hp⟩,hK⟩
  ·rename_i hk
   exact ⟨⟨⟨_,_,_,rfl⟩,hk⟩,hK⟩
def DcGot (w:World) (X:Except Nat (List Int × List Nat)) (e:Ending) (w':World):Prop :=
 (match X with
  | .ok (ts,vs)=>∃ b' A c,e=.returned (.tuple #[.slice A ts.length c,.int .i64 0])∧Ow w' b' 99 2 A ts.length c (cS (ts.zip vs))∧w.heap.size≤b'
  | .error k=>e=.returned (.tuple #[.slice none 0 0,.int .i64 (k:Int)])∧k≠0)∧Nw w w'
theorem Decode_nil (w:World) (A:Option Addr) (c:Nat):Calls Tryz.prog 76 #[.slice A 0 c] w (DcGot w (cget [])):=by
 go_enter Tryz.func76,Tryz.ntmps76
 go_wp2;go_ret2;exact ⟨⟨rfl,by omega⟩,Nw.refl _⟩
theorem Decode_kind (w:World) (b:Nat) (A:Option Addr) (n c tag:Nat) (r:List Nat) (hn:n=r.length+1) (hr:Rd w b A (cN .u8 (tag::r))) (ht:tag < 1∨3 < tag):Calls Tryz.prog 76 #[.slice A n c] w (DcGot w (cget (tag::r))):=by
 have e:cget (tag::r)=.error 9:=by unfold cget;dsimp only;rw [if_pos ht]
 rw [e];clear e;obtain ⟨o,rfl,hb,hc⟩:=hr.get (k:=0) (by simp);simp only [Nat.add_zero,cN,List.map_cons,List.getElem_cons_zero] at hc;have hn0:¬ n < 1:=by omega
 have HN:=hid hn;clear hr hn;by_cases h0:tag < 1
 ·go_enter Tryz.func76,Tryz.ntmps76
  go_wp2;go_ret2;exact ⟨⟨rfl,by omega⟩,Nw.refl _⟩
 ·have h3:3 < tag:=by omega
  go_enter Tryz.func76,Tryz.ntmps76
  go_wp2;go_ret2;exact ⟨⟨rfl,by omega⟩,Nw.refl _⟩
theorem Decode_one (w:World) (b:Nat) (A:Option Addr) (c tag:Nat) (hr:Rd w b A (cN .u8 [tag])) (ht:1≤tag∧tag≤3):Calls Tryz.prog 76 #[.slice A 1 c] w (DcGot w (cget [tag])):=by
 have e:cget [tag]=.error 3:=by unfold cget;dsimp only;rw [if_neg (by omega)]
 rw [e];clear e;obtain ⟨o,rfl,hb,hc⟩:=hr.get (k:=0) (by simp);simp only [Nat.add_zero,cN,List.map_cons,List.getElem_cons_zero] at hc;clear hr;obtain ⟨h1,h2⟩:=ht;go_enter Tryz.func76,Tryz.ntmps76
 go_wp2;go_ret2;exact ⟨⟨rfl,by omega⟩,Nw.refl _⟩
set_option maxRecDepth 100000 in
theorem Decode_limit (w:World) (b:Nat) (A:Option Addr) (n c tag n1:Nat) (r:List Nat) (hn:n=r.length+2) (hr:Rd w b A (cN .u8 (tag::n1::r))) (ht:1≤tag∧tag≤3) (h:120≤n1):Calls Tryz.prog 76 #[.slice A n c] w (DcGot w (cget (tag::n1::r))):=by
 have e:cget (tag::n1::r)=.error 7:=by unfold cget;dsimp only;rw [if_neg (by omega),if_pos h]
 rw [e];clear e;obtain ⟨o,rfl,hb,hc⟩:=hr.get (k:=0) (by simp);obtain ⟨o',e,_,hc1⟩:=hr.get (k:=1) (by simp);injection e with e;injection e with _ e;subst e
 simp only [Nat.add_zero,cN,List.map_cons,List.getElem_cons_zero,List.getElem_cons_succ] at hc hc1;have hn1:¬ n < 1:=by omega
 have hn2:¬ n < 2:=by omega
 have HN:=hid hn;clear hr hn;obtain ⟨h1,h2⟩:=ht;go_enter Tryz.func76,Tryz.ntmps76
 go_wp2;go_ret2;exact ⟨⟨rfl,by omega⟩,Nw.refl _⟩
theorem rest_zero (r:List Nat):rest r 0=up r:=by unfold rest;rw [List.drop_zero]
theorem make_smp (W:World) (n:Nat) (h:n≤1000):(Instr.makeSlice 63 (.int .i64 (n:Int)) (.int .i64 (n:Int))).run Tryz.prog W=.ok (.slice (some ⟨W.heap.size,0,none⟩) n n) (W.alloc (.cells (madeCells #[.int .i64 0,.int .u64 0] (n*2)) 99)):=by
 obtain ⟨i0,hi,hz0,hz1,hz2⟩:=E_smp.info;have:=run_make (P:=Tryz.prog) (w:=W) 63 99 i0 (.agg #[.int .i64 0,.int .u64 0]) Tryz.underlying63 hi hz0 .i64 .i64 n n (by omega) (by omega) (by rw [hz2];omega) (by omega);rw [hz1] at this;simpa [Value.cells] using this
theorem cS_replicate (n:Nat):∀ j,(cS (List.replicate n (0,0)))[j]? = if j < n*2 then some (if j % 2=0 then .int .i64 0 else .int .u64 0) else none:=by
 intro j;split
 ·rename_i h
  obtain ⟨h1,h2⟩:=cS_at (List.replicate n (0,0)) (j / 2) (by rw [List.length_replicate];omega);rw [List.getElem_replicate] at h1 h2;split
  ·rename_i h3;rw [show j / 2*2=j by omega] at h1;exact h1
  ·rename_i h3;rw [show j / 2*2+1=j by omega] at h2;exact h2
 ·rename_i h
  exact List.getElem?_eq_none (by rw [cS_length,List.length_replicate];omega)
theorem made_smp (n:Nat):(madeCells #[Value.int .i64 0,.int .u64 0] (n*2)).toList=cS (List.replicate n (0,0)):=by
 apply List.ext_getElem?
 intro j;rw [cS_replicate];split
 ·rename_i h
  rw [List.getElem?_eq_getElem (by simpa [madeCells] using h)];have:j % 2=0∨j % 2=1:=by omega
  rcases this with e | e<;>simp [madeCells,e]
 ·rename_i h
  exact List.getElem?_eq_none (by simp [madeCells];omega)
theorem cS_set:∀ (L:List (Int × Nat)) (k:Nat) (z:Int × Nat),((cS L).set (k*2) (.int .i64 z.1)).set (k*2+1) (.int .u64 (z.2:Int))=cS (L.set k z):=by
 intro L;induction L with
 | nil=>intro k z;rfl
 | cons y L ih =>
  intro k z;cases k with
  | zero=>rfl
  | succ k =>
   have h:=ih k z;have e:∀ M:List (Int × Nat),∀ y,cS (y::M)=.int .i64 y.1::.int .u64 (y.2:Int)::cS M:=fun _ _=>rfl
   rw [List.set_cons_succ,e,e,← h,show (k+1)*2=(k*2)+1+1 by omega];rfl
theorem Rdr.bltc {w:World} {g b:Nat} {bytes:List Nat} {pos:Nat} (h:Rdr w g b bytes pos) (hne:bytes≠[]):b < w.heap.size:=by
 obtain ⟨A,c,_,hr⟩:=h.blk;obtain ⟨_,_,h,_⟩:=hr.get (k:=0) (by simpa using List.length_pos_iff.2 hne);exact h
theorem int_ne {a b:Nat} (h:a≠b):((a:Int) != (b:Int))=true:=by rw [bne_iff_ne];omega
theorem Ow.cellI {w:World} {b:Nat} {e:TypeId} {n c k:Nat} {p:Addr} {ts:List Int} {q:IntKind} (h:Ow w b e 1 (some p) n c (cI q ts)) (hn:ts.length=n) (hk:k < ts.length):w.cell? ⟨b,k,none⟩=some (.int q ts[k]):=by
 obtain ⟨_,_,h1,_⟩:=h.at_ (j:=k) (by omega);rw [h1,List.getElem?_eq_getElem (by simpa [cI] using hk)];simp [cI]
theorem Ow.cellN {w:World} {b:Nat} {e:TypeId} {n c k:Nat} {p:Addr} {ts:List Nat} {q:IntKind} (h:Ow w b e 1 (some p) n c (cN q ts)) (hn:ts.length=n) (hk:k < ts.length):w.cell? ⟨b,k,none⟩=some (.int q (ts[k]:Int)):=by
 obtain ⟨_,_,h1,_⟩:=h.at_ (j:=k) (by omega);rw [h1,List.getElem?_eq_getElem (by simpa [cN] using hk)];simp [cN]
theorem Ow.cell2 {w:World} {b:Nat} {e:TypeId} {n c k:Nat} {p:Addr} {xs:List Value} (h:Ow w b e 2 (some p) n c xs) (hk:k < n) :
  ∃ u0 u1,w.cell? ⟨b,k*2,none⟩=some u0∧w.frozen? ⟨b,k*2,none⟩=false∧w.cell? ⟨b,k*2+1,none⟩=some u1∧w.frozen? ⟨b,k*2+1,none⟩=false:=by
 obtain ⟨_,_,h1,h2⟩:=h.at_ (j:=k*2) (by omega);obtain ⟨_,_,h3,h4⟩:=h.at_ (j:=k*2+1) (by omega);rw [List.getElem?_eq_getElem (by have:=h.len;omega)] at h1 h3;exact ⟨_,_,h1,h2,h3,h4⟩
theorem tget_nil {N:Nat} (h:1≤N):tget N []=.error 3:=by
 obtain ⟨m,rfl⟩:∃ m,N=m+1:=⟨N - 1,by omega⟩;rfl
set_option maxRecDepth 100000 in
set_option maxHeartbeats 4000000 in
theorem Decode_main (w:World) (b:Nat) (A:Option Addr) (n c tag n1:Nat) (r:List Nat) (hn:n=r.length+2) (hnc:n≤c) (hc2:¬ c=2) (hm:n≤1000000) (hr:Rd w b A (cN .u8 (tag::n1::r))) (hby:∀ x∈r,x < 256) (ht:1≤tag∧tag≤3) (h:n1 < 120) (hG:Gl w) :
  Calls Tryz.prog 76 #[.slice A n c] w (DcGot w (cget (tag::n1::r))):=by
 have hcg:cget (tag::n1::r)=match tget (n1+1) (rest r 0) with
   | .error e=>.error e
   | .ok (ts,bs) =>
    match vget tag (n1+1) bs with
    | .error e=>.error e
    | .ok (vs,bs')=>if endE bs'≠0 then .error (endE bs') else if tagOf vs≠tag then .error 8 else .ok (ts,vs):=by
  rw [rest_zero];unfold cget;dsimp only;rw [if_neg (by omega),if_neg (by omega)];rfl
 obtain ⟨D,hD⟩:∃ D,D=cget (tag::n1::r):=⟨_,rfl⟩;rw [← hD];rw [hcg] at hD;clear hcg;obtain ⟨o,rfl,hb,hc⟩:=hr.get (k:=0) (by simp);obtain ⟨o',e,_,hc1⟩:=hr.get (k:=1) (by simp);injection e with e;injection e with _ e;subst e
 simp only [Nat.add_zero,cN,List.map_cons,List.getElem_cons_zero,List.getElem_cons_succ] at hc hc1;have hcut:=hr.cut (k:=2) (cap:=c) (size:=1) (by simp;omega);rw [if_neg hc2] at hcut;simp only [Option.map_some,add_lit',Nat.mul_one,List.drop_succ_cons,List.drop_zero,cN,List.map_cons] at hcut;have HC:=hid hcut;have hn1:¬ n < 1:=by omega
 have hn2:¬ n < 2:=by omega
 have HN:=hid hn;have HB:=hid hby;have HG:=hid hG;have hGl:=hG.lt;obtain ⟨N,hN⟩:∃ N,n1+1=N:=⟨_,rfl⟩;rw [hN] at hD;obtain ⟨tg,htg⟩:∃ tg,tag=tg:=⟨_,rfl⟩;rw [htg] at hD;have HD:=hid hD;have HTG:=hid htg;have ek:((n1:Int)+1)=(N:Int):=by omega
 have hN1:1≤N:=by omega
 have hN2:N≤120:=by omega
 have EK:=hid ek;have i0:∀ W,(Instr.index 231 (.agg encFs) (.int .i64 0)).run Tryz.prog W=.ok (.agg #[.func (.func 199) #[] #[],.func (.func 200) #[] #[],.func (.func 201) #[] #[]]) W:=fun _=>by kernel_rfl
 have i1:∀ W,(Instr.index 231 (.agg encFs) (.int .i64 1)).run Tryz.prog W=.ok (.agg #[.func (.func 202) #[] #[],.func (.func 203) #[] #[],.func (.func 204) #[] #[]]) W:=fun _=>by kernel_rfl
 have i2:∀ W,(Instr.index 231 (.agg encFs) (.int .i64 2)).run Tryz.prog W=.ok (.agg #[.func (.func 205) #[] #[],.func (.func 206) #[] #[],.func (.func 207) #[] #[]]) W:=fun _=>by kernel_rfl
 have fl0:∀ W,(Instr.field 230 (.agg #[.func (.func 199) #[] #[],.func (.func 200) #[] #[],.func (.func 201) #[] #[]]) 2).run Tryz.prog W=.ok (.func (.func 201) #[] #[]) W:=fun _=>by kernel_rfl
 have fl1:∀ W,(Instr.field 230 (.agg #[.func (.func 202) #[] #[],.func (.func 203) #[] #[],.func (.func 204) #[] #[]]) 2).run Tryz.prog W=.ok (.func (.func 204) #[] #[]) W:=fun _=>by kernel_rfl
 have fl2:∀ W,(Instr.field 230 (.agg #[.func (.func 205) #[] #[],.func (.func 206) #[] #[],.func (.func 207) #[] #[]]) 2).run Tryz.prog W=.ok (.func (.func 207) #[] #[]) W:=fun _=>by kernel_rfl
 have mk:=fun W=>make_smp W N (by omega)
 clear hr hn hby hG hcut ek hN hD htg;rcases (show tag=1∨tag=2∨tag=3 by omega) with rfl | rfl | rfl
 all_goals
  go_enter Tryz.func76,Tryz.ntmps76
  go_wp2_with fail;go_quiet (fail)
  go_wp2_with fail;rw [EK.out];have hNq:Nw w (w.drewN nq):=Nw.drewN w nq;refine (NewReader_any _ b _ (n - 2) (c - 2) r (by have:=HN.out;omega) (by omega) (HC.out.nw hNq) (by simp) HB.out).mono ?_;rintro e w2 ⟨g,b2,rfl,hR2,hg2,hb2,hNw2⟩;have hW2:=hNq.trans hNw2;have hs2:=hW2.size;have hsq:(w.drewN nq).heap.size=w.heap.size:=rfl;clear hNq hNw2 hc hc1;generalize w.drewN nq=wq at *;have hg2:w.heap.size≤g:=by omega
  have hb2:w.heap.size≤b2:=by omega
  have hH7:=tGet_any w2 g b2 r 0 N hR2 (by by_cases e:r=[];exact .inr e;exact .inl (hR2.bltc e)) (HG.out.nw hW2) (by omega) (by omega) (by omega);have hrb:=hR2.bltc;have hgl:=hR2.lt;obtain ⟨X,hX⟩:∃ X,tget N (rest r 0)=X:=⟨_,rfl⟩;rw [hX] at hH7;have HX:=hid hX;have H7:=hid hH7;have HRB:=hid hrb;clear hX hR2 hH7 hrb;cases X with
  | error k =>
   go_wp2_with fail;refine H7.out.mono ?_;rintro e w3 ⟨⟨rfl,hk⟩,hK3⟩;have hk1:((k:Int) != 0)=true:=by rw [bne_iff_ne];omega
   go_wp2_with fail;go_ret2;have hD:=HD.out;rw [HX.out] at hD;dsimp only at hD;rw [hD];exact ⟨⟨rfl,hk⟩,Kp.nw hW2 hK3 hg2 hg2⟩
  | ok y =>
   obtain ⟨ts,bs⟩:=y;have hinv:=tget_inv HX.out;have hrne:r≠[]:=by
    intro e;have hX:=HX.out;rw [e] at hX;rw [show rest [] 0=[] from rfl,tget_nil hN1] at hX;cases hX
   have hb2l:=HRB.out hrne;have HTL:=hid hinv.1;have HTI:=hid hinv.2.1;clear hinv hrne HRB;go_wp2_with fail;refine H7.out.mono ?_;rintro e w3 ⟨⟨⟨bt,At,ct,rfl,hOt,hbt⟩,p3,hR3,hp3⟩,hK3⟩;rw [HTL.out] at hOt;rw [HTL.out];have hs3:=hK3.size;have hW3:=Kp.nw hW2 hK3 hg2 hg2;have hH8:=fun (W:World) (hN8:Nw w3 W)=>vGet_any tg (by have:=HTG.out;omega) W g b2 r p3 N (hR3.nw hN8) (by have:=hN8.size;omega) (HG.out.nw (hW3.trans hN8)) (by omega) hN1 (by omega)
   rw [hp3,show getF tg=_ from congrArg getF HTG.out.symm] at hH8;obtain ⟨Y,hY⟩:∃ Y,vget tg N bs=Y:=⟨_,rfl⟩;rw [hY] at hH8;have HY:=hid hY;have H8:=hid hH8;have HOt:=hid hOt;clear hH8 hY hR3 hOt hp3 H7;cases Y with
   | error k =>
    go_wp2_with (go_at_call 139;refine (encodings_any _).mono ?_;rintro e w4 ⟨rfl,hN4⟩)
    refine (H8.out _ hN4).mono ?_;rintro e w5 ⟨⟨⟨A5,n5,c5,rfl⟩,hk⟩,hK5⟩;have hk1:((k:Int) != 0)=true:=by rw [bne_iff_ne];omega
    have hk2:((k:Int) == 0)=false:=by rw [beq_eq_false_iff_ne];omega
    go_wp2_with fail;go_ret2;have hD:=HD.out;rw [HX.out] at hD;dsimp only at hD;rw [HY.out] at hD;dsimp only at hD;rw [hD];exact ⟨⟨rfl,hk⟩,Kp.nw (hW3.trans hN4) hK5 hg2 hg2⟩
   | ok y =>
    obtain ⟨vs,bs'⟩:=y;have hinv:=vget_inv (by omega) HY.out;have HVL:=hid hinv.1;have HVI:=hid hinv.2.1;clear hinv;go_wp2_with (go_at_call 139;refine (encodings_any _).mono ?_;rintro e w4 ⟨rfl,hN4⟩)
    refine (H8.out _ hN4).mono ?_;rintro e w5 ⟨⟨⟨bv,Av,cv,rfl,hOv,hbv⟩,p5,hR5,hp5⟩,hK5⟩;rw [HVL.out] at hOv;rw [HVL.out];have hs4:=hN4.size;have hs5:=hK5.size;have hW5:=Kp.nw (hW3.trans hN4) hK5 hg2 hg2;have hHE:=REnd_any w5 g b2 r p5 hR5;rw [hp5] at hHE;have HE:=hid hHE;have HOv:=hid hOv;have HOt5:=hid ((HOt.out.nw hN4).kp hK5 (by omega) (by omega));have HCh:=hid (fun (W:World) (hN:Nw w5 W)=>Choose_any W bv Av N cv vs HVL.out.symm (by omega) (HOv.out.nw hN).rd (by have:=HOv.out.lt (by omega);have:=hN.size;omega) HVI.out (HG.out.nw (hW5.trans hN)));clear hHE hp5 hR5 hOv HOt H8;obtain ⟨E,hE⟩:∃ E,endE bs'=E:=⟨_,rfl⟩;rw [hE] at HE;obtain ⟨T,hT⟩:∃ T,tagOf vs=T:=⟨_,rfl⟩;rw [hT] at HCh;have HEE:=hid hE;have HTT:=hid hT;clear hE hT;by_cases hE0:E=0
    ·subst hE0;by_cases hT1:T=tg
     ·obtain rfl:T=_:=hT1.trans HTG.out.symm;have HT1:=hid hT1;clear hT1;obtain ⟨rfl,hbtl,_,_⟩:=HOt5.out.at_ (j:=0) (by omega);obtain ⟨rfl,hbvl,_,_⟩:=HOv.out.at_ (j:=0) (by omega);go_wp2_with (go_at_call 140;refine HE.out.mono ?_;rintro e w6 ⟨rfl,hD6⟩)
      refine (HCh.out _ hD6.nw).mono ?_;rintro e w7 ⟨rfl,hN7⟩;have hN57:=hD6.nw.trans hN7;have hW7:=hW5.trans hN57;have hs7:=hN57.size;have hOl:=Ow.lit w7 99 2 N (madeCells #[.int .i64 0,.int .u64 0] (N*2)) (by simp [madeCells]) (by omega);rw [made_smp] at hOl;have hN8:Nw w7 (w7.alloc (.cells (madeCells #[.int .i64 0,.int .u64 0] (N*2)) 99)):=(Nw.refl w7).alloc' _;have hO8t:=(HOt5.out.nw hN57).nw hN8;have hO8v:=(HOv.out.nw hN57).nw hN8;have HOl:=hid hOl;have HO8t:=hid hO8t;have HO8v:=hid hO8v;have HN8:=hid hN8;have hl8:w7.heap.size < (w7.alloc (.cells (madeCells #[.int .i64 0,.int .u64 0] (N*2)) 99)).heap.size:=by simp
      have HL8:=hid hl8;clear HE HCh HOt5 HOv hOl hO8t hO8v hN8 hl8 HC HB;go_wp2_with fail;generalize w7.alloc (.cells (madeCells #[.int .i64 0,.int .u64 0] (N*2)) 99)=w8 at *;obtain ⟨bl,hbl⟩:∃ bl,w7.heap.size=bl:=⟨_,rfl⟩;rw [hbl] at HOl HL8;rw [hbl];have HLl:=hid HL8.out;have n1t:¬ bt=bl:=by omega
      have n1v:¬ bv=bl:=by omega
      have hblw:w.heap.size≤bl:=by have:=hW7.size;omega
      have hbtl':bt < bl:=by omega
      have hbvl':bv < bl:=by omega
      have HW7:=hid hW7;clear hbl;go_loopw [87] (fun i wr=>∃ k:Nat,k≤N∧i=.int .i64 k∧Ow wr bl 99 2 (some ⟨bl,0,none⟩) N N (cS ((ts.zip vs).take k++List.replicate (N - k) (0,0)))∧Kp bl bl w8 wr) (fun i _=>N - (intOf i).toNat)
      case atStart=>exact ⟨0,by omega,rfl,HOl.out,Kp.refl _ _ _⟩
      case round =>
       obtain ⟨k,hk,rfl,hL,hK⟩:=hrel;have htk:k < N→k < ts.length:=by have:=HTL.out;omega
       have hvk:k < N→k < vs.length:=by have:=HVL.out;omega
       have hzk:(ts.zip vs).length=N:=by rw [List.length_zip,HTL.out,HVL.out,Nat.min_self]
       have HZK:=hid hzk;clear hzk;by_cases hlk:k < N
       ·have htk:=htk hlk;have hvk:=hvk hlk;have c1:=(HO8t.out.kp hK n1t n1t).cellI HTL.out htk;have c2:=(HO8v.out.kp hK n1v n1v).cellN HVL.out hvk;obtain ⟨u0,u1,c3,f3,c4,f4⟩:=hL.cell2 hlk;have hlr:bl < wr.heap.size:=by have:=hK.size;have:=HLl.out;omega
        have HL:=hid hL;have HK:=hid hK;clear hL hK;go_wp2_with fail;go_region
        all_goals
         go_wp2_with fail;go_roundw
         case rel =>
          refine ⟨k+1,by omega,by go_num,?_,?_⟩
          ·have h:=(HL.out.set_ (k*2) (.int .i64 ts[k])).set_ (k*2+1) (.int .u64 (vs[k]:Int));have hf:=fill_next (ts.zip vs) k N (0,0) hlk (by rw [HZK.out];exact hlk);have hs:=cS_set ((ts.zip vs).take k++List.replicate (N - k) (0,0)) k ((ts.zip vs)[k]'(by rw [HZK.out];exact hlk));rw [hf,List.getElem_zip] at hs;rw [hs] at h;exact h.nw (Nw.drewO _)
          ·exact ((HK.out.setCell' (.inl rfl) _).setCell' (.inl rfl) _).nw' (Nw.drewO _)
         case measure=>simp [intOf];omega
       ·obtain rfl:k=N:=by omega
        have HL:=hid hL;have HK:=hid hK;clear hL hK;go_wp2_with fail;go_ret2;have hD:=HD.out;rw [HX.out] at hD;dsimp only at hD;rw [HY.out] at hD;dsimp only at hD;rw [HEE.out,if_neg (by simp),HTT.out,if_neg (by simp [HT1.out])] at hD;rw [hD];have hL:=HL.out;rw [Nat.sub_self,List.replicate_zero,List.append_nil,List.take_of_length_le (by rw [HZK.out];omega)] at hL;refine ⟨⟨bl,some ⟨bl,0,none⟩,k,?_,by rw [HTL.out];exact hL,hblw⟩,Kp.nw (HW7.out.trans HN8.out) HK.out hblw hblw⟩;rw [HTL.out];rfl
     ·have hk1:=int_ne (fun e=>hT1 (e.trans HTG.out));push_cast at hk1
      go_wp2_with (go_at_call 140;refine HE.out.mono ?_;rintro e w6 ⟨rfl,hD6⟩)
      refine (HCh.out _ hD6.nw).mono ?_;rintro e w7 ⟨rfl,hN7⟩;go_wp2_with fail;go_ret2;have hD:=HD.out;rw [HX.out] at hD;dsimp only at hD;rw [HY.out] at hD;dsimp only at hD;rw [HEE.out,if_neg (by simp),HTT.out,if_pos hT1] at hD;rw [hD];exact ⟨⟨rfl,by omega⟩,(hW5.trans hD6.nw).trans hN7⟩
    ·have hk1:((E:Int) != 0)=true:=by rw [bne_iff_ne];omega
     have hk2:((E:Int) == 0)=false:=by rw [beq_eq_false_iff_ne];omega
     go_wp2_with (go_at_call 140;refine HE.out.mono ?_;rintro e w6 ⟨rfl,hD6⟩)
     go_ret2;have hD:=HD.out;rw [HX.out] at hD;dsimp only at hD;rw [HY.out] at hD;dsimp only at hD;rw [HEE.out,if_pos hE0] at hD;rw [hD];exact ⟨⟨rfl,hE0⟩,hW5.trans hD6.nw⟩
end
section
open Go Go.RowKit Go.Sort
set_option maxRecDepth 100000 in
theorem Decode_two (w:World) (b:Nat) (A:Option Addr) (tag n1:Nat) (hr:Rd w b A (cN .u8 [tag,n1])) (ht:1≤tag∧tag≤3) (h:n1 < 120) (hG:Gl w) :
  Calls Tryz.prog 76 #[.slice A 2 2] w (DcGot w (cget [tag,n1])):=by
 have e:cget [tag,n1]=.error 3:=by
  unfold cget;dsimp only;rw [if_neg (by omega),if_neg (by omega),show up []=[] from rfl,tget_nil (by omega)]
 rw [e];clear e;obtain ⟨o,rfl,hb,hc⟩:=hr.get (k:=0) (by simp);obtain ⟨o',e,_,hc1⟩:=hr.get (k:=1) (by simp);injection e with e;injection e with _ e;subst e
 simp only [Nat.add_zero,cN,List.map_cons,List.getElem_cons_zero,List.getElem_cons_succ] at hc hc1;have ek:((n1:Int)+1)=((n1+1:Nat):Int):=by omega
 have EK:=hid ek;have HG:=hid hG;have hGl:=hG.lt;obtain ⟨h1,h2⟩:=ht;clear hr ek hG;go_enter Tryz.func76,Tryz.ntmps76
 go_wp2_with fail;go_quiet (fail)
 go_wp2_with fail;have hNq:Nw w (w.drewN nq):=Nw.drewN w nq;refine (NewReader_any _ b _ 0 0 [] rfl (by omega) (Rd.nil _ _ _) (by simp) (by simp)).mono ?_;rintro e w2 ⟨g,b2,rfl,hR2,hg2,hb2,hNw2⟩;have hW2:=hNq.trans hNw2;have hsq:(w.drewN nq).heap.size=w.heap.size:=rfl;have hH7:=tGet_any w2 g b2 [] 0 (n1+1) hR2 (.inr rfl) (HG.out.nw hW2) (by omega) (by omega) (by omega);rw [show rest [] 0=[] from rfl,tget_nil (by omega)] at hH7;have H7:=hid hH7;clear hH7 hR2;go_wp2_with fail;rw [EK.out];refine H7.out.mono ?_;rintro e w3 ⟨⟨rfl,hk⟩,hK3⟩;go_wp2_with fail;go_ret2;exact ⟨⟨rfl,hk⟩,Kp.nw hW2 hK3 (by omega) (by omega)⟩
theorem Decode_any (w:World) (b:Nat) (A:Option Addr) (n c:Nat) (bytes:List Nat) (hn:n=bytes.length) (hnc:n≤c) (hm:n≤1000000) (hr:Rd w b A (cN .u8 bytes)) (hby:∀ x∈bytes,x < 256) (hG:Gl w) :
  Calls Tryz.prog 76 #[.slice A n c] w (DcGot w (cget bytes)):=by
 match bytes with
 | []=>subst hn;exact Decode_nil w A c
 | tag::r =>
  by_cases ht:tag < 1∨3 < tag
  ·exact Decode_kind w b A n c tag r (by simpa using hn) hr ht
  ·match r with
   | []=>subst hn;exact Decode_one w b A c tag hr (by omega)
   | n1::r =>
    by_cases h:120≤n1
    ·exact Decode_limit w b A n c tag n1 r (by simpa using hn) hr (by omega) h
    ·by_cases hc2:c=2
     ·subst hc2;obtain rfl:r=[]:=List.eq_nil_of_length_eq_zero (by simp at hn;omega);subst hn;exact Decode_two w b A tag n1 hr (by omega) (by omega) hG
     ·exact Decode_main w b A n c tag n1 r (by simpa using hn) hnc hc2 hm hr (fun x hx=>hby x (by simp [hx])) (by omega) (by omega) hG
end
section
open Go Go.RowKit Go.Sort Go.Shelf
attribute [local go_sem] Oper.semAt_some
def partsF:Nat→Nat→Nat→List (Nat × Nat)
 | 0,_,_=>[]
 | f+1,n,i=>if i < n then (i,min 120 (n - i))::partsF f n (i+120) else []
def parts (n i:Nat):List (Nat × Nat):=partsF (n - i) n i
theorem partsF_more:∀ (f g n i:Nat),n - i≤f→f≤g→partsF f n i=partsF g n i:=by
 intro f;induction f with
 | zero =>
  intro g n i h _;cases g with
  | zero=>rfl
  | succ g=>rw [partsF,partsF,if_neg (by omega)]
 | succ f ih =>
  intro g n i h hg;obtain ⟨m,rfl⟩:∃ m,g=m+1:=⟨g - 1,by omega⟩;rw [partsF,partsF];split
  ·rw [ih m n (i+120) (by omega) (by omega)]
  ·rfl
theorem parts_lt {n i:Nat} (h:i < n):parts n i=(i,min 120 (n - i))::parts n (i+120):=by
 unfold parts;rw [show n - i=(n - i - 1)+1 by omega,partsF,if_pos h,show (n - i - 1)+1=n - i by omega];rw [partsF_more (n - (i+120)) (n - i - 1) n (i+120) (by omega) (by omega)]
theorem parts_ge {n i:Nat} (h:n≤i):parts n i=[]:=by
 unfold parts;rw [show n - i=0 by omega];rfl
theorem parts_length (n:Nat):∀ (f i:Nat),n - i≤f→(parts n i).length=(n - i+119) / 120:=by
 intro f;induction f with
 | zero=>intro i h;rw [parts_ge (by omega)];simp;omega
 | succ f ih =>
  intro i h;by_cases hi:i < n
  ·rw [parts_lt hi,List.length_cons,ih (i+120) (by omega)];omega
  ·rw [parts_ge (by omega)];simp;omega
end
section
open Go Go.RowKit Go.Sort Go.Shelf
attribute [local go_sem] Oper.semAt_some
theorem E_rows:ElemT Tryz.prog 57 63 (.slice none 0 0) 1 24:=ElemT.mk' Tryz.underlying57 (by kernel_rfl) rfl (by omega)
theorem spl_box {W w2:World} {g bp:Nat} {v:Value} {t e:TypeId} {u:Value} {o:Obj} (hb:W.heap[g]? = some (.cells #[u] t (0,0))) (hbp:g < bp) (hown:∀ r,v.ownBlock=some r→r=bp∧∃ cs fr,W.heap[bp]? = some (.cells cs e fr)) (hg:(W.alloc o).grownBy w2 v.ownBlock) :
  w2.cell? ⟨g,0,none⟩=some u∧w2.frozen? ⟨g,0,none⟩=false:=by
 have h:=(hg.block g (by simp;have:=lt_of_block hb;omega) (fun e=>by have:=(hown _ e.symm).1;omega)).trans ((heap_alloc_old W o (lt_of_block hb)).trans hb);exact ⟨by simp [World.cell?,h],by simp [World.frozen?,h]⟩
end
section
open Go Go.RowKit Go.Lib Go.Sort Go.Shelf
attribute [local go_sem] Oper.semAt_some
def LabI (w:World) (pre:List Lab) (W:World):Prop :=
 ∃ bp Ap cp,W.heap[w.heap.size]? = some (.cells #[.slice Ap pre.length cp] 84 (0,0))∧Ow W bp 96 2 Ap pre.length cp (cL pre)∧w.heap.size < bp∧Nw w W
theorem LabI.own {w:World} {D:Nat} (hD:w.heap.size < D):OwnFrom D (LabI w):=by
 intro pre W W' row h hg hr;obtain ⟨bp,Ap,cp,h1,h2,h3,h4⟩:=h;refine ⟨bp,Ap,cp,(hg.block _ (lt_of_block h1) (fun e=>by have:=(hr _ e.symm).1;omega)).trans h1,h2.own hg (fun r e=>(hr r e).2),h3,h4.grown' hg (fun k e=>by have:=(hr _ e).1;omega)⟩
def LabX (T:Nat→Array Value) (x:Lab) (a:Act) (W:World):Prop:=∃ b5,a = { tmps:=T b5,defers:=[] }∧W.heap[b5]? = some (.cells #[.string x.1,.string x.2] 96 (0,0))
theorem LabX.own (T:Lab→Nat→Array Value) (D:Nat) (x:Lab) (a:Act):OwnFrom D (fun (_:Unit) W=>LabX (T x) x a W):=by
 intro _ W W' row h hg hr;obtain ⟨b5,e,h1⟩:=h;refine ⟨b5,e,(hg.block _ (lt_of_block h1) (fun e=>?_)).trans h1⟩;obtain ⟨_,o,h2,h3⟩:=hr _ e.symm;rw [h1] at h2;cases h2;cases h3
abbrev labT (w0 B:Nat) (x:Lab) (b5:Nat):Array Value:=#[.slice none 0 0,.func (.func 194) #[] #[.pointer (some ⟨B,0,none⟩)],.pointer (some ⟨w0,0,none⟩),undef,.slice none 0 0,.pointer (some ⟨b5,0,none⟩),
 .func (.func 194) #[] #[.pointer (some ⟨B,0,none⟩)],labKey x,undef,undef,undef,undef,undef]
theorem old_walk {W:World} {k:Nat} {o p:Obj} (h:W.heap[k]? = some o):(W.alloc p).heap[k]? = some o:=(heap_alloc_old _ _ (lt_of_block h)).trans h
theorem two_new (W:World) (a d:Value) (t:TypeId):∀ j u,[a,d][j]? = some u→(W.alloc (.cells #[a,d] t)).cell? ((⟨W.heap.size,0,none⟩:Addr).add j)=some u:=by
 intro j u h;rw [add_lit'];rw [Nat.zero_add,cell_at (heap_alloc_new W (.cells #[a,d] t))];simpa using h
set_option maxRecDepth 100000 in
theorem AppendSeqK_any (w:World) (B b:Nat) (l:List (Lab × Value)) (hm:l.length≤1000000) (hB:w.heap[B]? = some (.cells #[.map (some b)] 206 (0,0))) (hb:w.heap[b]? = some (.map (entsE l) l.length)) :
  Calls Tryz.prog 252 #[.slice none 0 0,.func (.func 194) #[] #[.pointer (some ⟨B,0,none⟩)]] w fun e w' =>
   ∃ (ks:List Lab) (bp:Nat) (Ap:Option Addr) (cp:Nat),e=.returned (.slice Ap l.length cp)∧ks.Perm (l.map (·.1))∧Ow w' bp 96 2 Ap l.length cp (cL ks)∧w.heap.size≤bp∧Nw w w':=by
 have hBl:=lt_of_block hB;have hbl:=lt_of_block hb;have hw1:Nw w (w.alloc (.cells #[.slice none 0 0] 84)):=(Nw.refl w).alloc' _;have hsz:(w.alloc (.cells #[.slice none 0 0] 84)).heap.size=w.heap.size+1:=by simp
 obtain ⟨i0,hi,hz0,hz1,hz2⟩:=E_lab.info;refine (callsIn_wide (n:=4)).1 ?_;refine callsIn_of_wp_marks Tryz.func252 rfl trivial ?_ rfl;simp only [Tryz.ntmps252,List.size_toArray,List.length_cons,List.length_nil,Nat.reduceAdd,Nat.reduceSub,Array.replicate_succ,Array.replicate_zero,List.push_toArray,List.append_toArray,List.nil_append,List.cons_append]
 gi_wp2
 refine wpIn_rangeFunc_ownH (F:=Fence.wide) (n:=4) rfl (by omega) (gf:=194) (lb:=#[.pointer (some ⟨B,0,none⟩)]) rfl trivial (enters_of Tryz.func194 (by kernel_rfl) rfl)
  (keys_stops 3 (by omega) _ B b l ((hw1.block _ hBl).trans hB) ((hw1.block _ hbl).trans hb))
  KpM.trans (fun W lq o o' h1 h2 _ h4=>⟨World.putObj_heap_other (by have:=hsz;omega),fun k o2 hk ho=>(World.putObj_heap_other (fun e=>by subst e;rw [h2] at hk;cases hk;rw [h4] at ho;cases ho)).trans hk,by simp⟩) (Below.refl _ _) (fun _=>rfl)
  (LabI w) (fun _ _ _=>False) (LabI.own (by have:=hsz;omega)) (fun _ _ _ _ _ hs _ _=>hs) ?start (fun x=>LabX (labT w.heap.size B x) x) (fun x a'=>LabX.own (labT w.heap.size B) _ x a') ?assign ?body ?done ?stop
 case assign =>
  intro l pre x W K hI hK;obtain ⟨a,d⟩:=x;have hG:W.grownBy (W.alloc (.cells #[.string a,.string d] 96)) none:=World.grownBy_alloc W _ none;have hBW:B < W.heap.size:=by obtain ⟨_,_,_,_,_,_,h⟩:=hI;have:=h.size;omega
  have hK2:=hK { tmps:=labT w.heap.size B (a,d) W.heap.size,defers:=[] } (W.alloc (.cells #[.string a,.string d] 96)) ⟨by simp,fun k o _ h _=>old_walk h⟩
   ⟨heap_alloc_old _ _ hBW,fun k o h _=>old_walk h,by simp⟩ ((LabI.own (Nat.lt_succ_self _)) pre W _ none hI hG (fun r e=>by cases e)) ⟨W.heap.size,rfl,heap_alloc_new _ _⟩
  gi_wp2
  exact hK2
 case stop =>
  intro D c pre W _ _ h _;exact h.elim
 case start =>
  exact ⟨w.heap.size+1,none,0,heap_alloc_new w _,Ow.nil _ _ _ _,by omega,hw1⟩
 case body =>
  rintro lq pre ⟨a,d⟩ a' W hlq hlr hI ⟨b5,rfl,hb5⟩ hlt;obtain ⟨bp,Ap,cp,hb,hO,hbp,hN⟩:=hI;have hc:W.cell? ⟨w.heap.size,0,none⟩=some (.slice Ap pre.length cp):=by simp [World.cell?,hb]
  have e0:=cell_at (k:=0) hb5;have e1:=cell_at (k:=1) hb5;have hlW:=lt_of_block hb;have hrow:=(hO.nw ((Nw.refl W).alloc' (.cells #[.string a,.string d] 96))).row;have hown:∀ r,(Value.slice Ap pre.length cp).ownBlock=some r→r=bp∧∃ cs fr,W.heap[bp]? = some (.cells cs 96 fr):=by
   intro r hr;cases Ap with
   | none=>simp [Value.ownBlock] at hr
   | some p =>
    have hbk:=hO.blk;rcases hO with ⟨h,_⟩ | ⟨h,_⟩
    ·cases h
    ·injection h with h
     subst h;simp [Value.ownBlock] at hr;exact ⟨hr.symm,hbk⟩
  have HOWN:=hid hown;have HO:=hid hO;have HB:=hid hb;have hpl2:pre.length≤1000000:=by omega
  have hBW:B < W.heap.size:=by have:=hN.size;omega
  clear hown hO hlt
  gi_wp2_with (gi_at_builtin;refine wpListIn_lies _ rfl (.tmp 8) (.tmp 10) 84 rfl 0 96 i0 (.agg #[.string .empty,.string .empty]) 2 32 E_lab.und hi hz0 hz1 hz2 rfl (by omega) _ _ _ rfl hrow ⟨W.heap.size,0,none⟩ 1 1 [.string a,.string d] rfl rfl (two_new W _ _ _) (by intro v hv;simp at hv;rcases hv with rfl | rfl<;>rfl) (by omega) (by simp only [maxLen];omega) (by omega) (Nat.zero_le _) ?_;intro g cap w2 r1 r2 r3 r4;have hc2:=spl_box (v:=.slice Ap pre.length cp) hb hbp HOWN.out r2)
  have hN1:Nw W (W.alloc (.cells #[.string a,.string d] 96)):=(Nw.refl W).alloc' _;have hk1:Kp bp bp W w2:=(hN1.kp bp bp).grown r2 (fun k e=>.inl (HOWN.out k e).1);have hgb:w.heap.size < g:=by
   rcases r3 with e | e
   ·rw [(HOWN.out g e).1];exact hbp
   ·rw [e];simp;omega
  have hst:Kp w.heap.size w.heap.size w2 (w2.setCell ⟨w.heap.size,0,none⟩ (.slice (some ⟨g,0,none⟩) (pre.length+1) cap)):=(Kp.refl _ _ _).setCell' (p:=⟨w.heap.size,0,none⟩) (.inl rfl) _;have hs1:=hk1.size;have hs2:=hst.size;have hsW:=hN.size;have hbp':w.heap.size≤bp:=by omega
  have hNf:Nw w (w2.setCell ⟨w.heap.size,0,none⟩ (.slice (some ⟨g,0,none⟩) (pre.length+1) cap)):=Kp.nw (Kp.nw hN hk1 hbp' hbp') hst (Nat.le_refl _) (Nat.le_refl _);have hbx2:=((hk1.block w.heap.size hlW (by omega) (by omega)).trans hb);have hnc:∀ (k:Nat) (o:Obj),W.heap[k]? = some o→o.isCells=false→(w2.setCell ⟨w.heap.size,0,none⟩ (.slice (some ⟨g,0,none⟩) (pre.length+1) cap)).heap[k]? = some o:=by
   intro k o ho hoc;have hkl:=lt_of_block ho;have hkw:k≠w.heap.size:=fun e=>by
    rw [e,hb] at ho;cases ho;cases hoc
   have hkb:k≠bp∨(∀ r,(Value.slice Ap pre.length cp).ownBlock=some r→False):=by
    by_cases e:k=bp
    ·right
     intro r hr;obtain ⟨cs,fr,hcs⟩:=(HOWN.out r hr).2;rw [e,hcs] at ho;cases ho;cases hoc
    ·exact .inl e
   rcases hkb with hkb | hkb
   ·exact (hst.block k (by omega) (by omega) (by omega)).trans ((hk1.block k hkl hkb hkb).trans ho)
   ·have hNN:Nw W w2:=hN1.grown' r2 (fun r e=>(hkb r e).elim);exact (hst.block k (by omega) (by omega) (by omega)).trans ((hNN.block k hkl).trans ho)
  refine ⟨⟨by omega,fun k o _ ho hoc=>hnc k o ho hoc⟩,⟨?_,fun k o ho hw=>hnc k o ho (by cases o<;>simp_all [Obj.isWalk,Obj.isCells]),by omega⟩,g,some ⟨g,0,none⟩,cap,?_,?_,hgb,hNf⟩
  ·exact (hst.block B (by omega) (by omega) (by omega)).trans (hk1.block B (by omega) (by omega) (by omega))
  ·rw [List.length_append,List.length_singleton];simp [World.setCell,Array.getElem?_modify,hbx2]
  ·have h:Ow w2 g 96 2 (some ⟨g,0,none⟩) (pre.length+1) cap (cL pre++[.string a,.string d]):=.inr ⟨rfl,r4,r1⟩;rw [List.length_append,List.length_singleton,show cL (pre++[(a,d)])=cL pre++[.string a,.string d] from by unfold cL c2;rw [List.flatMap_append];rfl];exact h.kp hst (by omega) (by omega)
 case done =>
  intro D ys W hD hS hI hK;obtain ⟨bp,Ap,cp,hb,hO,hbp,hN⟩:=hI;have hyl:ys.length=l.length:=by rw [hS.length_eq,List.length_map]
  rw [hyl] at hb hO;have hc:W.cell? ⟨w.heap.size,0,none⟩=some (.slice Ap l.length cp):=by simp [World.cell?,hb]
  have HS:=hid hS;clear hS
  gi_wp2
  refine ⟨by simp,.inl ⟨_,_,rfl,run_takeDeferred hK,?_⟩⟩;refine ⟨_,results_tmp rfl _ _ _,ys,bp,Ap,cp,rfl,HS.out,hO.own (grownBy_putObj' W D _) (fun k e=>by cases e;exact ⟨_,hK,rfl⟩),by omega,hN.grown' (grownBy_putObj' W D _) (fun k e=>by cases e;have:=hsz;omega)⟩
theorem CollectK_any (w:World) (B b:Nat) (l:List (Lab × Value)) (hm:l.length≤1000000) (hB:w.heap[B]? = some (.cells #[.map (some b)] 206 (0,0))) (hb:w.heap[b]? = some (.map (entsE l) l.length)) :
  Calls Tryz.prog 192 #[.func (.func 194) #[] #[.pointer (some ⟨B,0,none⟩)]] w fun e w' =>
   ∃ (ks:List Lab) (bp:Nat) (Ap:Option Addr) (cp:Nat),e=.returned (.slice Ap l.length cp)∧ks.Perm (l.map (·.1))∧Ow w' bp 96 2 Ap l.length cp (cL ks)∧w.heap.size≤bp∧Nw w w':=by
 have HA:=hid (AppendSeqK_any w B b l hm hB hb);clear hB hb;go_enter Tryz.func192,Tryz.ntmps192
 go_wp2_with fail;refine HA.out.mono ?_;rintro e w1 ⟨ks,bp,Ap,cp,rfl,h1,h2,h3,h4⟩;go_wp2;go_ret;exact ⟨ks,bp,Ap,cp,rfl,h1,h2,h3,h4⟩
end
section
open Go Go.RowKit Go.Sort
def Ap (g:Nat) (l:List Ser):Prop:=l.Pairwise (fun s t=>s.bs≠t.bs∧s.bs≠t.bl∧s.bl≠t.bs∧s.bl≠t.bl)∧∀ s∈l,s.bs≠g∧s.bl≠g∧s.bs≠s.bl
section
variable {w w':World} {lo g g' b n c:Nat} {A:Option Addr} {s:Ser} {e:TypeId} {size:Nat} {xs:List Value}
end
end
section
open Go Go.RowKit Go.Sort Go.Shelf
theorem Ow.of_heapC {w:World} {g:Nat} {e:TypeId} {size n c:Nat} {cs:Array Value} (h:w.heap[g]? = some (.cells cs e (0,0))) (hs:cs.size=c*size) (hnc:n≤c) (hn:c≤9223372036854775807):Ow w g e size (some ⟨g,0,none⟩) n c (cs.toList.take (n*size)):=by
 have hle:n*size≤c*size:=Nat.mul_le_mul_right _ hnc;exact .inr ⟨rfl,lt_of_block h,by simp;omega,.inr ⟨g,c,cs,rfl,Nat.zero_le _,h,hnc,by simpa [maxLen] using hn,hs,rfl⟩⟩
section
variable {α:Type} [Inhabited α] {f h:α→Value}
theorem holds_ow {w:World} {g:Nat} {e:TypeId} {a:Addr} {c:Nat} {d:Array α} (hO:Ow w g e 2 (some a) d.size c (c2 f h d.toList)):HoldsK (fun x=>[f x,h x]) 2 w g 0 d:=by
 intro j hj;rw [size_flatK] at hj;rw [get_flatK _ _ _ _ hj];obtain ⟨_,_,h1,h2⟩:=hO.at_ (j:=j) hj;obtain ⟨e1,e2⟩:=c2_at (f:=f) (g:=h) d.toList (j / 2) (by rw [Array.length_toList];omega);have ed:d[j / 2]! = d.toList[j / 2]'(by rw [Array.length_toList];omega):=by rw [getElem!_pos d (j / 2) (by omega)];simp
 rw [Nat.zero_add];refine ⟨?_,h2⟩;rw [h1,ed];have:j % 2=0∨j % 2=1:=by omega
 rcases this with h3 | h3
 ·rw [h3];rw [show j / 2*2=j by omega] at e1;rw [e1];rfl
 ·rw [h3];rw [show j / 2*2+1=j by omega] at e2;rw [e2];rfl
theorem sort_ow {w:World} {g:Nat} {e:TypeId} {a:Addr} {n c m:Nat} {d':Array α} {xs:List Value} (hO:Ow w g e 2 (some a) n c xs) (hd:d'.size=n) (os:Array Obj) :
  Ow (sortWorldK (fun x=>[f x,h x]) 2 w g 0 m d' os) g e 2 (some ⟨g,0,none⟩) n c (c2 f h d'.toList)∧Kp g g w (sortWorldK (fun x=>[f x,h x]) 2 w g 0 m d' os):=by
 obtain ⟨cs,hh,hs,_,_⟩:=hO.heap;have hcap:=hO.cap;have hg:=lt_of_block hh;have hheap:(sortWorldK (fun x=>[f x,h x]) 2 w g 0 m d' os).heap[g]? = some (.cells (putCells id 0 (flatK (fun x=>[f x,h x]) 2 d') cs) e (0,0)):=by
  unfold sortWorldK putRowK;rw [heap_grow_old _ _ (by simpa [putRow,mapBlock,Sort.ahead] using hg)];simp [putRow,mapBlock,Sort.ahead,Array.getElem?_modify,hh,onCells]
 constructor
 ·have:=Ow.of_heapC (size:=2) (n:=n) hheap (by simpa [putCells] using hs) hcap.1 hcap.2;have ht:(putCells id 0 (flatK (fun x=>[f x,h x]) 2 d') cs).toList.take (n*2)=c2 f h d'.toList:=by
   apply List.ext_getElem?
   intro j;by_cases hj:j < n*2
   ·rw [List.getElem?_take_of_lt hj,Array.getElem?_toList];obtain ⟨e1,e2⟩:=c2_at (f:=f) (g:=h) d'.toList (j / 2) (by rw [Array.length_toList];omega);have ed:d'[j / 2]! = d'.toList[j / 2]'(by rw [Array.length_toList];omega):=by rw [getElem!_pos d' (j / 2) (by omega)];simp
    have hcs:j < cs.size:=by rw [hs];omega
    have hc:(putCells id 0 (flatK (fun x=>[f x,h x]) 2 d') cs)[j]? = some ((flatK (fun x=>[f x,h x]) 2 d')[j]!):=by
     simp only [putCells,Array.getElem?_mapIdx,Array.getElem?_eq_getElem hcs,Option.map_some];rw [if_pos ⟨Nat.zero_le _,by rw [size_flatK];omega⟩];simp
    rw [hc,get_flatK _ _ _ _ (by omega),ed];have:j % 2=0∨j % 2=1:=by omega
    rcases this with h3 | h3
    ·rw [h3];rw [show j / 2*2=j by omega] at e1;rw [e1];rfl
    ·rw [h3];rw [show j / 2*2+1=j by omega] at e2;rw [e2];rfl
   ·rw [List.getElem?_take_eq_none (by omega),List.getElem?_eq_none (by rw [c2_length,Array.length_toList];omega)]
  rwa [ht] at this
 ·refine ⟨rfl,rfl,rfl,by simp [sortWorldK,putRowK,putRow,mapBlock,Sort.ahead],fun k hk h1 _=>?_⟩;unfold sortWorldK putRowK;rw [heap_grow_old _ _ (by simpa [putRow,mapBlock,Sort.ahead] using hk)];have:g≠k:=fun e=>h1 e.symm
  simp [putRow,mapBlock,Sort.ahead,Array.getElem?_modify,this]
end
theorem perm_of {α:Type} [Inhabited α] {d d':Array α} (h:PermIn 0 d.size d d'):d'.toList.Perm d.toList:=by
 obtain ⟨h1,_,h3⟩:=h;rw [show d.extract 0 d.size=d from by simp,show d'.extract 0 d.size=d' from by rw [← h1];simp] at h3;exact h3
theorem sorted_of {α:Type} [Inhabited α] {lt:α→α→Bool} {d:Array α} {n:Nat} (h:SortedIn lt 0 n d) (hn:n=d.size):d.toList.Pairwise fun x y=>lt y x=false:=by
 subst hn;rw [List.pairwise_iff_getElem];intro i j hi hj hij;rw [Array.length_toList] at hi hj;have:=h i j (Nat.zero_le _) hij hj;rw [getElem!_pos d i hi,getElem!_pos d j hj] at this;simpa using this
end
section
open Go Go.RowKit Go.Sort Go.Shelf
structure Cmp3 {α:Type} (f:α→α→Int):Prop where
 inn:∀ a b,f a b = -1∨f a b=0∨f a b=1
 swap:∀ a b,f a b = - f b a
 zero:∀ a b,f a b=0↔a=b
 trans:∀ a b c,f a b = -1→f b c = -1→f a c = -1
theorem cmpS_swap (a b:ByteArray):cmpS a b = - cmpS b a:=by
 rcases bl_total a.toList b.toList with h | h | h
 ·rw [cmpS_neg.2 h,cmpS_pos.2 h]
 ·obtain rfl:=bytes_ext h;rw [cmpS_zero.2 rfl];rfl
 ·rw [cmpS_pos.2 h,cmpS_neg.2 h];rfl
theorem cmp3_S:Cmp3 cmpS where
 inn:=cmpS_in
 swap:=cmpS_swap
 zero _ _:=cmpS_zero
 trans _ _ _ h k:=cmpS_neg.2 (bl_trans _ _ _ (cmpS_neg.1 h) (cmpS_neg.1 k))
theorem Cmp3.pair {α β:Type} {f:α→α→Int} {h:β→β→Int} (F:Cmp3 f) (H:Cmp3 h):Cmp3 fun x y:α × β=>if f x.1 y.1≠0 then f x.1 y.1 else h x.2 y.2 where
 inn a b:=by
  by_cases e:f a.1 b.1=0
  ·rw [if_neg (fun n=>n e)];exact H.inn _ _
  ·rw [if_pos e];exact F.inn _ _
 swap a b:=by
  have s:=F.swap a.1 b.1;by_cases e:f a.1 b.1=0
  ·have e2:f b.1 a.1=0:=by omega
   rw [if_neg (fun n=>n e),if_neg (fun n=>n e2)];exact H.swap _ _
  ·have e2:¬ f b.1 a.1=0:=by omega
   rw [if_pos e,if_pos e2];exact s
 zero a b:=by
  by_cases e:f a.1 b.1=0
  ·rw [if_neg (fun n=>n e),H.zero];have:=(F.zero _ _).1 e;exact ⟨fun h=>Prod.ext this h,fun h=>by rw [h]⟩
  ·rw [if_pos e];exact ⟨fun h=>(e h).elim,fun h=>(e ((F.zero _ _).2 (by rw [h]))).elim⟩
 trans a b c:=by
  intro h k;by_cases e:f a.1 b.1=0
  ·have ea:=(F.zero _ _).1 e;rw [if_neg (fun n=>n e)] at h;by_cases e2:f b.1 c.1=0
   ·rw [if_neg (fun n=>n e2)] at k;rw [← ea] at e2;rw [if_neg (fun n=>n e2)];exact H.trans _ _ _ h k
   ·rw [if_pos e2] at k;rw [← ea] at e2 k;rw [if_pos e2];exact k
  ·rw [if_pos e] at h;have hk:f a.1 c.1 = -1:=by
    by_cases e2:f b.1 c.1=0
    ·rw [← (F.zero _ _).1 e2];exact h
    ·rw [if_pos e2] at k;exact F.trans _ _ _ h k
   have e3:¬ f a.1 c.1=0:=by omega
   rw [if_pos e3];exact hk
theorem cmp3_L:Cmp3 cmpL:=cmp3_S.pair cmp3_S
theorem Cmp3.lt {α β:Type} {f:β→β→Int} (F:Cmp3 f) {κ:α→β} {x y:α}:ltOf (fun x y:α=>f (κ x) (κ y)) x y=true↔f (κ x) (κ y) = -1:=by
 unfold ltOf;rw [decide_eq_true_iff];have:=F.inn (κ x) (κ y);show f (κ x) (κ y) < 0↔_
 omega
theorem Cmp3.swo {α β:Type} {f:β→β→Int} (F:Cmp3 f) (κ:α→β):SWO (ltOf fun x y:α=>f (κ x) (κ y)) where
 irrefl x:=by
  rw [Bool.eq_false_iff];intro h;rw [F.lt,(F.zero _ _).2 rfl] at h;cases h
 trans x y z h1 h2:=by
  rw [F.lt] at *;exact F.trans _ _ _ h1 h2
 ntrans x y z h1 h2:=by
  rw [Bool.eq_false_iff] at *;intro h;rw [ne_eq,F.lt] at *;have s1:=F.swap (κ x) (κ y);have s2:=F.swap (κ y) (κ z);rcases F.inn (κ x) (κ y) with a | a | a
  ·exact h1 a
  ·rw [(F.zero _ _).1 a] at h;exact h2 h
  ·exact h2 (F.trans _ _ _ (by omega) h)
end
end Go.Proofs.YtmmonehfnfbpbaaGreatDoor
namespace Go.Proofs
open Go.Shelf
def Tryz.sortLab_ren:Go.Shelf.Ren:=⟨fun | 6=>193 | 15=>254 | 14=>253 | 28=>299 | 29=>300 | 20=>291 | 21=>292 | 22=>293 | 23=>294 | 24=>295 | 25=>296 | 26=>297 | 27=>298 | 46=>314 | 47=>315 | 48=>316 | 49=>317 | 50=>318 | 57=>331 | n=>n,fun | 22=>84 | 24=>96 | 25=>204 | 3=>3 | 39=>344 | 0=>0 | 53=>69 | 55=>97 | 4=>4 | 46=>394 | 45=>393 | 50=>146 | 5=>5 | 9=>9 | 66=>415 | 70=>418 | 76=>427 | 77=>376 | n=>n,fun | n=>n⟩
theorem Tryz.sortLab:Go.Proofs.SlLaysF0.n6 Tryz.prog Tryz.sortLab_ren:={
 mixed:=by kernel_rfl
 f6:=⟨Tryz.f193.name,by decide,Tryz.func193.trans (congrArg some (by kernel_rfl))⟩
 f14:=⟨Tryz.f253.name,by decide,Tryz.func253.trans (congrArg some (by kernel_rfl))⟩
 f15:=Tryz.func254.trans (congrArg some (by kernel_rfl))
 f20:=⟨Tryz.f291.name,by decide,Tryz.func291.trans (congrArg some (by kernel_rfl))⟩
 f21:=⟨Tryz.f292.name,by decide,Tryz.func292.trans (congrArg some (by kernel_rfl))⟩
 f22:=⟨Tryz.f293.name,by decide,Tryz.func293.trans (congrArg some (by kernel_rfl))⟩
 f23:=⟨Tryz.f294.name,by decide,Tryz.func294.trans (congrArg some (by kernel_rfl))⟩
 f24:=⟨Tryz.f295.name,by decide,Tryz.func295.trans (congrArg some (by kernel_rfl))⟩
 f25:=⟨Tryz.f296.name,by decide,Tryz.func296.trans (congrArg some (by kernel_rfl))⟩
 f26:=⟨Tryz.f297.name,by decide,Tryz.func297.trans (congrArg some (by kernel_rfl))⟩
 f27:=⟨Tryz.f298.name,by decide,Tryz.func298.trans (congrArg some (by kernel_rfl))⟩
 f28:=Tryz.func299.trans (congrArg some (by kernel_rfl))
 f29:=Tryz.func300.trans (congrArg some (by kernel_rfl))
 f46:=⟨Tryz.f314.name,by decide,Tryz.func314.trans (congrArg some (by kernel_rfl))⟩
 f47:=Tryz.func315.trans (congrArg some (by kernel_rfl))
 f48:=Tryz.func316.trans (congrArg some (by kernel_rfl))
 f49:=⟨Tryz.f317.name,by decide,Tryz.func317.trans (congrArg some (by kernel_rfl))⟩
 f50:=⟨Tryz.f318.name,by decide,Tryz.func318.trans (congrArg some (by kernel_rfl))⟩
 f57:=⟨Tryz.f331.name,by decide,Tryz.func331.trans (congrArg some (by kernel_rfl))⟩
 t0:=Tryz.underlying0
 a0:=Tryz.isAgg0
 z0:=Tryz.sizeOf0
 v0:=Tryz.zeroValue0
 t3:=Tryz.underlying3
 a3:=Tryz.isAgg3
 z3:=Tryz.sizeOf3
 v3:=Tryz.zeroValue3
 t4:=Tryz.underlying4
 a4:=Tryz.isAgg4
 z4:=Tryz.sizeOf4
 v4:=Tryz.zeroValue4
 t5:=Tryz.underlying5
 a5:=Tryz.isAgg5
 z5:=Tryz.sizeOf5
 v5:=Tryz.zeroValue5
 t9:=Tryz.underlying9
 a9:=Tryz.isAgg9
 z9:=Tryz.sizeOf9
 v9:=Tryz.zeroValue9
 t22:=Tryz.underlying84
 a22:=Tryz.isAgg84
 z22:=Tryz.sizeOf84
 v22:=Tryz.zeroValue84
 t25:=Tryz.underlying204
 a25:=Tryz.isAgg204
 z25:=Tryz.sizeOf204
 v25:=Tryz.zeroValue204
 t39:=Tryz.underlying344
 a39:=Tryz.isAgg344
 z39:=Tryz.sizeOf344
 v39:=Tryz.zeroValue344
 t45:=Tryz.underlying393
 a45:=Tryz.isAgg393
 z45:=Tryz.sizeOf393
 v45:=Tryz.zeroValue393
 t46:=Tryz.underlying394
 a46:=Tryz.isAgg394
 z46:=Tryz.sizeOf394
 v46:=Tryz.zeroValue394
 t50:=Tryz.underlying146
 a50:=Tryz.isAgg146
 z50:=Tryz.sizeOf146
 v50:=Tryz.zeroValue146
 t53:=Tryz.underlying69
 a53:=Tryz.isAgg69
 z53:=Tryz.sizeOf69
 v53:=Tryz.zeroValue69
 t55:=Tryz.underlying97
 a55:=Tryz.isAgg97
 z55:=Tryz.sizeOf97
 v55:=Tryz.zeroValue97
 t66:=Tryz.underlying415
 a66:=Tryz.isAgg415
 z66:=Tryz.sizeOf415
 v66:=Tryz.zeroValue415
 t70:=Tryz.underlying418
 a70:=Tryz.isAgg418
 z70:=Tryz.sizeOf418
 v70:=Tryz.zeroValue418
 t76:=Tryz.underlying427
 a76:=Tryz.isAgg427
 z76:=Tryz.sizeOf427
 v76:=Tryz.zeroValue427
 t77:=Tryz.underlying376
 a77:=Tryz.isAgg376
 z77:=Tryz.sizeOf376
 v77:=Tryz.zeroValue376 }
end Go.Proofs
namespace Go.Proofs.YtmmonehfnfbpbaaGreatDoor
open Go.Lib(hid)
section
open Go Go.RowKit Go.Lib Go.Sort Go.Shelf
set_option maxRecDepth 100000 in
theorem cmpOr_any (w:World) (b:Nat) (x y:Int) (h0:w.cell? ⟨b,0,none⟩=some (.int .i64 x)) (h1:w.cell? ⟨b,1,none⟩=some (.int .i64 y)) :
  Calls Tryz.prog 190 #[.slice (some ⟨b,0,none⟩) 2 2] w fun e w'=>e=.returned (.int .i64 (if x≠0 then x else y))∧w=w':=by
 have H0:=hid h0;have H1:=hid h1;by_cases hx:x=0
 ·subst hx;by_cases hy:y=0
  ·subst hy;go_enter Tryz.func190,Tryz.ntmps190
   go_wp2;refine wp_loop_rounds 3 ?_;rw [rounds_succ];go_wp2;rw [rounds_succ];go_wp2;rw [rounds_succ];go_wp2;go_ret;exact ⟨by simp,rfl⟩
  ·have e1:(y != 0)=true:=by simpa using hy
   go_enter Tryz.func190,Tryz.ntmps190
   go_wp2;refine wp_loop_rounds 3 ?_;rw [rounds_succ];go_wp2;rw [rounds_succ];go_wp2;go_ret;exact ⟨by simp,rfl⟩
 ·have e1:(x != 0)=true:=by simpa using hx
  go_enter Tryz.func190,Tryz.ntmps190
  go_wp2;refine wp_loop_rounds 3 ?_;rw [rounds_succ];go_wp2;go_ret;exact ⟨by simp,rfl⟩
set_option maxRecDepth 100000 in
set_option maxHeartbeats 1600000 in
theorem pcmp_any (w:World) (x y:Lab) :
  Calls Tryz.prog 123 #[.agg #[.string x.1,.string x.2],.agg #[.string y.1,.string y.2]] w fun e w'=>e=.returned (.int .i64 (cmpL x y))∧Gr w w':=by
 obtain ⟨a,b⟩:=x;obtain ⟨c,d⟩:=y;have HC:=hid (show cmpL (a,b) (c,d)=(if cmpS a c≠0 then cmpS a c else cmpS b d) from rfl);dsimp only at HC ⊢;generalize cmpL (a,b) (c,d)=C at *;have HOr:=hid fun W bk=>cmpOr_any W bk (cmpS a c) (cmpS b d)
 rw [← HC.out] at HOr;clear HC;go_enter Tryz.func123,Tryz.ntmps123
 go_wp2_with fail;have hb0:((w.alloc (.cells #[.string a,.string b] 96)).alloc (.cells #[.string c,.string d] 96)).heap[w.heap.size]? = some (.cells #[.string a,.string b] 96 (0,0)):=by
  rw [heap_alloc_old _ _ (by simp)];exact heap_alloc_new _ _
 have hb1:((w.alloc (.cells #[.string a,.string b] 96)).alloc (.cells #[.string c,.string d] 96)).heap[w.heap.size+1]? = some (.cells #[.string c,.string d] 96 (0,0)):=by
  simpa using heap_alloc_new (w.alloc (.cells #[.string a,.string b] 96)) _
 have hgr:Gr w ((w.alloc (.cells #[.string a,.string b] 96)).alloc (.cells #[.string c,.string d] 96)):=(Gr.alloc _ _).trans (Gr.alloc _ _);generalize (w.alloc (.cells #[.string a,.string b] 96)).alloc (.cells #[.string c,.string d] 96)=wq at *;have hl0:=lt_of_block hb0;have hl1:=lt_of_block hb1;have q0:∀ p:Gp,(grow (wq.drewN p.n) p.os).cell? ⟨w.heap.size,0,none⟩=some (.string a):=cell_gr hl0 (by simp [World.cell?,hb0]);have q1:∀ p:Gp,(grow (wq.drewN p.n) p.os).cell? ⟨w.heap.size,1,none⟩=some (.string b):=cell_gr hl0 (by simp [World.cell?,hb0]);have q2:∀ p:Gp,(grow (wq.drewN p.n) p.os).cell? ⟨w.heap.size+1,0,none⟩=some (.string c):=cell_gr hl1 (by simp [World.cell?,hb1]);have q3:∀ p:Gp,(grow (wq.drewN p.n) p.os).cell? ⟨w.heap.size+1,1,none⟩=some (.string d):=cell_gr hl1 (by simp [World.cell?,hb1]);refine wp_region_gr_tail 10 (by kernel_rfl) (by kernel_rfl) ?_;simp only [List.take_succ_cons,List.take_zero,List.drop_succ_cons,List.drop_zero]
 repeat (quiet_step (first | (go_at_call 191;refine Calls.gr ((CompareS_any _ _ _).mono fun _ _ h=>⟨h.1,by rw [← h.2];exact Gr.refl _⟩))))
 refine wpQuiet_nil ?_;rintro _ ⟨p,rfl⟩;have hG:=hgr.trans ⟨p,rfl⟩;generalize grow (wq.drewN p.n) p.os=wz at *;generalize cmpS a c=c1 at *;generalize cmpS b d=c2 at *;have hN:=heap_alloc_new wz (.cells #[.int .i64 c1,.int .i64 c2] 3);have HO2:=hid (HOr.out _ wz.heap.size (cell_at (k:=0) hN) (cell_at (k:=1) hN));have HG:=hid (hG.alloc' (.cells #[.int .i64 c1,.int .i64 c2] 3));clear q0 q1 q2 q3 hG hgr hb0 hb1 hN;go_wp2_with fail;refine HO2.out.mono ?_;rintro e w2 ⟨rfl,hw⟩;subst hw;go_wp2;go_ret;exact ⟨rfl,HG.out⟩
theorem SortK_any (w:World) (g n c:Nat) (a:Addr) (l:List Lab) (hn:n=l.length) (hm:n≤1000000) (hO:Ow w g 96 2 (some a) n c (cL l)) :
  Calls Tryz.prog 193 #[.slice (some a) n c,.func (.func 123) #[] #[]] w fun e w'=>e=.returned (.tuple #[])∧∃ l',l'.Perm l∧l'.Pairwise (fun x y=>¬ cmpL y x = -1)∧Ow w' g 96 2 (some a) n c (cL l')∧Kp g g w w':=by
 subst hn;obtain ⟨cs,hh,_,_,rfl⟩:=hO.heap;have eg:∀ args w,(callFunc 123 args).run Tryz.prog w=.ok (.enter 123 args) w:=enters_of Tryz.func123 (by kernel_rfl) rfl;have hO':Ow w g 96 2 (some ⟨g,0,none⟩) l.toArray.size c (c2 (fun x:Lab=>.string x.1) (fun x=>.string x.2) l.toArray.toList):=by simpa [cL] using hO
 have hcmp:CmpLays Tryz.prog 123 #[] (fun x:Lab=>[.string x.1,.string x.2]) 2 cmpL g 0 l.toArray.size w:=by
  intro m os dk hd x y;refine (pcmp_any _ x y).mono ?_;rintro e w' ⟨he,p,hp⟩;exact ⟨he,p.n,p.os,hp⟩
 have hcon:=AnyQ.slices_SortFunc Tryz.sortLab 2 (fun w=>by kernel_rfl) (fun w=>by kernel_rfl) (fun x:Lab=>[.string x.1,.string x.2]) (fun _=>rfl) (fun x v hv=>by simp at hv;rcases hv with rfl | rfl<;>rfl) cmpL (cmp3_L.swo id) 123 #[] g 0 c l.toArray w eg hcmp (holds_ow hO') (lt_of_block hh) (by simp;omega);change Calls Tryz.prog 193 _ _ _ at hcon
 rw [List.size_toArray] at hcon;refine hcon.mono ?_;rintro e w' ⟨rfl,d',m,os,hp,hs,rfl⟩;have hd:d'.size=l.length:=by have:=hp.1;simpa using this
 have hw:=sort_ow (α:=Lab) (f:=fun x=>.string x.1) (h:=fun x=>.string x.2) (m:=m) hO hd os;refine ⟨rfl,d'.toList,?_,?_,hw.1,hw.2⟩
 ·have:=perm_of (d:=l.toArray) (d':=d') (by simpa using hp);simpa using this
 ·refine (sorted_of hs hd.symm).imp ?_;intro x y h h2;rw [show ltOf cmpL y x=true from (cmp3_L.lt (κ:=id)).2 h2] at h;cases h
end
section
open Go Go.RowKit Go.Lib Go.Sort Go.Shelf
open Go.ChangeMaps (setBlock heap_setBlock_same heap_setBlock_other)
def numsOf (done:List (Lab × Nat)) (x:Lab):List Nat:=(done.filter fun q=>cmpL q.1 x == 0).map (·.2)
theorem cmpL_eq {x y:Lab}:(cmpL x y == 0)=true↔x=y:=by rw [beq_iff_eq,cmp3_L.zero]
theorem numsOf_snoc_same (done:List (Lab × Nat)) (x:Lab) (i:Nat):numsOf (done++[(x,i)]) x=numsOf done x++[i]:=by
 unfold numsOf;have:(cmpL x x == 0)=true:=cmpL_eq.2 rfl;rw [List.filter_append,List.map_append];simp [this]
theorem numsOf_snoc_other {done:List (Lab × Nat)} {x y:Lab} {i:Nat} (h:x≠y):numsOf (done++[(x,i)]) y=numsOf done y:=by
 unfold numsOf;have:(cmpL x y == 0)=false:=by
  rw [Bool.eq_false_iff];exact fun e=>h (cmpL_eq.1 e)
 rw [List.filter_append,List.map_append];simp [this]
theorem numsOf_none {done:List (Lab × Nat)} {x:Lab} (h:∀ i,(x,i) ∉ done):numsOf done x=[]:=by
 unfold numsOf;rw [List.map_eq_nil_iff,List.filter_eq_nil_iff];rintro ⟨y,i⟩ hq e;obtain rfl:=cmpL_eq.1 e;exact h i hq
theorem numsOf_len (done:List (Lab × Nat)) (x:Lab):(numsOf done x).length≤done.length:=by
 unfold numsOf;rw [List.length_map];exact List.length_filter_le _ _
structure GrpOf (done:List (Lab × Nat)) (G:List (Lab × List Nat)):Prop where
 nd:(G.map (·.1)).Nodup
 mem:∀ x,x∈G.map (·.1)↔∃ i,(x,i)∈done
 nums:∀ p∈G,p.2=numsOf done p.1
theorem GrpOf.nil:GrpOf [] []:=⟨List.nodup_nil,by simp,by simp⟩
theorem GrpOf.new {done:List (Lab × Nat)} {G:List (Lab × List Nat)} (h:GrpOf done G) {x:Lab} (i:Nat) (hx:x ∉ G.map (·.1)):GrpOf (done++[(x,i)]) (G++[(x,[i])]):=by
 refine ⟨?_,fun y=>?_,fun p hp=>?_⟩
 ·rw [List.map_append];refine List.nodup_append.2 ⟨h.nd,by simp,fun a ha c hc e=>?_⟩;simp at hc;subst hc e;exact hx ha
 ·rw [List.map_append,List.mem_append,h.mem];simp only [List.map_cons,List.map_nil,List.mem_singleton,List.mem_append,Prod.mk.injEq];constructor
  ·rintro (⟨k,hk⟩ | rfl)
   ·exact ⟨k,.inl hk⟩
   ·exact ⟨i,.inr ⟨rfl,rfl⟩⟩
  ·rintro ⟨k,hk | ⟨rfl,_⟩⟩
   ·exact .inl ⟨k,hk⟩
   ·exact .inr rfl
 ·rcases List.mem_append.1 hp with hp1 | hp1
  ·rw [h.nums p hp1,numsOf_snoc_other];intro e;exact hx (e ▸ List.mem_map_of_mem hp1)
  ·simp only [List.mem_singleton] at hp1;subst hp1;rw [numsOf_snoc_same,numsOf_none]
   ·rfl
   ·intro k hk;exact hx ((h.mem x).2 ⟨k,hk⟩)
theorem GrpOf.old {done:List (Lab × Nat)} {G:List (Lab × List Nat)} (h:GrpOf done G) {x:Lab} {ns:List Nat} {j:Nat} (i:Nat) (hj:j < G.length) (hx:G[j]=(x,ns)):GrpOf (done++[(x,i)]) (G.set j (x,ns++[i])):=by
 have hm:(G.set j (x,ns++[i])).map (·.1)=G.map (·.1):=by
  rw [List.map_set];apply List.ext_getElem?
  intro k;rw [List.getElem?_set];split
  ·rename_i e
   subst e;simp [hj,hx]
  ·rfl
 have hxm:x∈G.map (·.1):=List.mem_map.2 ⟨G[j],List.getElem_mem hj,by rw [hx]⟩;refine ⟨by rw [hm];exact h.nd,fun y=>?_,fun p hp=>?_⟩
 ·rw [hm,h.mem];simp only [List.mem_append,List.mem_singleton,Prod.mk.injEq];constructor
  ·rintro ⟨k,hk⟩;exact ⟨k,.inl hk⟩
  ·rintro ⟨k,hk | ⟨rfl,_⟩⟩
   ·exact ⟨k,hk⟩
   ·exact (h.mem y).1 hxm
 ·obtain ⟨k,hk,rfl⟩:=List.getElem_of_mem hp;rw [List.length_set] at hk;by_cases e:j=k
  ·subst e;have hn:=h.nums _ (List.getElem_mem hj);rw [hx] at hn;rw [List.getElem_set_self,numsOf_snoc_same,← hn]
  ·rw [List.getElem_set_ne e,h.nums _ (List.getElem_mem hk),numsOf_snoc_other];intro e2;refine e (nodup_inj h.nd (i:=j) (j:=k) (hi:=by simpa using hj) (hj:=by simpa using hk) ?_);rw [List.getElem_map,List.getElem_map,hx,e2]
structure GR where
 lab:Lab
 ns:List Nat
 b:Nat
 A:Option Addr
 c:Nat
abbrev valG (r:GR):Lab × Value:=(r.lab,.slice r.A r.ns.length r.c)
abbrev keyG (r:GR):Lab × List Nat:=(r.lab,r.ns)
structure GInv (w W:World) (B:Nat) (done:List (Lab × Nat)) (rows:List GR):Prop where
 map:W.heap[B]? = some (.map (entsE (rows.map valG)) (rows.map valG).length)
 hB:w.heap.size≤B
 own:∀ r∈rows,Ow W r.b 3 1 r.A r.ns.length r.c (cN .i64 r.ns)
 far:∀ r∈rows,w.heap.size≤r.b∧r.A≠none
 apart:rows.Pairwise fun r s=>r.b≠s.b
 nw:Nw w W
 ok:∀ r∈rows,LOk r.lab
 grp:GrpOf done (rows.map keyG)
theorem GInv.tr {w W W':World} {B:Nat} {done:List (Lab × Nat)} {rows:List GR} (h:GInv w W B done rows) (hN:Nw W W'):GInv w W' B done rows :=
 ⟨(hN.block B (lt_of_block h.map)).trans h.map,h.hB,fun r hr=>(h.own r hr).nw hN,h.far,h.apart,h.nw.trans hN,h.ok,h.grp⟩
theorem GInv.start (w:World):GInv w (w.alloc (.map #[] 0)) w.heap.size [] [] :=
 ⟨heap_alloc_new _ _,Nat.le_refl _,by simp,by simp,List.Pairwise.nil,(Nw.refl w).alloc' _,by simp,GrpOf.nil⟩
theorem Ow.ne_map {w:World} {b B n c:Nat} {e:TypeId} {size:Nat} {A:Option Addr} {xs:List Value} {es:Array MapEntry} {k:Nat} (h:Ow w b e size A n c xs) (hA:A≠none) (hB:w.heap[B]? = some (.map es k)):b≠B:=by
 intro e;rcases h with ⟨h,_⟩ | ⟨rfl,hlt,h⟩
 ·exact hA h
 ·obtain ⟨cs,fr,hb⟩:=Ow.blk (.inr ⟨rfl,hlt,h⟩);rw [e,hB] at hb;cases hb
theorem keysG (rows:List GR):(rows.map valG).map (·.1)=(rows.map keyG).map (·.1):=by simp
theorem GInv.keys_nd {w W:World} {B:Nat} {done:List (Lab × Nat)} {rows:List GR} (h:GInv w W B done rows):((rows.map valG).map (·.1)).Nodup:=by rw [keysG];exact h.grp.nd
theorem GInv.oks {w W:World} {B:Nat} {done:List (Lab × Nat)} {rows:List GR} (h:GInv w W B done rows):∀ p∈rows.map valG,LOk p.1:=by
 intro p hp;obtain ⟨r,hr,rfl⟩:=List.mem_map.1 hp;exact h.ok r hr
theorem kp_set (W:World) (B:Nat) (o:Obj):Kp B B W (setBlock W B o):=kp_putObj W B o
theorem group_round {w W:World} {B:Nat} {done:List (Lab × Nat)} {rows:List GR} (h:GInv w W B done rows) {x:Lab} (hx:LOk x) (i:Nat) :
  ∃ (j b:Nat) (A:Option Addr) (c:Nat) (ns:List Nat) (W1:World),(Instr.mapEntry 206 (.map (some B)) (labKey x)).run Tryz.prog W=.ok (.tuple #[.slice A ns.length c,.int .i64 j]) W1 ∧
   Ow W1 b 3 1 A ns.length c (cN .i64 ns)∧ns.length≤done.length∧Kp B B W W1∧(A=none∨b≠B) ∧
   ∀ (b':Nat) (A':Option Addr) (c':Nat) (W2:World),Ow W2 b' 3 1 A' (ns.length+1) c' (cN .i64 (ns++[i]))→(b'=b∨W1.heap.size≤b')→Kp b b W1 W2→(A=none→Nw W1 W2) →
    ∃ W3,(Instr.entryStore 206 (.map (some B)) (.int .i64 j) (.slice A' (ns.length+1) c')).run Tryz.prog W2=.ok () W3∧Kp B B W2 W3∧∃ rows',GInv w W3 B (done++[(x,i)]) rows':=by
 have hBl:=lt_of_block h.map;have hne:∀ r∈rows,r.b≠B:=fun r hr=>(h.own r hr).ne_map (h.far r hr).2 h.map
 have hA':∀ (W2:World) (b':Nat) (A':Option Addr) (c':Nat) (ns:List Nat),Ow W2 b' 3 1 A' (ns.length+1) c' (cN .i64 (ns++[i]))→A'≠none:=fun W2 b' A' c' ns hO e=>by
  rcases hO with ⟨_,h1,_⟩ | ⟨h1,_⟩
  ·omega
  ·rw [e] at h1;cases h1
 by_cases hm:x∈(rows.map keyG).map (·.1)
 ·obtain ⟨j,hj,hjx⟩:=List.getElem_of_mem hm;have hjr:j < rows.length:=by simpa using hj
  obtain ⟨r,hr⟩:∃ r,rows[j]=r:=⟨_,rfl⟩;have hrm:r∈rows:=hr ▸ List.getElem_mem hjr;have hrx:r.lab=x:=by rw [← hjx,← hr];simp
  have hget:(rows.map valG)[j]? = some (x,.slice r.A r.ns.length r.c):=by
   rw [List.getElem?_map,List.getElem?_eq_getElem hjr,hr];simp [hrx]
  have hrun:=run_entry_old h.map h.oks hx h.keys_nd hget;have hb1:=heap_setBlock_same h.map (.map (entsE (rows.map valG)) (rows.map valG).length);have hk1:Kp B B W (setBlock W B (.map (entsE (rows.map valG)) (rows.map valG).length)):=kp_set _ _ _;generalize setBlock W B (.map (entsE (rows.map valG)) (rows.map valG).length)=W1 at *;have hO1:∀ s∈rows,Ow W1 s.b 3 1 s.A s.ns.length s.c (cN .i64 s.ns):=fun s hs=>(h.own s hs).kp hk1 (hne s hs) (hne s hs)
  have hnl:r.ns.length≤done.length:=by
   have:=h.grp.nums (keyG r) (List.mem_map_of_mem hrm);have e:r.ns=numsOf done r.lab:=this;rw [e];exact numsOf_len _ _
  refine ⟨j,r.b,r.A,r.c,r.ns,W1,hrun,hO1 r hrm,hnl,hk1,.inr (hne r hrm),?_⟩;intro b' A' c' W2 hO2 hb' hk2 _;have hB2:W2.heap[B]? = some (.map (entsE (rows.map valG)) (rows.map valG).length):=(hk2.block B (lt_of_block hb1) (fun e=>hne r hrm e.symm) (fun e=>hne r hrm e.symm)).trans hb1;have hst:=run_entry_store hB2 (j:=j) (by simpa using hjr) (.slice A' (r.ns.length+1) c');have hN:=hA' _ _ _ _ _ hO2;have hbB:b'≠B:=hO2.ne_map hN hB2;have hjm:j < (rows.map valG).length:=by rw [List.length_map];exact hjr
  have hset:(rows.map valG).set j (((rows.map valG)[j]'hjm).1,Value.slice A' (r.ns.length+1) c')=(rows.set j ⟨x,r.ns++[i],b',A',c'⟩).map valG:=by
   rw [List.map_set,List.getElem_map,hr,show valG (⟨x,r.ns++[i],b',A',c'⟩:GR)=(x,Value.slice A' (r.ns.length+1) c') from by rw [valG,List.length_append,List.length_singleton],← hrx]
  rw [hset] at hst;have hb3:=heap_setBlock_same hB2 (.map (entsE ((rows.set j ⟨x,r.ns++[i],b',A',c'⟩).map valG)) (rows.map valG).length);have hk3:Kp B B W2 (setBlock W2 B (.map (entsE ((rows.set j ⟨x,r.ns++[i],b',A',c'⟩).map valG)) (rows.map valG).length)):=kp_set _ _ _;generalize setBlock W2 B (.map (entsE ((rows.set j ⟨x,r.ns++[i],b',A',c'⟩).map valG)) (rows.map valG).length)=W3 at *;have hjk:∀ k (hk:k < rows.length),k≠j→rows[k].b≠r.b:=fun k hk hkj=>by
   rcases Nat.lt_trichotomy k j with h1 | h1 | h1
   ·have:=List.pairwise_iff_getElem.1 h.apart k j hk hjr h1
    rwa [hr] at this
   ·exact (hkj h1).elim
   ·have:=List.pairwise_iff_getElem.1 h.apart j k hjr hk h1;rw [hr] at this;exact fun e=>this e.symm
  have hlt1:∀ s∈rows,s.b < W1.heap.size:=fun s hs=>(hO1 s hs).lt_some (h.far s hs).2
  have hjb:∀ k (hk:k < rows.length),k≠j→rows[k].b≠b':=fun k hk hkj e=>by
   rcases hb' with h1 | h1
   ·exact hjk k hk hkj (e.trans h1)
   ·have:=hlt1 _ (List.getElem_mem hk);omega
  have hmem:∀ s∈rows.set j ⟨x,r.ns++[i],b',A',c'⟩,s=⟨x,r.ns++[i],b',A',c'⟩∨∃ k,∃ hk:k < rows.length,k≠j∧s=rows[k]:=fun s hs=>by
   obtain ⟨k,hk,rfl⟩:=List.getElem_of_mem hs;rw [List.length_set] at hk;by_cases e:j=k
   ·subst e;exact .inl (List.getElem_set_self _)
   ·exact .inr ⟨k,hk,fun e2=>e e2.symm,List.getElem_set_ne e _⟩
  have hwb:w.heap.size≤r.b:=(h.far r hrm).1;refine ⟨W3,hst,hk3,rows.set j ⟨x,r.ns++[i],b',A',c'⟩,?_⟩;refine { map:=by rw [hb3];simp,hB:=h.hB,own:=fun s hs=>?_,far:=fun s hs=>?_,apart:=?_,nw:=?_,ok:=fun s hs=>?_,grp:=?_ }
  ·rcases hmem s hs with rfl | ⟨k,hk,hkj,rfl⟩
   ·exact (show Ow W2 b' 3 1 A' (r.ns++[i]).length c' (cN .i64 (r.ns++[i])) from by rw [List.length_append];exact hO2).kp hk3 hbB hbB
   ·have hkm:=List.getElem_mem hk;exact ((hO1 _ hkm).kp hk2 (hjk k hk hkj) (hjk k hk hkj)).kp hk3 (hne _ hkm) (hne _ hkm)
  ·rcases hmem s hs with rfl | ⟨k,hk,hkj,rfl⟩
   ·refine ⟨?_,hN⟩;rcases hb' with h1 | h1
    ·rw [h1];exact hwb
    ·have:=h.nw.size;have:=hk1.size;show w.heap.size≤b';omega
   ·exact h.far _ (List.getElem_mem hk)
  ·rw [List.pairwise_iff_getElem];intro a c ha hc hac;rw [List.length_set] at ha hc;have hp:=List.pairwise_iff_getElem.1 h.apart a c ha hc hac;rw [List.getElem_set,List.getElem_set];split
   ·split
    ·omega
    ·exact fun e=>hjb c hc (by omega) e.symm
   ·split
    ·exact hjb a ha (by omega)
    ·exact hp
  ·have n1:Nw w W1:=Kp.nw h.nw hk1 h.hB h.hB;have n2:Nw w W2:=Kp.nw n1 hk2 hwb hwb;exact Kp.nw n2 hk3 h.hB h.hB
  ·rcases hmem s hs with rfl | ⟨k,hk,hkj,rfl⟩
   ·exact hx
   ·exact h.ok _ (List.getElem_mem hk)
  ·rw [List.map_set];exact h.grp.old i (by simpa using hjr) (by rw [List.getElem_map,hr,← hrx])
 ·have hnew:∀ p∈rows.map valG,p.1≠x:=fun p hp e=>hm (by rw [← keysG];exact e ▸ List.mem_map_of_mem hp)
  have hrun:=run_entry_new h.map h.oks hx hnew;have hb1:=heap_setBlock_same h.map (.map (entsE (rows.map valG++[(x,.slice none 0 0)])) ((rows.map valG).length+1));have hk1:Kp B B W (setBlock W B (.map (entsE (rows.map valG++[(x,.slice none 0 0)])) ((rows.map valG).length+1))):=kp_set _ _ _;generalize setBlock W B (.map (entsE (rows.map valG++[(x,.slice none 0 0)])) ((rows.map valG).length+1))=W1 at *;have hO1:∀ s∈rows,Ow W1 s.b 3 1 s.A s.ns.length s.c (cN .i64 s.ns):=fun s hs=>(h.own s hs).kp hk1 (hne s hs) (hne s hs)
  refine ⟨(rows.map valG).length,W1.heap.size,none,0,[],W1,hrun,Ow.nil _ _ _ _,Nat.zero_le _,hk1,.inl rfl,?_⟩;intro b' A' c' W2 hO2 hb' _ hn2;have hN2:=hn2 rfl;have hB2:W2.heap[B]? = some (.map (entsE (rows.map valG++[(x,.slice none 0 0)])) (rows.map valG++[(x,Value.slice none 0 0)]).length):=by
   rw [List.length_append,List.length_singleton];exact (hN2.block B (lt_of_block hb1)).trans hb1
  have hjl:(rows.map valG).length < (rows.map valG++[(x,Value.slice none 0 0)]).length:=by simp
  have hst:=run_entry_store hB2 (j:=(rows.map valG).length) hjl (Value.slice A' 1 c');have hN:=hA' _ _ _ _ [] hO2;have hbB:b'≠B:=hO2.ne_map hN hB2;have hset:(rows.map valG++[(x,Value.slice none 0 0)]).set (rows.map valG).length (((rows.map valG++[(x,Value.slice none 0 0)])[(rows.map valG).length]'hjl).1,Value.slice A' 1 c')=(rows++[GR.mk x [i] b' A' c']).map valG:=by
   rw [List.map_append,List.set_append_right _ _ (Nat.le_refl _)];simp [valG]
  rw [hset] at hst;have hb3:=heap_setBlock_same hB2 (.map (entsE ((rows++[GR.mk x [i] b' A' c']).map valG)) (rows.map valG++[(x,Value.slice none 0 0)]).length);have hk3:Kp B B W2 (setBlock W2 B (.map (entsE ((rows++[GR.mk x [i] b' A' c']).map valG)) (rows.map valG++[(x,Value.slice none 0 0)]).length)):=kp_set _ _ _;generalize setBlock W2 B (.map (entsE ((rows++[GR.mk x [i] b' A' c']).map valG)) (rows.map valG++[(x,Value.slice none 0 0)]).length)=W3 at *;have hb1':W1.heap.size≤b':=by
   rcases hb' with h1 | h1
   ·omega
   ·exact h1
  have hlt1:∀ s∈rows,s.b < W1.heap.size:=fun s hs=>(hO1 s hs).lt_some (h.far s hs).2
  have n1:Nw w W1:=Kp.nw h.nw hk1 h.hB h.hB;refine ⟨W3,hst,hk3,rows++[GR.mk x [i] b' A' c'],?_⟩;refine { map:=by rw [hb3];simp,hB:=h.hB,own:=fun s hs=>?_,far:=fun s hs=>?_,apart:=?_,nw:=?_,ok:=fun s hs=>?_,grp:=?_ }
  ·rcases List.mem_append.1 hs with hs | hs
   ·exact ((hO1 _ hs).nw hN2).kp hk3 (hne _ hs) (hne _ hs)
   ·simp only [List.mem_singleton] at hs;subst hs;exact (show Ow W2 b' 3 1 A' [i].length c' (cN .i64 [i]) from hO2).kp hk3 hbB hbB
  ·rcases List.mem_append.1 hs with hs | hs
   ·exact h.far _ hs
   ·simp only [List.mem_singleton] at hs;subst hs;exact ⟨by have:=n1.size;show w.heap.size≤b';omega,hN⟩
  ·refine List.pairwise_append.2 ⟨h.apart,List.pairwise_singleton _ _,fun a ha c hc=>?_⟩;simp only [List.mem_singleton] at hc;subst hc;have:=hlt1 a ha;show a.b≠b'
   omega
  ·exact Kp.nw (n1.trans hN2) hk3 h.hB h.hB
  ·rcases List.mem_append.1 hs with hs | hs
   ·exact h.ok _ hs
   ·simp only [List.mem_singleton] at hs;subst hs;exact hx
  ·rw [List.map_append];exact h.grp.new i hm
end
section
open Go Go.RowKit
theorem E_int:ElemT Tryz.prog 56 3 (.int .i64 0) 1 8:=ElemT.mk' Tryz.underlying56 (by kernel_rfl) rfl (by omega)
end
section
open Go Go.RowKit Go.Lib Go.Sort Go.Shelf
structure SetS where
 labs:List Lab
 b:Nat
 A:Option Addr
 c:Nat
def cSet (l:List SetS):List Value:=l.map fun s=>.slice s.A s.labs.length s.c
def InSet (w:World) (s:SetS):Prop:=Rd w s.b s.A (cL s.labs)∧s.labs.length≤100000∧∀ x∈s.labs,LOk x
def tagAt (L:List Lab) (i:Nat):List (Lab × Nat):=L.map fun x=>(x,i)
def doneOf (sets:List (List Lab)):List (Lab × Nat):=(sets.mapIdx fun i L=>tagAt L i).flatten
theorem doneOf_snoc {sets:List (List Lab)} {k:Nat} (h:k < sets.length):doneOf (sets.take (k+1))=doneOf (sets.take k)++tagAt sets[k] k:=by
 unfold doneOf;rw [List.take_succ_eq_append_getElem h,List.mapIdx_append,List.flatten_append];simp [Nat.min_eq_left (Nat.le_of_lt h)]
theorem tagAt_snoc {L:List Lab} {j i:Nat} (h:j < L.length):tagAt (L.take (j+1)) i=tagAt (L.take j) i++[(L[j],i)]:=by
 unfold tagAt;rw [List.take_succ_eq_append_getElem h,List.map_append];rfl
section
variable {P:Program} {ops:Array Oper} {rest:List Oper} {o:Oper} {a:Act} {Q:Exit→Act→World→Prop} {w:World}
theorem wpList_entryM (hg:o.guard=none) (m x:Operand) (t:TypeId) (hop:o.op=Op.mapEntry t m x) {M X V:Value} {w1:World} (hm:a.eval m=M) (hx:a.eval x=X) (hrun:(Instr.mapEntry t M X).run P w=.ok V w1)
  (hK:wpList P ops Q rest (a.put o.dst V) w1):wpList P ops Q (o::rest) a w:=by
 refine wpList_plain hg fun K' hK'=>?_
 unfold Oper.wp;simp [execOp,hop,hm,hx,hrun,Result.andThen];exact hK' _ _ hK
theorem wpList_storeM (hg:o.guard=none) (m s x:Operand) (t:TypeId) (hop:o.op=Op.entryStore t m s x) {M S X:Value} {w1:World} (hm:a.eval m=M) (hs:a.eval s=S) (hx:a.eval x=X) (hrun:(Instr.entryStore t M S X).run P w=.ok () w1)
  (hK:wpList P ops Q rest (a.put o.dst undef) w1):wpList P ops Q (o::rest) a w:=by
 refine wpList_plain hg fun K' hK'=>?_
 unfold Oper.wp;simp [execOp,hop,hm,hs,hx,hrun,Result.andThen];exact hK' _ _ hK
end
def cEnt1 (e:GR):List Value:=[.string e.lab.1,.string e.lab.2,.slice e.A e.ns.length e.c]
def cEnt (l:List GR):List Value:=l.flatMap cEnt1
theorem cEnt_len (l:List GR):(cEnt l).length=l.length*3:=by
 induction l with
 | nil=>rfl
 | cons x l ih=>rw [cEnt,List.flatMap_cons,List.length_append,show l.flatMap cEnt1=cEnt l from rfl,ih];simp [cEnt1];omega
theorem cEnt_snoc {l:List GR} {k:Nat} (h:k < l.length):cEnt (l.take (k+1))=cEnt (l.take k)++cEnt1 l[k]:=by
 unfold cEnt;rw [List.take_succ_eq_append_getElem h,List.flatMap_append];simp
theorem E_ent:ElemT Tryz.prog 122 196 (.agg #[.string .empty,.string .empty,.slice none 0 0]) 3 56:=ElemT.mk' Tryz.underlying122 (by kernel_rfl) rfl (by omega)
structure IsIdx (done:List (Lab × Nat)) (E:List (Lab × List Nat)):Prop where
 asc:(E.map (·.1)).Pairwise fun x y=>cmpL x y = -1
 mem:∀ x,x∈E.map (·.1)↔∃ i,(x,i)∈done
 nums:∀ p∈E,p.2=numsOf done p.1
theorem asc_of {ks:List Lab} (hd:ks.Nodup) (h:ks.Pairwise fun x y=>¬ cmpL y x = -1):ks.Pairwise fun x y=>cmpL x y = -1:=by
 refine (List.pairwise_and_iff.2 ⟨hd,h⟩).imp ?_;rintro x y ⟨h1,h2⟩;have:=cmp3_L.swap x y;rcases cmp3_L.inn x y with h3 | h3 | h3
 ·exact h3
 ·exact (h1 ((cmp3_L.zero _ _).1 h3)).elim
 ·omega
theorem rows_of (rows:List GR):∀ ks:List Lab,(∀ x∈ks,x∈(rows.map keyG).map (·.1))→∃ E:List GR,E.map (·.lab)=ks∧∀ e∈E,e∈rows
 | [],_=>⟨[],rfl,by simp⟩
 | x::ks,h=>by
  obtain ⟨E,h1,h2⟩:=rows_of rows ks (fun y hy=>h y (List.mem_cons_of_mem _ hy));obtain ⟨p,hp,hpx⟩:=List.mem_map.1 (h x List.mem_cons_self);obtain ⟨r,hr,rfl⟩:=List.mem_map.1 hp;refine ⟨r::E,by rw [List.map_cons,h1];exact congrArg (·::ks) hpx,fun e he=>?_⟩;rcases List.mem_cons.1 he with rfl | he
  ·exact hr
  ·exact h2 e he
theorem GInv.look {w W W':World} {B:Nat} {done:List (Lab × Nat)} {rows:List GR} (h:GInv w W B done rows) {r:GR} (hr:r∈rows) (hk:W'.heap[B]? = W.heap[B]?) :
  (Instr.lookup 206 (.map (some B)) (labKey r.lab) false).run Tryz.prog W'=.ok (.slice r.A r.ns.length r.c) W':=by
 obtain ⟨j,hj,rfl⟩:=List.getElem_of_mem hr;exact run_look (hk.trans h.map) h.oks (h.ok _ hr) h.keys_nd (j:=j) (by rw [List.getElem?_map,List.getElem?_eq_getElem hj];rfl)
theorem nodup_sub_len {α:Type}:∀ {l m:List α},l.Nodup→(∀ x∈l,x∈m)→l.length≤m.length
 | [],_,_,_=>Nat.zero_le _
 | x::l,m,hd,hs=>by
  obtain ⟨s,t,rfl⟩:=List.append_of_mem (hs x List.mem_cons_self);obtain ⟨h1,h2⟩:=List.nodup_cons.1 hd;have:=nodup_sub_len (m:=s++t) h2 (fun y hy=>by
   have hy2:=hs y (List.mem_cons_of_mem _ hy);simp only [List.mem_append,List.mem_cons] at hy2 ⊢;rcases hy2 with h | rfl | h
   ·exact .inl h
   ·exact (h1 hy).elim
   ·exact .inr h)
  simp at this ⊢;omega
theorem GrpOf.len {done:List (Lab × Nat)} {G:List (Lab × List Nat)} (h:GrpOf done G):G.length≤done.length:=by
 have:=nodup_sub_len (m:=done.map (·.1)) h.nd (fun x hx=>by
  obtain ⟨i,hi⟩:=(h.mem x).1 hx;exact List.mem_map.2 ⟨_,hi,rfl⟩)
 simpa using this
theorem SortKA_any (w:World) (bp n cp:Nat) (Ap:Option Addr) (ks:List Lab) (hn:n=ks.length) (hm:n≤1000000) (hO:Ow w bp 96 2 Ap n cp (cL ks)) :
  Calls Tryz.prog 193 #[.slice Ap n cp,.func (.func 123) #[] #[]] w fun e w'=>e=.returned (.tuple #[])∧∃ l',l'.Perm ks∧l'.Pairwise (fun x y=>¬ cmpL y x = -1)∧Rd w' bp Ap (cL l')∧(∀ w0:World,Nw w0 w→w0.heap.size≤bp→Nw w0 w'):=by
 cases Ap with
 | none =>
  rcases hO with ⟨_,h0,_,hc⟩ | ⟨h,_⟩
  ·have hk0:ks=[]:=List.eq_nil_of_length_eq_zero (by omega);subst hk0;subst h0;refine (AnyF.slices_SortFunc_none Tryz.sortLab none cp _ w).mono ?_;rintro e w' ⟨rfl,rfl⟩;exact ⟨rfl,[],List.Perm.nil,List.Pairwise.nil,Rd.nil _ _ _,fun _ h _=>h⟩
  ·cases h
 | some a =>
  refine (SortK_any w bp n cp a ks hn hm hO).mono ?_;rintro e w' ⟨rfl,l',h1,h2,h3,h4⟩;exact ⟨rfl,l',h1,h2,h3.rd,fun w0 h hb=>Kp.nw h h4 hb hb⟩
set_option maxRecDepth 100000 in
theorem SortedK_any (w:World) (B b:Nat) (l:List (Lab × Value)) (hm:l.length≤1000000) (hd:(l.map (·.1)).Nodup) (hB:w.heap[B]? = some (.cells #[.map (some b)] 206 (0,0))) (hb:w.heap[b]? = some (.map (entsE l) l.length)) :
  Calls Tryz.prog 125 #[.func (.func 194) #[] #[.pointer (some ⟨B,0,none⟩)],.func (.func 123) #[] #[]] w fun e w' =>
   ∃ (ks:List Lab) (bp:Nat) (Ap:Option Addr) (cp:Nat),e=.returned (.slice Ap l.length cp)∧ks.Perm (l.map (·.1))∧(ks.Pairwise fun x y=>cmpL x y = -1)∧Rd w' bp Ap (cL ks)∧Nw w w':=by
 have HC:=hid (CollectK_any w B b l hm hB hb);have HD:=hid hd;have HLL:Hid (∀ ks:List Lab,ks.Perm (l.map (·.1))→l.length=ks.length):=hid fun ks hp=>by rw [hp.length_eq,List.length_map]
 generalize l.map (·.1)=L at *;generalize l.length=n at *;clear hB hb hd;go_enter Tryz.func125,Tryz.ntmps125
 go_wp2_with fail;refine HC.out.mono ?_;rintro e w1 ⟨ks,bp,Ap,cp,rfl,hp,hO,hbp,hN⟩;have HS:=hid (SortKA_any w1 bp n cp Ap ks (HLL.out ks hp) hm hO);have HP:=hid hp;clear hO hp HC;go_wp2_with fail;refine HS.out.mono ?_;rintro e w2 ⟨rfl,l',h1,h2,h3,h4⟩;have hNf:=h4 w hN hbp;have H1:=hid h1;have H2:=hid h2;clear h1 h2 h4;go_wp2;go_ret;have hpp:=H1.out.trans HP.out;exact ⟨l',bp,Ap,cp,rfl,hpp,asc_of (hpp.nodup_iff.2 HD.out) H2.out,h3,hNf⟩
end
end Go.Proofs.YtmmonehfnfbpbaaGreatDoor
