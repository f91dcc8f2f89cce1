/- Laws that the last text builds on. -/
import Derived.Test.YtmmonehfnfbpbaaGreatDoorR7
namespace Go.Proofs.YtmmonehfnfbpbaaGreatDoor
open Go.Lib(hid)
section
open Go Go.RowKit Go.Lib Go.Sort Go.Shelf
set_option maxRecDepth 100000 in
set_option maxHeartbeats 2000000 in
theorem PBuild_any (w:World) (b:Nat) (A:Option Addr) (n c:Nat) (l:List SetS) (hn:n=l.length) (hm:n≤100000) (hr:Rd w b A (cSet l)) (hI:∀ s∈l,InSet w s) (hd:(doneOf (l.map (·.labs))).length≤100000) :
  Calls Tryz.prog 67 #[.slice A n c] w fun e w'=>∃ (b':Nat) (A':Option Addr) (c':Nat) (E:List GR),e=.returned (.slice A' E.length c')∧IsIdx (doneOf (l.map (·.labs))) (E.map keyG)∧Rd w' b' A' (cEnt E)∧(∀ x∈E,Rd w' x.b x.A (cN .i64 x.ns))∧Nw w w':=by
 subst hn;have HR:=hid hr;have HI:=hid hI;have hmm:=@run_makeMap Tryz.prog;obtain ⟨i0,hi,hz0,hz1,hz2⟩:=E_ent.info;obtain ⟨B,hB⟩:∃ B,w.heap.size=B:=⟨_,rfl⟩;have HG0:=hid (GInv.start w);obtain ⟨sets,hsets⟩:∃ s,l.map (·.labs)=s:=⟨_,rfl⟩;rw [hsets] at hd ⊢;have HS:=hid hsets;clear hr hI hsets;go_enter Tryz.func67,Tryz.ntmps67
 go_wp2;rw [hB] at HG0;go_loopw [14] (fun i wr=>∃ (k:Nat) (rows:List GR),k≤l.length∧i=.int .i64 k∧Hid (GInv w wr B (doneOf (sets.take k)) rows)) (fun i _=>l.length - (intOf i).toNat)
 case atStart=>exact ⟨0,[],by omega,rfl,by simpa [doneOf] using HG0⟩
 case round =>
  obtain ⟨k,rows,hk,rfl,HG⟩:=hrel;by_cases hlt:k < l.length
  ·have hltI:(k:Int) < (l.length:Int):=by omega
   obtain ⟨o,rfl,_,hc⟩:=(HR.out.nw HG.out.nw).get (k:=k) (by rw [cSet,List.length_map];exact hlt);simp only [cSet,List.getElem_map] at hc;have HIx:=hid (HI.out l[k] (List.getElem_mem hlt));have hks:k < sets.length:=by rw [← HS.out,List.length_map];exact hlt
   have HD:=hid (doneOf_snoc hks);have HL:=hid (show sets[k]=l[k].labs from by simp only [← HS.out,List.getElem_map]);have HDL:=hid (show (doneOf (sets.take k)++tagAt sets[k] k).length≤100000 from by
    rw [← doneOf_snoc hks];refine Nat.le_trans ?_ hd
    conv=>rhs;rw [← List.take_append_drop (k+1) sets]
    unfold doneOf;rw [List.mapIdx_append,List.flatten_append,List.length_append];omega)
   generalize l[k]=x at *;generalize sets[k]=L at *;obtain ⟨labs,bl,al,cl⟩:=x;obtain rfl:L=labs:=HL.out;have hll:L.length≤100000:=HIx.out.2.1;have HIL:Hid (Rd w bl al (cL L)):=hid HIx.out.1;have HIO:Hid (∀ x∈L,LOk x):=hid HIx.out.2.2;generalize doneOf (sets.take k)=D at *;clear HL HIx;dsimp only at hc;go_wp2_with fail;go_loopw [21] (fun i wr=>∃ (j:Nat) (rows:List GR),j≤L.length∧i=.int .i64 j∧Hid (GInv w wr B (D++tagAt (L.take j) k) rows)) (fun i _=>L.length - (intOf i).toNat)
   case atStart=>exact ⟨0,rows,by omega,rfl,by simpa [tagAt] using HG⟩
   case round =>
    obtain ⟨j,rows,hj,rfl,HG⟩:=hrel;by_cases hjt:j < L.length
    ·have hltJ:(j:Int) < (L.length:Int):=by omega
     obtain ⟨o2,rfl,_,hc0,hc1⟩:=two_at (HIL.out.nw HG.out.nw) hjt;have HOx:=hid (HIO.out L[j] (List.getElem_mem hjt));have HT:=hid (show D++tagAt (L.take (j+1)) k=D++tagAt (L.take j) k++[(L[j],k)] from by rw [tagAt_snoc hjt,List.append_assoc]);have hdl:(D++tagAt (L.take j) k).length≤100000:=by
      have:=HDL.out;simp [tagAt] at this ⊢;omega
     generalize L[j]=x at *;obtain ⟨a,d⟩:=x;have hN:Nw wr ((wr.alloc (.cells #[.string a,.string d] 96)).alloc (.cells #[.int .i64 k] 3)):=((Nw.refl wr).alloc' _).alloc' _;have hlit:((wr.alloc (.cells #[.string a,.string d] 96)).alloc (.cells #[.int .i64 k] 3)).heap[(wr.alloc (.cells #[.string a,.string d] 96)).heap.size]? = some (.cells #[.int .i64 k] 3 (0,0)):=heap_alloc_new _ _;obtain ⟨jj,bb,AA,cc,ns,W1,hrun,hO1,hnl,hk1,hbB,hcont⟩:=group_round (HG.out.tr hN) HOx.out k;have hlB:(wr.alloc (.cells #[.string a,.string d] 96)).heap.size≠B:=fun e=>by
      rw [e,(HG.out.tr hN).map] at hlit;cases hlit
     have hlit1:=(hk1.block _ (lt_of_block hlit) hlB hlB).trans hlit;have hrl:Rd W1 (wr.alloc (.cells #[.string a,.string d] 96)).heap.size (some ⟨(wr.alloc (.cells #[.string a,.string d] 96)).heap.size,0,none⟩) [.int .i64 k]:=.inr ⟨0,rfl,lt_of_block hlit1,fun j u hu=>by rw [Nat.zero_add,cell_at hlit1];simpa using hu⟩;have HO1:=hid hO1;have HRL:=hid hrl;have HC:=hid hcont;clear hO1 hrl hcont hlit hlit1 hk1 hN;rw [World.size_alloc] at HRL;go_wp2_with (first
      | (refine wpList_entryM rfl (.tmp 25) (.tmp 26) _ rfl rfl rfl hrun ?_)
      | (at_builtin;refine wpList_app E_int rfl (.tmp 27) (.tmp 29) rfl rfl HO1.out rfl HRL.out (by simp) (by intro h;cases h) (oc_N .i64 [k]) (by simp only [maxLen];omega) (by omega) ?_;intro b' A' c' W2 q1 q2 q3 q4;obtain ⟨W3,hst,hk3,rows',hG'⟩:=HC.out b' A' c' W2 (by rw [show cN .i64 (ns++[k])=cN .i64 ns++[.int .i64 k] from by simp [cN]];exact q1) q2 q3 (fun e=>(q4 e).1))
      | (refine wpList_storeM rfl (.tmp 25) (.tmp 32) (.tmp 31) _ rfl rfl rfl rfl hst ?_)
      | fail)
     go_roundw
     case rel=>exact ⟨j+1,rows',by omega,by go_num,hid (by rw [HT.out];exact hG')⟩
     case measure=>simp [intOf];omega
    ·obtain rfl:j=L.length:=by omega
     have hG2:=HG.out;rw [List.take_length,← HD.out] at hG2;have HG2:=hid hG2;clear hG2 HG;go_wp2_with fail;go_roundw
     case rel=>exact ⟨k+1,rows,by omega,by go_num,HG2⟩
     case measure=>simp [intOf];omega
  ·obtain rfl:k=l.length:=by omega
   have hG:=HG.out;rw [List.take_of_length_le (by rw [← HS.out,List.length_map];exact Nat.le_refl _)] at hG;have hrl:rows.length≤100000:=by
    have:=hG.grp.len;rw [List.length_map] at this;omega
   have hbx:=heap_alloc_new wr (.cells #[.map (some B)] 206);have hNx:Nw wr (wr.alloc (.cells #[.map (some B)] 206)):=(Nw.refl wr).alloc' _;have hGx:=hG.tr hNx;have HSK:=hid (SortedK_any _ wr.heap.size B (rows.map valG) (by rw [List.length_map];omega) hG.keys_nd hbx hGx.map);have HGx:=hid hGx;have HKA:=hid (Keys_any wr (some B));clear hG hbx hNx hGx HG;go_wp2_with fail;refine HKA.out.mono ?_;rintro e w1 ⟨rfl,rfl⟩;go_wp2_with fail;refine HSK.out.mono ?_;rintro e wq ⟨ks,bp,Ap,cp,rfl,hp,hasc,hRk,hNq⟩;have hpg:ks.Perm ((rows.map keyG).map (·.1)):=by rw [← keysG];exact hp
   obtain ⟨E,hE1,hE2⟩:=rows_of rows ks (fun x hx=>hpg.mem_iff.1 hx);have hEl:(rows.map valG).length=E.length:=by
    have h:=congrArg List.length hE1;rw [List.length_map] at h;rw [h,hp.length_eq];simp
   have hEk:E.length≤100000:=by rw [← hEl,List.length_map];exact hrl
   have hidx:IsIdx (doneOf sets) (E.map keyG):=by
    have hm:(E.map keyG).map (·.1)=ks:=by rw [← hE1];simp
    refine ⟨by rw [hm];exact hasc,fun x=>by rw [hm,hpg.mem_iff];exact HGx.out.grp.mem x,fun p hp=>?_⟩;obtain ⟨r,hr,rfl⟩:=List.mem_map.1 hp;exact HGx.out.grp.nums _ (List.mem_map_of_mem (hE2 r hr))
   have hNr:=HGx.out.nw.trans hNq;have HIDX:=hid hidx;have HRE:Hid (∀ x∈E,Rd wq x.b x.A (cN .i64 x.ns)):=hid fun x hx=>((HGx.out.own x (hE2 x hx)).rd).nw hNq
   have HLK:Hid (∀ W,Nw wq W→∀ x∈E,(Instr.lookup 206 (.map (some B)) (labKey x.lab) false).run Tryz.prog W=.ok (.slice x.A x.ns.length x.c) W):=hid fun W hW x hx=>by
    have hB0:=lt_of_block HGx.out.map;exact HGx.out.look (hE2 x hx) ((hW.block B (by have:=hNq.size;omega)).trans (hNq.block B hB0))
   have HNr:=hid hNr;have HRK:=hid hRk;have HEK:=hid hE1;rw [hEl];clear HGx HSK HKA hp hpg hasc hRk hNq hE1 hE2 hidx hNr hEl hrl hd HS HI hk hlt;go_wp2_with fail;go_loopw [8,39] (fun v i wr=>∃ (k bk:Nat) (Ak:Option Addr) (ck:Nat),k≤E.length∧i=.int .i64 k∧v=.slice Ak k ck∧Hid (Ow wr bk 196 3 Ak k ck (cEnt (E.take k)))∧Hid (wq.heap.size≤bk)∧Hid (Nw wq wr)) (fun _ i _=>E.length - (intOf i).toNat)
   case atStart=>exact ⟨0,wq.heap.size,none,0,by omega,rfl,rfl,hid (Ow.nil _ _ _ _),hid (Nat.le_refl _),hid (Nw.refl _)⟩
   case round =>
    obtain ⟨k,bk,Ak,ck,hk,rfl,rfl,HO,HBk,HN⟩:=hrel;by_cases hlt:k < E.length
    ·have hltI:(k:Int) < (E.length:Int):=by omega
     have hkk:k < ks.length:=by rw [← HEK.out,List.length_map];exact hlt
     obtain ⟨o,rfl,_,hc0,hc1⟩:=two_at (HRK.out.nw HN.out) hkk;have hkx:ks[k]=E[k].lab:=by simp only [← HEK.out,List.getElem_map]
     rw [hkx] at hc0 hc1;have HT:=hid (cEnt_snoc hlt);have HLx:=hid fun W (hW:Nw wq W)=>HLK.out W hW E[k] (List.getElem_mem hlt)
     generalize E[k]=x at *;obtain ⟨⟨a,d⟩,ns,xb,xA,xc⟩:=x;dsimp only at hc0 hc1;have hNx:Nw wr (wr.alloc (.cells #[.string a,.string d] 96)):=(Nw.refl wr).alloc' _;have hbx:=heap_alloc_new wr (.cells #[.string a,.string d] 96);have hbl:=lt_of_block hbx;obtain ⟨wx,hwx⟩:∃ wx,wr.alloc (.cells #[.string a,.string d] 96)=wx:=⟨_,rfl⟩;rw [hwx] at hNx hbx hbl;have HOW:=hid fun W (hN:Nw wx W)=>((HO.out.nw hNx).nw hN).row
     have HOWB:Hid (∀ j,(Value.slice Ak k ck).ownBlock=some j→j=bk):=hid fun j e=>(HO.out.ownBlock j e).1
     have hbk:Ak≠none→bk < wr.heap.size:=fun h=>HO.out.lt_some h
     have HNQ:=hid (HN.out.trans hNx);have hc3:(Instr.lookup 206 (.map (some B)) (.agg #[.string a,.string d]) false).run Tryz.prog wx.drew=.ok (.slice xA ns.length xc) wx.drew:=HLx.out wx.drew (HNQ.out.trans (Nw.drewO wx));have hc0:=cell_at (k:=0) hbx;have hc1:=cell_at (k:=1) hbx;have HK5:Hid (∀ W5,(wx.drew.alloc (.cells #[.string a,.string d,.slice xA ns.length xc] 196)).grownBy W5 (Value.slice Ak k ck).ownBlock→Kp bk bk wx W5):=hid fun W5 hg=>by
      have h1:Kp bk bk wx (wx.drew.alloc (.cells #[.string a,.string d,.slice xA ns.length xc] 196)):=((Nw.drewO wx).alloc' _).kp _ _;exact h1.grown hg (fun j e=>.inl (HOWB.out j e))
     have hd0:wx.drew.cell? ⟨wr.heap.size,0,none⟩=some (.string a):=hc0;have hd1:wx.drew.cell? ⟨wr.heap.size,1,none⟩=some (.string d):=hc1;have hw8:wr.heap.size < wr.heap.size+1:=Nat.lt_succ_self _;clear hkx hNx HO;go_wp2_with fail;clear hwx;go_region_law (refine step_append_lies _ rfl (.tmp 43) (.tmp 49) 122 rfl 0 196 i0 (.agg #[.string .empty,.string .empty,.slice none 0 0]) 3 56 E_ent.und hi hz0 hz1 hz2 rfl (by omega) _ k (cEnt (E.take k)) rfl (HOW.out _ (Nw.alloc' (Nw.drewO _) _)) ⟨_,0,none⟩ 1 1 [.string a,.string d,.slice xA ns.length xc] rfl rfl (World.news_of_block (heap_alloc_new _ _)) (by intro u hu;simp at hu;rcases hu with rfl | rfl | rfl<;>rfl) (by omega) (by simp only [maxLen];omega) (by omega) (Nat.zero_le _) _ rfl ?_;intro g5 cap5 w5 q1 q2 q3 q4)
     all_goals
      have q2':(wx.drew.alloc (.cells #[.string a,.string d,.slice xA ns.length xc] 196)).grownBy w5 (Value.slice Ak k ck).ownBlock:=q2;have q3':(Value.slice Ak k ck).ownBlock=some g5∨g5=(wx.alloc (.cells #[.string a,.string d,.slice xA ns.length xc] 196)).heap.size:=q3;have hkA:=HK5.out w5 q2';have hgb:wq.heap.size≤g5:=by
       rcases q3' with h | h
       ·rw [HOWB.out g5 h];exact HBk.out
       ·have:=HNQ.out.size;rw [World.size_alloc] at h;omega
      have HO5:Hid (Ow w5 g5 196 3 (some ⟨g5,0,none⟩) (k+1) cap5 (cEnt (E.take (k+1)))):=hid (by
       rw [HT.out];exact .inr ⟨rfl,q4,q1⟩)
      have HN5:=hid (Kp.nw HNQ.out hkA HBk.out HBk.out);have HGB:=hid hgb;clear hkA q1 q2 q3 q4 q2' q3' hgb;go_wp2;go_roundw
      case rel=>exact ⟨k+1,g5,_,cap5,by omega,by go_num,rfl,HO5,HGB,HN5⟩
      case measure=>simp [intOf];omega
    ·obtain rfl:k=E.length:=by omega
     have hO:=HO.out;rw [List.take_length] at hO;go_wp2;go_ret;exact ⟨bk,Ak,ck,E,rfl,HIDX.out,hO.rd,fun x hx=>(HRE.out x hx).nw HN.out,HNr.out.trans HN.out⟩
end
section
open Go Go.RowKit Go.Lib Go.Sort Go.Shelf
def difs (l:List Nat):List Nat:=List.zipWith (fun a b=>b - a) (0::l) l
theorem difs_len (l:List Nat):(difs l).length=l.length:=by unfold difs;simp
abbrev EntV:=Lab × List Nat
def entEnc (t:List ByteArray) (x:EntV):List Nat:=([x.1.1,x.1.2].flatMap fun s=>vint (idxS t s))++vint x.2.length++(difs x.2).flatMap vint
def posEnc (t:List ByteArray) (l:List EntV):List Nat:=vint l.length++l.flatMap (entEnc t)
theorem cEnt_get:∀ (l:List GR) (k i:Nat),k < l.length→i < 3→(cEnt l)[k*3+i]? = l[k]?.bind fun e=>(cEnt1 e)[i]?
 | [],k,_,h,_=>by simp at h
 | x::l,k,i,h,hi=>by
  rw [show cEnt (x::l)=cEnt1 x++cEnt l from rfl];cases k with
  | zero=>rw [List.getElem?_append_left (by simp [cEnt1];omega)];simp
  | succ k =>
   rw [List.getElem?_append_right (by simp [cEnt1];omega),show (k+1)*3+i - (cEnt1 x).length=k*3+i from by simp [cEnt1];omega];rw [cEnt_get l k i (by simpa using h) hi];simp
theorem ent_at {w:World} {b k:Nat} {A:Option Addr} {l:List GR} (h:Rd w b A (cEnt l)) (hk:k < l.length) :
  ∃ o,A=some ⟨b,o,none⟩∧b < w.heap.size∧w.cell? ⟨b,o+k*3,none⟩=some (.string l[k].lab.1)∧w.cell? ⟨b,o+k*3+1,none⟩=some (.string l[k].lab.2)∧w.cell? ⟨b,o+k*3+2,none⟩=some (.slice l[k].A l[k].ns.length l[k].c):=by
 rcases h with h | ⟨o,rfl,hb,hc⟩
 ·have:=cEnt_len l;rw [h] at this;simp at this;omega
 ·refine ⟨o,rfl,hb,hc (k*3) _ ?_,?_,?_⟩
  ·have:=cEnt_get l k 0 hk (by omega);rw [Nat.add_zero] at this;rw [this,List.getElem?_eq_getElem hk];rfl
  ·rw [Nat.add_assoc];refine hc (k*3+1) _ ?_;rw [cEnt_get l k 1 hk (by omega),List.getElem?_eq_getElem hk];rfl
  ·rw [Nat.add_assoc];refine hc (k*3+2) _ ?_;rw [cEnt_get l k 2 hk (by omega),List.getElem?_eq_getElem hk];rfl
end
section
open Go Go.RowKit Go.Lib Go.Sort Go.Shelf
def insK (x:Lab) (i:Nat):List EntV→List EntV
 | []=>[(x,[i])]
 | p::E=>if cmpL p.1 x = -1 then p::insK x i E else if cmpL p.1 x=0 then (x,p.2++[i])::E else (x,[i])::p::E
theorem insK_mem {x:Lab} {i:Nat}:∀ {E:List EntV} {y:Lab},y∈(insK x i E).map (·.1)↔y=x∨y∈E.map (·.1)
 | [],y=>by simp [insK]
 | p::E,y=>by
  rw [insK];split
  ·rw [List.map_cons,List.mem_cons,insK_mem,List.map_cons,List.mem_cons];constructor
   ·rintro (h | h | h)
    ·exact .inr (.inl h)
    ·exact .inl h
    ·exact .inr (.inr h)
   ·rintro (h | h | h)
    ·exact .inr (.inl h)
    ·exact .inl h
    ·exact .inr (.inr h)
  ·split
   ·rename_i h
    have hp:=(cmp3_L.zero _ _).1 h;simp only [List.map_cons,List.mem_cons,hp];constructor
    ·rintro (h | h)
     ·exact .inl h
     ·exact .inr (.inr h)
    ·rintro (h | h | h)
     ·exact .inl h
     ·exact .inl h
     ·exact .inr h
   ·simp only [List.map_cons,List.mem_cons]
theorem insK_asc {x:Lab} {i:Nat}:∀ {E:List EntV},(E.map (·.1)).Pairwise (fun a b=>cmpL a b = -1)→((insK x i E).map (·.1)).Pairwise fun a b=>cmpL a b = -1
 | [],_=>by simp [insK]
 | p::E,h=>by
  rw [List.map_cons,List.pairwise_cons] at h;rw [insK];split
  ·rename_i hp
   rw [List.map_cons,List.pairwise_cons];refine ⟨fun y hy=>?_,insK_asc h.2⟩;rcases insK_mem.1 hy with rfl | hy
   ·exact hp
   ·exact h.1 y hy
  ·split
   ·rename_i h0
    have hp:=(cmp3_L.zero _ _).1 h0;rw [List.map_cons,List.pairwise_cons];exact ⟨fun y hy=>by rw [← hp];exact h.1 y hy,h.2⟩
   ·rename_i h1 h0
    have hxp:cmpL x p.1 = -1:=by
     have:=cmp3_L.swap p.1 x;rcases cmp3_L.inn p.1 x with e | e | e
     ·exact (h1 e).elim
     ·exact (h0 e).elim
     ·omega
    rw [List.map_cons,List.map_cons,List.pairwise_cons];refine ⟨fun y hy=>?_,List.pairwise_cons.2 h⟩;rcases List.mem_cons.1 hy with rfl | hy
    ·exact hxp
    ·exact cmp3_L.trans _ _ _ hxp (h.1 y hy)
theorem insK_nums {x:Lab} {i:Nat} {f:Lab→List Nat}:∀ {E:List EntV},(E.map (·.1)).Pairwise (fun a b=>cmpL a b = -1)→(∀ p∈E,p.2=f p.1)→(x ∉ E.map (·.1)→f x=[]) →
  ∀ p∈insK x i E,(p.1=x∧p.2=f x++[i])∨(p.1≠x∧p.2=f p.1)
 | [],_,_,hx,p,hp=>by
  simp only [insK,List.mem_singleton] at hp;subst hp;exact .inl ⟨rfl,by rw [hx (by simp)];rfl⟩
 | q::E,ha,hn,hx,p,hp=>by
  rw [List.map_cons,List.pairwise_cons] at ha;rw [insK] at hp;have hne:∀ r∈E,cmpL q.1 r.1 = -1:=fun r hr=>ha.1 _ (List.mem_map_of_mem hr)
  have ne_of:∀ {a b:Lab},cmpL a b = -1→a≠b:=fun {a b} h e=>by
   rw [e,(cmp3_L.zero _ _).2 rfl] at h;omega
  split at hp
  ·rename_i h1
   rcases List.mem_cons.1 hp with rfl | hp
   ·exact .inr ⟨ne_of h1,hn _ List.mem_cons_self⟩
   ·exact insK_nums ha.2 (fun r hr=>hn r (List.mem_cons_of_mem _ hr)) (fun h=>hx (by
     rw [List.map_cons,List.mem_cons];rintro (e | e)
     ·exact ne_of h1 e.symm
     ·exact h e)) p hp
  ·split at hp
   ·rename_i h0
    have hq:=(cmp3_L.zero _ _).1 h0;rcases List.mem_cons.1 hp with rfl | hp
    ·exact .inl ⟨rfl,by rw [hn q List.mem_cons_self,hq]⟩
    ·refine .inr ⟨fun e=>?_,hn p (List.mem_cons_of_mem _ hp)⟩;exact ne_of (hne p hp) (by rw [hq,e])
   ·rename_i h1 h0
    have hxq:cmpL x q.1 = -1:=by
     have:=cmp3_L.swap q.1 x;rcases cmp3_L.inn q.1 x with e | e | e
     ·exact (h1 e).elim
     ·exact (h0 e).elim
     ·omega
    have hall:∀ r∈q::E,cmpL x r.1 = -1:=fun r hr=>by
     rcases List.mem_cons.1 hr with rfl | hr
     ·exact hxq
     ·exact cmp3_L.trans _ _ _ hxq (hne r hr)
    rcases List.mem_cons.1 hp with rfl | hp
    ·refine .inl ⟨rfl,?_⟩;rw [hx (fun h=>?_)]
     ·rfl
     ·obtain ⟨r,hr,he⟩:=List.mem_map.1 h;exact ne_of (hall r hr) he.symm
    ·exact .inr ⟨fun e=>ne_of (hall p hp) e.symm,hn p hp⟩
theorem IsIdx.nil:IsIdx [] []:=⟨List.Pairwise.nil,by simp,by simp⟩
theorem IsIdx.ins {done:List (Lab × Nat)} {E:List EntV} (h:IsIdx done E) (x:Lab) (i:Nat):IsIdx (done++[(x,i)]) (insK x i E):=by
 refine ⟨insK_asc h.asc,fun y=>?_,fun p hp=>?_⟩
 ·rw [insK_mem,h.mem];simp only [List.mem_append,List.mem_singleton,Prod.mk.injEq];constructor
  ·rintro (rfl | ⟨k,hk⟩)
   ·exact ⟨i,.inr ⟨rfl,rfl⟩⟩
   ·exact ⟨k,.inl hk⟩
  ·rintro ⟨k,hk | ⟨rfl,_⟩⟩
   ·exact .inr ⟨k,hk⟩
   ·exact .inl rfl
 ·rcases insK_nums (i:=i) (f:=numsOf done) h.asc h.nums (fun hx=>numsOf_none (fun k hk=>hx ((h.mem x).2 ⟨k,hk⟩))) p hp with ⟨h1,h2⟩ | ⟨h1,h2⟩
  ·rw [h1,numsOf_snoc_same];exact h2
  ·rw [numsOf_snoc_other (fun e=>h1 e.symm)];exact h2
theorem asc_one:∀ {a b:List Lab},a.Pairwise (fun x y=>cmpL x y = -1)→b.Pairwise (fun x y=>cmpL x y = -1)→(∀ x,x∈a↔x∈b)→a=b
 | [],[],_,_,_=>rfl
 | [],y::b,_,_,h=>by have:=(h y).2 List.mem_cons_self;cases this
 | x::a,[],_,_,h=>by have:=(h x).1 List.mem_cons_self;cases this
 | x::a,y::b,ha,hb,h=>by
  rw [List.pairwise_cons] at ha hb;have irr:∀ z:Lab,¬ cmpL z z = -1:=fun z e=>by rw [(cmp3_L.zero _ _).2 rfl] at e;omega
  have hxy:x=y:=by
   rcases List.mem_cons.1 ((h x).1 List.mem_cons_self) with e | e
   ·exact e
   ·rcases List.mem_cons.1 ((h y).2 List.mem_cons_self) with e2 | e2
    ·exact e2.symm
    ·exact (irr _ (cmp3_L.trans _ _ _ (ha.1 _ e2) (hb.1 _ e))).elim
  subst hxy;rw [asc_one ha.2 hb.2 (fun z=>?_)];have hz:=h z;rw [List.mem_cons,List.mem_cons] at hz;constructor
  ·intro hza;rcases hz.1 (.inr hza) with rfl | h2
   ·exact (irr _ (ha.1 _ hza)).elim
   ·exact h2
  ·intro hzb;rcases hz.2 (.inr hzb) with rfl | h2
   ·exact (irr _ (hb.1 _ hzb)).elim
   ·exact h2
theorem IsIdx.one {done:List (Lab × Nat)} {E F:List EntV} (h:IsIdx done E) (k:IsIdx done F):E=F:=by
 have hk:E.map (·.1)=F.map (·.1):=asc_one h.asc k.asc (fun x=>by rw [h.mem,k.mem]);have hl:E.length=F.length:=by have:=congrArg List.length hk;simpa using this
 apply List.ext_getElem hl
 intro j h1 h2;have e:E[j].1=F[j].1:=by
  have:(E.map (·.1))[j]'(by simpa using h1)=(F.map (·.1))[j]'(by simpa using h2):=by simp only [hk]
  simpa using this
 exact Prod.ext e (by rw [h.nums _ (List.getElem_mem h1),k.nums _ (List.getElem_mem h2),e])
end
section
open Go Go.RowKit Go.Sort
abbrev BVal:=List Lab × List Smpl
def chunkB (zs:List Smpl):List Nat:=pk (cbits (tsOf zs) (vsOf zs))
def cutL (zs:List Smpl) (p:Nat × Nat):List Smpl:=(zs.drop p.1).take p.2
def partsL (zs:List Smpl):List (List Smpl):=(parts zs.length 0).map (cutL zs)
def chunksL (zs:List Smpl):List (List Nat):=(partsL zs).map chunkB
def lensL (zs:List Smpl):List Nat:=(chunksL zs).map List.length
def idxOf (done:List (Lab × Nat)):List EntV:=done.foldl (fun E p=>insK p.1 p.2 E) []
def setsV (b:List BVal):List (List Lab):=b.map (·.1)
def posV (b:List BVal):List EntV:=idxOf (doneOf (setsV b))
theorem parts_at (n:Nat):∀ (f i:Nat),n - i≤f→∀ k (h:k < (parts n i).length),(parts n i)[k]=(i+120*k,min 120 (n - (i+120*k))):=by
 intro f;induction f with
 | zero=>intro i h k hk;simp [parts_ge (show n≤i by omega)] at hk
 | succ f ih =>
  intro i h k hk;by_cases hi:i < n
  ·have e:=parts_lt hi;cases k with
   | zero=>simp [e]
   | succ k =>
    have hk':k < (parts n (i+120)).length:=by simp [e] at hk;exact hk
    have:=ih (i+120) (by omega) k hk';simp only [e,List.getElem_cons_succ,this,show i+120+120*k=i+120*(k+1) by omega]
  ·simp [parts_ge (show n≤i by omega)] at hk
theorem partsL_len (zs:List Smpl):(partsL zs).length=(zs.length+119) / 120:=by
 unfold partsL;rw [List.length_map,parts_length zs.length zs.length 0 (by omega)];rfl
theorem partsL_get (zs:List Smpl) (k:Nat) (h:k < (partsL zs).length):(partsL zs)[k]=(zs.drop (120*k)).take (min 120 (zs.length - 120*k)):=by
 have hk:k < (parts zs.length 0).length:=by unfold partsL at h;simpa using h
 have:=parts_at zs.length zs.length 0 (by omega) k hk;have e:(partsL zs)[k]=cutL zs ((parts zs.length 0)[k]):=by simp [partsL]
 rw [e,this,cutL];simp only [Nat.zero_add]
theorem idxOf_snoc (d:List (Lab × Nat)) (p:Lab × Nat):idxOf (d++[p])=insK p.1 p.2 (idxOf d):=by unfold idxOf;rw [List.foldl_append];rfl
theorem idxOf_is:∀ (n:Nat) (done:List (Lab × Nat)),done.length=n→IsIdx done (idxOf done)
 | 0,done,h=>by
  obtain rfl:=List.eq_nil_of_length_eq_zero h;exact IsIdx.nil
 | n+1,done,h=>by
  have hne:done≠[]:=by intro e;subst e;simp at h
  have e:=List.dropLast_concat_getLast hne;rw [← e,idxOf_snoc];exact (idxOf_is n done.dropLast (by simp [h])).ins _ _
theorem idxOf_isIdx (done:List (Lab × Nat)):IsIdx done (idxOf done):=idxOf_is _ done rfl
def valB (s:Ser):BVal:=(s.labs,s.smps)
theorem strs_mem {l:List Lab} {s:ByteArray}:s∈strsOf l↔∃ x∈l,s=x.1∨s=x.2:=by
 unfold strsOf;rw [List.mem_flatMap];constructor
 ·rintro ⟨x,hx,h⟩;exact ⟨x,hx,by simpa using h⟩
 ·rintro ⟨x,hx,h⟩;exact ⟨x,hx,by simpa using h⟩
theorem doneOf_len (sets:List (List Lab)):(doneOf sets).length=(sets.map List.length).sum:=by
 unfold doneOf tagAt;rw [List.length_flatten];congr 1
 apply List.ext_getElem
 ·simp
 ·intro i h1 h2;simp
end
section
open Go Go.RowKit Go.Sort Go.Shelf Go.Lib
theorem strsOf_append (a b:List Lab):strsOf (a++b)=strsOf a++strsOf b:=by unfold strsOf;rw [List.flatMap_append]
end
section
open Go Go.RowKit Go.Lib
def toc (a0 a1 a2 a3:Nat):List Nat:=vint a0++vint a1++vint a2++vint a3
def hd0:List Nat:=[84,83,66,75,1]
def file1 (l0:List Nat):List Nat:=hd0++frame 1 l0
def file2 (l0 l1:List Nat):List Nat:=file1 l0++frame 2 l1
def file3 (l0 l1 l2:List Nat):List Nat:=file2 l0 l1++frame 3 l2
def file4 (l0 l1 l2 l3:List Nat):List Nat:=file3 l0 l1 l2++frame 4 l3
def file5 (l0 l1 l2 l3:List Nat):List Nat:=file4 l0 l1 l2 l3++frame 5 (toc hd0.length (file1 l0).length (file2 l0 l1).length (file3 l0 l1 l2).length)
def fileOf (l0 l1 l2 l3:List Nat):List Nat:=addCrc (file5 l0 l1 l2 l3)++[75,66,83,84]
theorem toc_lt (a0 a1 a2 a3:Nat):∀ x∈toc a0 a1 a2 a3,x < 256:=by
 intro x hx;simp only [toc,List.mem_append] at hx;rcases hx with ((hx | hx) | hx) | hx<;>exact vint_lt _ x hx
set_option maxRecDepth 100000 in
theorem contents_any (w:World) (a0 a1 a2 a3 a4:Nat) (h0:a0≤1000000000000) (h1:a1≤1000000000000) (h2:a2≤1000000000000) (h3:a3≤1000000000000) :
  Calls Tryz.prog 148 #[.agg #[.int .i64 (a0:Int),.int .i64 (a1:Int),.int .i64 (a2:Int),.int .i64 (a3:Int),.int .i64 (a4:Int)]] w (NewB w (toc a0 a1 a2 a3)):=by
 have hb:(w.alloc (.cells #[.int .i64 (a0:Int),.int .i64 (a1:Int),.int .i64 (a2:Int),.int .i64 (a3:Int),.int .i64 (a4:Int)] 80)).heap[w.heap.size]? = some (.cells #[.int .i64 (a0:Int),.int .i64 (a1:Int),.int .i64 (a2:Int),.int .i64 (a3:Int),.int .i64 (a4:Int)] 80):=heap_alloc_new _ _;have hN:Nw w (w.alloc (.cells #[.int .i64 (a0:Int),.int .i64 (a1:Int),.int .i64 (a2:Int),.int .i64 (a3:Int),.int .i64 (a4:Int)] 80)):=(Nw.refl w).alloc' _;have hlt:w.heap.size < (w.alloc (.cells #[.int .i64 (a0:Int),.int .i64 (a1:Int),.int .i64 (a2:Int),.int .i64 (a3:Int),.int .i64 (a4:Int)] 80)).heap.size:=by simp
 have HL0:=hid (vint_len a0 (by omega));have HL1:=hid (vint_len a1 (by omega));have HL2:=hid (vint_len a2 (by omega));have HL3:=hid (vint_len a3 (by omega));have HT:=hid (show toc a0 a1 a2 a3=vint a0++vint a1++vint a2++vint a3 from rfl);have u0:IntKind.u64.wrap (a0:Int)=(a0:Int):=IntWalk.u64_in _ (by omega);have u1:IntKind.u64.wrap (a1:Int)=(a1:Int):=IntWalk.u64_in _ (by omega);have u2:IntKind.u64.wrap (a2:Int)=(a2:Int):=IntWalk.u64_in _ (by omega);have u3:IntKind.u64.wrap (a3:Int)=(a3:Int):=IntWalk.u64_in _ (by omega);have HV0:=hid fun W b A n c xs hO hn=>VAppend_any W b A n c xs a0 hO (by omega) hn
 have HV1:=hid fun W b A n c xs hO hn=>VAppend_any W b A n c xs a1 hO (by omega) hn
 have HV2:=hid fun W b A n c xs hO hn=>VAppend_any W b A n c xs a2 hO (by omega) hn
 have HV3:=hid fun W b A n c xs hO hn=>VAppend_any W b A n c xs a3 hO (by omega) hn
 obtain ⟨V0,hV0⟩:∃ V,vint a0=V:=⟨_,rfl⟩;obtain ⟨V1,hV1⟩:∃ V,vint a1=V:=⟨_,rfl⟩;obtain ⟨V2,hV2⟩:∃ V,vint a2=V:=⟨_,rfl⟩;obtain ⟨V3,hV3⟩:∃ V,vint a3=V:=⟨_,rfl⟩;rw [hV0] at HV0 HL0 HT;rw [hV1] at HV1 HL1 HT;rw [hV2] at HV2 HL2 HT;rw [hV3] at HV3 HL3 HT;clear hV0 hV1 hV2 hV3;go_enter Tryz.func148,Tryz.ntmps148
 go_wp2;refine wp_loop_rounds 5 ?_;generalize w.alloc (.cells #[.int .i64 (a0:Int),.int .i64 (a1:Int),.int .i64 (a2:Int),.int .i64 (a3:Int),.int .i64 (a4:Int)] 80)=W0 at *;have HO0:=hid (show Ow W0 0 5 1 none 0 0 (cN .u8 []) from Ow.nil W0 0 5 1);have HB0:=hid hb;have HN0:=hid hN;clear hb hN;have HLT0:=hid (show ∀ k∈[w.heap.size],k < W0.heap.size from fun k hk=>by obtain rfl:=List.mem_singleton.1 hk;exact hlt);clear hlt;rw [rounds_succ];have hl0:=HL0.out;have hc0:W0.cell? ⟨w.heap.size,0,none⟩=some (.int .i64 (a0:Int)):=by simp [World.cell?,HB0.out]
 go_wp2_with fail;refine (HV0.out W0 _ _ _ _ _ HO0.out (by omega)).mono ?_;rintro e W1 hA0;obtain ⟨b1,A1,c1,rfl,hO1,hp1,hN1,hK1,hlt1⟩:=hA0.own [w.heap.size] HN0.out (.inr rfl) HLT0.out;simp only [Nat.zero_add,List.nil_append] at hO1;have HB1:=hid ((hK1 _ List.mem_cons_self).trans HB0.out);have HLT1:=hid hlt1;have HO1:=hid hO1;have HN1:=hid hN1;have HP1:=hid hp1;clear hO1 hN1 hp1 hK1 hlt1 hc0 hA0 HB0 HO0;go_wp2_with fail;rw [rounds_succ];have hl1:=HL1.out;have hc1:W1.cell? ⟨w.heap.size,1,none⟩=some (.int .i64 (a1:Int)):=by simp [World.cell?,HB1.out]
 go_wp2_with fail;refine (HV1.out W1 _ _ _ _ _ HO1.out (by omega)).mono ?_;rintro e W2 hA1;obtain ⟨b2,A2,c2,rfl,hO2,hp2,hN2,hK2,hlt2⟩:=hA1.own [w.heap.size] HN1.out HP1.out HLT1.out;have HB2:=hid ((hK2 _ List.mem_cons_self).trans HB1.out);have HLT2:=hid hlt2;have HO2:=hid hO2;have HN2:=hid hN2;have HP2:=hid hp2;clear hO2 hN2 hp2 hK2 hlt2 hc1 hA1 HB1 HO1;go_wp2_with fail;rw [rounds_succ];have hl2:=HL2.out;have hc2:W2.cell? ⟨w.heap.size,2,none⟩=some (.int .i64 (a2:Int)):=by simp [World.cell?,HB2.out]
 go_wp2_with fail;refine (HV2.out W2 _ _ _ _ _ HO2.out (by omega)).mono ?_;rintro e W3 hA2;obtain ⟨b3,A3,c3,rfl,hO3,hp3,hN3,hK3,hlt3⟩:=hA2.own [w.heap.size] HN2.out HP2.out HLT2.out;have HB3:=hid ((hK3 _ List.mem_cons_self).trans HB2.out);have HLT3:=hid hlt3;have HO3:=hid hO3;have HN3:=hid hN3;have HP3:=hid hp3;clear hO3 hN3 hp3 hK3 hlt3 hc2 hA2 HB2 HO2;go_wp2_with fail;rw [rounds_succ];have hl3:=HL3.out;have hc3:W3.cell? ⟨w.heap.size,3,none⟩=some (.int .i64 (a3:Int)):=by simp [World.cell?,HB3.out]
 go_wp2_with fail;refine (HV3.out W3 _ _ _ _ _ HO3.out (by omega)).mono ?_;rintro e W4 hA3;obtain ⟨b4,A4,c4,rfl,hO4,hp4,hN4,hK4,hlt4⟩:=hA3.own [w.heap.size] HN3.out HP3.out HLT3.out;have HB4:=hid ((hK4 _ List.mem_cons_self).trans HB3.out);have HLT4:=hid hlt4;have HO4:=hid hO4;have HN4:=hid hN4;have HP4:=hid hp4;clear hO4 hN4 hp4 hK4 hlt4 hc3 hA3 HB3 HO3;go_wp2_with fail;rw [rounds_succ];go_wp2_with fail;go_ret;have hl:(toc a0 a1 a2 a3).length=V0.length+V1.length+V2.length+V3.length:=by rw [HT.out];simp only [List.length_append]
 have hO:=HO4.out;rcases HP4.out with h | h
 ·exact ⟨b4,A4,c4,by rw [hl];rfl,by rw [hl,HT.out];exact hO,h.1,HN4.out⟩
 ·refine ⟨w.heap.size,A4,c4,by rw [hl];rfl,?_,Nat.le_refl _,HN4.out⟩;rw [hl,HT.out];rcases hO with ⟨p,q⟩ | ⟨p,_⟩
  ·exact .inl ⟨p,q⟩
  ·rw [h] at p;cases p
theorem file_lens (l0 l1 l2:List Nat):(file1 l0).length=5+(frame 1 l0).length∧(file2 l0 l1).length=5+(frame 1 l0).length+(frame 2 l1).length∧(file3 l0 l1 l2).length=5+(frame 1 l0).length+(frame 2 l1).length+(frame 3 l2).length:=by
 simp only [file3,file2,file1,List.length_append];exact ⟨rfl,rfl,rfl⟩
theorem fileOf_eq (l0 l1 l2 l3:List Nat):fileOf l0 l1 l2 l3=addCrc (hd0++frame 1 l0++frame 2 l1++frame 3 l2++frame 4 l3++frame 5 (toc 5 (5+(frame 1 l0).length) (5+(frame 1 l0).length+(frame 2 l1).length) (5+(frame 1 l0).length+(frame 2 l1).length+(frame 3 l2).length)))++[75,66,83,84]:=by
 obtain ⟨h1,h2,h3⟩:=file_lens l0 l1 l2;unfold fileOf file5;rw [h1,h2,h3];rfl
theorem set_at {W:World} {g k:Nat} {cs:Array Value} {t:TypeId} (v:Value) (h:W.heap[g]? = some (.cells cs t (0,0))):(W.setCell ⟨g,k,none⟩ v).heap[g]? = some (.cells (cs.setIfInBounds k v) t (0,0)):=by
 simp [World.setCell,Array.getElem?_modify,h]
theorem at_freeL {W:World} {g k:Nat} {cs:Array Value} {t:TypeId} (h:W.heap[g]? = some (.cells cs t (0,0))):W.frozen? ⟨g,k,none⟩=false:=by simp [World.frozen?,h]
end
section
open Go Go.RowKit Go.Lib Go.Sort Go.Shelf
attribute [local go_sem] Oper.semAt_some
def Kty (e:TypeId) (W W':World):Prop:=∀ (k:Nat) (o:Obj),W.heap[k]? = some o→(∀ cs fr,o≠.cells cs e fr)→W'.heap[k]? = some o
theorem Nw.kty {W W':World} (h:Nw W W') (e:TypeId):Kty e W W':=fun k _ ho _=>(h.block k (lt_of_block ho)).trans ho
theorem Kp.kty {g:Nat} {e:TypeId} {W W':World} (h:Kp g g W W') {cs:Array Value} {fr:Nat × Nat} (hg:W.heap[g]? = some (.cells cs e fr)):Kty e W W':=fun k o ho hne=>by
 refine (h.block k (lt_of_block ho) ?_ ?_).trans ho
 ·rintro rfl;rw [hg] at ho;cases ho;exact hne _ _ rfl
 ·rintro rfl;rw [hg] at ho;cases ho;exact hne _ _ rfl
theorem Kty.get {e e':TypeId} {W W':World} (h:Kty e W W') {k:Nat} {cs:Array Value} {fr:Nat × Nat} (hk:W.heap[k]? = some (.cells cs e' fr)) (hne:e'≠e):W'.heap[k]? = some (.cells cs e' fr) :=
 h k _ hk (fun _ _ q=>by cases q;exact hne rfl)
theorem ty_ne {W:World} {a b:Nat} {cs cs':Array Value} {e e':TypeId} {fr fr':Nat × Nat} (ha:W.heap[a]? = some (.cells cs e fr)) (hb:W.heap[b]? = some (.cells cs' e' fr')) (hne:e≠e'):a≠b:=by
 rintro rfl;rw [ha] at hb;cases hb;exact hne rfl
theorem Ow.keepT {w w':World} {b n c:Nat} {e:TypeId} {size:Nat} {A:Option Addr} {xs:List Value} (h:Ow w b e size A n c xs) (hk:∀ (k:Nat) (cs:Array Value) (fr:Nat × Nat),w.heap[k]? = some (.cells cs e fr)→k=b→w'.heap[k]? = some (.cells cs e fr)) (hs:w.heap.size≤w'.heap.size):Ow w' b e size A n c xs:=by
 rcases h with ⟨rfl,rfl,rfl,rfl⟩ | ⟨rfl,hlt,h⟩
 ·exact Ow.nil _ _ _ _
 ·refine .inr ⟨rfl,Nat.lt_of_lt_of_le hlt hs,h.1,?_⟩;rcases h.2 with ⟨hv,_⟩ | ⟨g0,cap,cur,hv,hbg,hh,r⟩
  ·cases hv
  ·have hg:b=g0:=by injection hv with x;injection x with x;injection x
   subst hg;exact .inr ⟨b,cap,cur,hv,hbg,hk _ _ _ hh rfl,r⟩
theorem Ow.kty {w w':World} {b n c:Nat} {e e':TypeId} {size:Nat} {A:Option Addr} {xs:List Value} (h:Ow w b e size A n c xs) (hk:Kty e' w w') (hne:e≠e') (hs:w.heap.size≤w'.heap.size):Ow w' b e size A n c xs:=h.keepT (fun _ _ _ hh _=>hk.get hh hne) hs
section
variable {w W W':World} {D LB LR:Nat} {l:List Ser} {dat:List Nat} {ls:Nat→List Nat}
end
theorem app_kty {W W1:World} {bd n cd:Nat} {e:TypeId} {size:Nat} {Ad:Option Addr} {xs:List Value} (hO:Ow W bd e size Ad n cd xs) (r3:Kp bd bd W W1) (r4:Ad=none→Nw W W1):Kty e W W1:=by
 cases Ad with
 | none=>exact (r4 rfl).kty _
 | some a =>
  obtain ⟨cs,fr,hbk⟩:=hO.blk;exact r3.kty hbk
theorem Kty.toL {T:List TypeId} {e:TypeId} {W W':World} (h:Kty e W W') (hs:W.heap.size≤W'.heap.size) (he:e∈T):KtyL T W W':=⟨fun k o ho hne=>h k o ho (fun cs fr=>hne cs e fr he),hs⟩
end
section
open Go Go.RowKit Go.Lib Go.Sort Go.Shelf
attribute [local go_sem] Oper.semAt_some
theorem cmp_nodup {ks:List Lab} (h:ks.Pairwise fun x y=>cmpL x y = -1):ks.Nodup:=h.imp fun {a b} k e=>by
 subst e;rw [(cmp3_L.zero _ _).2 rfl] at k;omega
theorem IsIdx.len {done:List (Lab × Nat)} {E:List EntV} (h:IsIdx done E):E.length≤done.length:=by
 have:=nodup_sub_len (m:=done.map (·.1)) (cmp_nodup h.asc) (fun x hx=>by
  obtain ⟨i,hi⟩:=(h.mem x).1 hx;exact List.mem_map.2 ⟨_,hi,rfl⟩)
 simpa using this
end
section
open Go Go.RowKit Go.Lib Go.Sort Go.Shelf
attribute [local go_sem] Oper.semAt_some
def normQ (QQ:Act→World→Prop):Exit→Act→World→Prop
 | .normal,a,w=>QQ a w
 | _,_,_=>False
theorem wp_norm {P:Program} {c:Code} {Q:Exit→Act→World→Prop} {a:Act} {w:World} (h:∀ QQ:Act→World→Prop,Hid (∀ a w,QQ a w=Q .normal a w)→c.wp P (normQ QQ) a w):c.wp P Q a w:=by
 refine Code.wp_mono ?_ (h (Q .normal) (hid fun _ _=>rfl));intro e a w hq;cases e with
 | normal=>exact hq
 | _=>exact hq.elim
theorem results_ct {P:Program} {fn:Func} {p q:Tmp} {t1:TypeId} {u:Value} (h:fn.results=#[.cell p t1,.tmp q]) (tmps:Array Value) (w:World) (a:Addr) (hp:tmps.getD p undef=.pointer (some a))
  (h1:(loadVar t1 a).run P w=.ok u w):(results fn tmps).run P w=.ok (.tuple #[u,tmps.getD q undef]) w:=by
 simp only [Array.getD_eq_getD_getElem?] at hp;simp only [results,h];simp [Result.andThen,asAddr,hp,h1]
theorem run_load4 {W:World} {g:Nat} {a b c d:Value} {t:TypeId} (h:W.heap[g]? = some (.cells #[a,b,c,d] t (0,0))):(loadVar 52 ⟨g,0,none⟩).run Tryz.prog W=.ok (.agg #[a,b,c,d]) W:=by
 have c0:W.cell? ⟨g,0,none⟩=some a:=cell_at (k:=0) h;have c1:W.cell? ⟨g,1,none⟩=some b:=cell_at (k:=1) h;have c2:W.cell? ⟨g,2,none⟩=some c:=cell_at (k:=2) h;have c3:W.cell? ⟨g,3,none⟩=some d:=cell_at (k:=3) h;simp [loadVar,loadCells,loadCellsFrom,go_sem,c0,c1,c2,c3]
theorem set4_at {W:World} {g:Nat} {a b c d:Value} {t:TypeId} (h:W.heap[g]? = some (.cells #[a,b,c,d] t (0,0))) (a' b' c' d':Value) :
  ((((W.setCell ⟨g,0,none⟩ a').setCell ⟨g,1,none⟩ b').setCell ⟨g,2,none⟩ c').setCell ⟨g,3,none⟩ d').heap[g]? = some (.cells #[a',b',c',d'] t (0,0)):=by
 have:=set_at (k:=3) d' (set_at (k:=2) c' (set_at (k:=1) b' (set_at (k:=0) a' h)));simpa using this
theorem set4_kp (W:World) (g:Nat) (a' b' c' d':Value):Kp g g W ((((W.setCell ⟨g,0,none⟩ a').setCell ⟨g,1,none⟩ b').setCell ⟨g,2,none⟩ c').setCell ⟨g,3,none⟩ d') :=
 ((((Kp.refl g g W).setCell' (p:=⟨g,0,none⟩) (.inl rfl) _).setCell' (p:=⟨g,1,none⟩) (.inl rfl) _).setCell' (p:=⟨g,2,none⟩) (.inl rfl) _).setCell' (p:=⟨g,3,none⟩) (.inl rfl) _
theorem E_rec:ElemT Tryz.prog 110 118 (.agg #[.slice none 0 0,.slice none 0 0]) 2 48:=ElemT.mk' Tryz.underlying110 (by kernel_rfl) rfl (by omega)
theorem E_set:ElemT Tryz.prog 116 84 (.slice none 0 0) 1 24:=ElemT.mk' Tryz.underlying116 (by kernel_rfl) rfl (by omega)
abbrev nilS:Value:=.slice none 0 0
section
variable {W0 W W':World} {p:Nat} {v0 v1 v2 v3 u:Value}
end
abbrev setOf (s:Ser):SetS:=⟨s.labs,s.bl,s.al,s.cl⟩
end
section
open Go Go.RowKit Go.Lib Go.Sort Go.Shelf
attribute [local go_sem] Oper.semAt_some
theorem results_c1 {P:Program} {fn:Func} {p:Tmp} {t1:TypeId} {u:Value} (h:fn.results=#[.cell p t1]) (tmps:Array Value) (w:World) (a:Addr) (hp:tmps.getD p undef=.pointer (some a))
  (h1:(loadVar t1 a).run P w=.ok u w):(results fn tmps).run P w=.ok u w:=by
 simp only [Array.getD_eq_getD_getElem?] at hp;simp only [results,h];simp [asAddr,hp,h1]
theorem Ow.ktl {T:List TypeId} {A C:World} {b n c:Nat} {e:TypeId} {size:Nat} {P:Option Addr} {xs:List Value} (h:Ow A b e size P n c xs) (hk:KtyL T A C) (he:e ∉ T):Ow C b e size P n c xs :=
 h.keepT (fun _ _ _ hh _=>hk.get hh he) hk.2
section
variable {w W W':World} {v0 v1 v2 v3:Value}
end
end
section
open Go Go.RowKit Go.Lib Go.Sort Go.Shelf
structure Up (w0 w w':World):Prop where
 os:w'.os=w.os
 tape:w'.tape=w.tape
 output:w'.output=w.output
 size:w.heap.size≤w'.heap.size
 block:∀ k,k < w0.heap.size→k < w.heap.size→w'.heap[k]? = w.heap[k]?
theorem Up.trans {w0 a b c:World} (h:Up w0 a b) (k:Up w0 b c):Up w0 a c :=
 ⟨k.os.trans h.os,k.tape.trans h.tape,k.output.trans h.output,Nat.le_trans h.size k.size,fun j h1 h2=>(k.block j h1 (Nat.lt_of_lt_of_le h2 h.size)).trans (h.block j h1 h2)⟩
theorem Up.of_nw {w0 w w':World} (h:Nw w w'):Up w0 w w':=⟨h.os,h.tape,h.output,h.size,fun k _ hk=>h.block k hk⟩
theorem Up.of_kp {w0 w w':World} {b:Nat} (h:Kp b b w w') (hb:w0.heap.size≤b):Up w0 w w':=⟨h.os,h.tape,h.output,h.size,fun k h1 h2=>h.block k h2 (by omega) (by omega)⟩
theorem Up.mono {w0 w1 w w':World} (h:Up w1 w w') (hs:w0.heap.size≤w1.heap.size):Up w0 w w':=⟨h.os,h.tape,h.output,h.size,fun k h1 h2=>h.block k (by omega) h2⟩
theorem Nw.up {w0 w w':World} (h:Nw w0 w) (k:Up w0 w w'):Nw w0 w' :=
 ⟨k.os.trans h.os,k.tape.trans h.tape,k.output.trans h.output,Nat.le_trans h.size k.size,fun j hj=>(k.block j hj (Nat.lt_of_lt_of_le hj h.size)).trans (h.block j hj)⟩
theorem Kp.up {g g':Nat} {w0 w w':World} (h:Kp g g' w0 w) (k:Up w0 w w'):Kp g g' w0 w' :=
 ⟨k.os.trans h.os,k.tape.trans h.tape,k.output.trans h.output,Nat.le_trans h.size k.size,fun j hj h1 h2=>(k.block j hj (Nat.lt_of_lt_of_le hj h.size)).trans (h.block j hj h1 h2)⟩
theorem KtyL.mono {T T':List TypeId} {A B:World} (h:KtyL T A B) (hs:∀ e∈T,e∈T'):KtyL T' A B:=⟨fun k o ho hne=>h.1 k o ho fun cs e fr he=>hne cs e fr (hs e he),h.2⟩
theorem Kp.ktl {g:Nat} {e:TypeId} {W W':World} (h:Kp g g W W') {cs:Array Value} {fr:Nat × Nat} (hg:W.heap[g]? = some (.cells cs e fr)):KtyL [e] W W':=(h.kty hg).toL h.size (by simp)
def OwN (w0 W:World) (b:Nat) (e:TypeId) (size:Nat) (A:Option Addr) (n c:Nat) (xs:List Value):Prop:=Ow W b e size A n c xs∧(A=none∨w0.heap.size≤b)
section
variable {P:Program} {w0 w w' W W':World} {b g n c:Nat} {e:TypeId} {size:Nat} {A:Option Addr} {xs:List Value}
theorem OwN.nil (w0 W:World) (b:Nat) (e:TypeId) (size:Nat):OwN w0 W b e size none 0 0 []:=⟨Ow.nil _ _ _ _,.inl rfl⟩
theorem OwN.keep {T:List TypeId} (h:OwN w0 W b e size A n c xs) (hk:KtyL T W W') (he:e ∉ T):OwN w0 W' b e size A n c xs:=⟨h.1.ktl hk he,h.2⟩
theorem OwN.nw (h:OwN w0 W b e size A n c xs) (hN:Nw W W'):OwN w0 W' b e size A n c xs:=⟨h.1.nw hN,h.2⟩
theorem OwN.kp (h:OwN w0 W b e size A n c xs) (hk:Kp g g W W') {cs:Array Value} {e':TypeId} {fr:Nat × Nat} (hg:W.heap[g]? = some (.cells cs e' fr)) (hne:e≠e'):OwN w0 W' b e size A n c xs:=⟨h.1.kty (hk.kty hg) hne hk.size,h.2⟩
theorem OwN.mono {w1:World} (h:OwN w1 W b e size A n c xs) (hs:w0.heap.size≤w1.heap.size):OwN w0 W b e size A n c xs:=⟨h.1,h.2.elim .inl fun h=>.inr (Nat.le_trans hs h)⟩
theorem OwN.capz (h:OwN w0 W b e size A n c xs):A=none→c=0:=fun hA=>by
 rcases h.1 with ⟨_,_,h,_⟩ | ⟨h,_⟩
 ·exact h
 ·rw [hA] at h;cases h
theorem OwN.app_ {b5 n5 c5:Nat} {A5:Option Addr} {ys:List Value} (h:OwN w0 w b e size A n c xs) (hs:w0.heap.size≤w.heap.size)
  (r1:Ow w' b5 e size A5 n5 c5 ys) (r2:b5=b∨w.heap.size≤b5) (r3:Kp b b w w') (r4:A=none→Nw w w'∧(w.heap.size≤b5∨A5=none)) :
  OwN w0 w' b5 e size A5 n5 c5 ys∧Up w0 w w'∧KtyL [e] w w':=by
 have hk:=(app_kty h.1 r3 (fun q=>(r4 q).1)).toL (T:=[e]) r3.size (by simp);by_cases hA:A=none
 ·obtain ⟨q1,q2⟩:=r4 hA;exact ⟨⟨r1,q2.elim (fun q=>.inr (by omega)) .inl⟩,Up.of_nw q1,hk⟩
 ·have hb:=h.2.resolve_left hA;refine ⟨⟨r1,.inr ?_⟩,Up.of_kp r3 hb,hk⟩;rcases r2 with rfl | q<;>omega
theorem wpList_appN {ops:Array Oper} {rest:List Oper} {o:Oper} {a:Act} {Q:Exit→Act→World→Prop} {t:TypeId} {z:Value} {bytes:Nat} (E:ElemT P t e z size bytes) (hgd:o.guard=none) (s x:Operand)
  (ho:o.op=.call { callee:=.builtin .append,args:=#[s,x],argTypes:=#[t,t] })
  (hs:a.eval s=.slice A n c) (hown:OwN w0 w b e size A n c xs) (h0:w0.heap.size≤w.heap.size)
  {b2:Nat} {A2:Option Addr} {m c2:Nat} {news:List Value} (hx:a.eval x=.slice A2 m c2) (hr:Rd w b2 A2 news) (hl:news.length=m*size) (hnil:A2=none→c2=0) (h1:∀ u∈news,u.oneCell'=true)
  (h63:n+m≤maxLen) (hbytes:(n+m)*bytes≤140737488355328)
  (h:∀ b' A' c' w',OwN w0 w' b' e size A' (n+m) c' (xs++news)→Up w0 w w'→KtyL [e] w w'→wpList P ops Q rest (a.put o.dst (.slice A' (n+m) c')) w') :
  wpList P ops Q (o::rest) a w:=by
 refine wpList_app E hgd s x ho hs hown.1 hx hr hl hnil h1 h63 hbytes ?_;intro b' A' c' w' r1 r2 r3 r4;obtain ⟨q1,q2,q3⟩:=hown.app_ h0 r1 r2 r3 r4;exact h b' A' c' w' q1 q2 q3
theorem wpList_appL {ops:Array Oper} {rest:List Oper} {o:Oper} {a:Act} {Q:Exit→Act→World→Prop} {t:TypeId} {z:Value} {bytes:Nat} (E:ElemT P t e z size bytes) (hgd:o.guard=none) (s x:Operand)
  (ho:o.op=.call { callee:=.builtin .append,args:=#[s,x],argTypes:=#[t,t] })
  (hs:a.eval s=.slice A n c) (hown:OwN w0 w b e size A n c xs) (h0:w0.heap.size≤w.heap.size)
  {us:Array Value} (hx:a.eval x=.slice (some ⟨w.heap.size,0,none⟩) 1 1) (hl:us.size=size) (h1:∀ u∈us.toList,u.oneCell'=true)
  (hbytes:(n+1)*bytes≤140737488355328) (hby0:0 < bytes)
  (h:∀ b' A' c' w',OwN w0 w' b' e size A' (n+1) c' (xs++us.toList)→Up w0 w w'→KtyL [e] w w'→wpList P ops Q rest (a.put o.dst (.slice A' (n+1) c')) w') :
  wpList P ops Q (o::rest) a (w.alloc (.cells us e)):=by
 have hn:n+1≤140737488355328:=Nat.le_trans (Nat.le_mul_of_pos_right _ hby0) hbytes;have hnw:Nw w (w.alloc (.cells us e)):=Nw.alloc' (Nw.refl w) _;refine wpList_appN E hgd s x ho hs (hown.nw hnw) (Nat.le_trans h0 hnw.size) (b2:=w.heap.size) (news:=us.toList) hx (Ow.lit w e size 1 us (by rw [Nat.one_mul];exact hl) (by omega)).rd (by rw [Nat.one_mul,Array.length_toList];exact hl) (by simp) h1
  (by simp only [maxLen];omega) hbytes ?_
 intro b' A' c' w' q1 q2 q3;exact h b' A' c' w' q1 ((Up.of_nw hnw).trans q2) ((KtyL.nw hnw).trans q3)
end
end
section
open Go Go.RowKit Go.Lib
def getV (n:Nat) (x:Except Nat (Nat × List Nat)):Value :=
 match x with
 | .ok (v,r)=>.tuple #[.int .u64 (v:Int),.int .i64 ((n - r.length:Nat):Int),.int .i64 0]
 | .error e=>.tuple #[.int .u64 0,.int .i64 0,.int .i64 (e:Int)]
theorem pow_le9 {i:Nat} (h:i≤9):128 ^ i≤9223372036854775808:=by
 have:=Nat.pow_le_pow_right (show 0 < 128 by omega) h;simpa using this
end
section
open Go Go.RowKit Go.Lib Go.Sort Go.Shelf
def uintP (most:Nat) (bs:List Nat):Except Nat (Nat × List Nat) :=
 match vget0 bs with
 | .ok (x,r)=>if most < x then .error 7 else .ok (x,r)
 | .error k=>.error k
theorem vgetA_len:∀ (l:List Nat) (i acc x:Nat) (r:List Nat),vgetA i acc l=.ok (x,r)→r.length < l.length
 | [],i,acc,x,r,h=>by unfold vgetA at h;cases h
 | y::l,i,acc,x,r,h=>by
  unfold vgetA at h;split at h
  ·cases h
  ·split at h
   ·cases h
   ·split at h
    ·injection h with h
     injection h with h1 h2
     rw [← h2,List.length_cons];omega
    ·have:=vgetA_len l _ _ x r h;rw [List.length_cons];omega
end
section
open Go Go.RowKit Go.Lib Go.Sort Go.Shelf
def countP (bs:List Nat):Except Nat (Nat × List Nat) :=
 match vget0 bs with
 | .ok (x,r)=>if r.length < x then .error 3 else .ok (x,r)
 | .error k=>.error k
theorem uintP_all {bs:List Nat} (hx:∀ x∈bs,x < 256):uintP 18446744073709551615 bs=vget0 bs:=by
 unfold uintP;cases h:vget0 bs with
 | error k=>rfl
 | ok p =>
  obtain ⟨x,r⟩:=p;have:=(varget_inv hx h).2;dsimp only;rw [if_neg (by omega)]
def symP (t:List ByteArray) (bs:List Nat):Except Nat (ByteArray × List Nat) :=
 match vget0 bs with
 | .ok (x,r)=>if t.length≤x then .error 14 else .ok (t.getD x .empty,r)
 | .error k=>.error k
end
section
def xb {α β:Type} (x:Except Nat α) (f:α→Except Nat β):Except Nat β :=
 match x with
 | .ok a=>f a
 | .error k=>.error k
theorem xb_ok {α β:Type} (a:α) (f:α→Except Nat β):xb (.ok a) f=f a:=rfl
theorem xb_er {α β:Type} (k:Nat) (f:α→Except Nat β):xb (.error k) f=.error k:=rfl
def crcOk (l:List Nat):Bool:=decide (4≤l.length∧l=addCrc (l.take (l.length - 4)))
def sectP (id:Nat) (bs:List Nat):Except Nat (List Nat × List Nat) :=
 match bs with
 | []=>.error 3
 | x::r0 =>
  if x≠id then .error 11 else
  xb (vget0 r0) fun p =>
   if p.2.length < 4∨p.2.length - 4 < p.1 then .error 3
   else if crcOk (bs.take (bs.length - p.2.length+p.1+4)) then .ok (p.2.take p.1,p.2.drop (p.1+4)) else .error 12
def litP (s bs:List Nat):Except Nat (List Nat) :=
 if bs.take s.length≠s.take bs.length then .error 10 else if bs.length < s.length then .error 3 else .ok (bs.drop s.length)
abbrev Secs:=List Nat × List Nat × List Nat × List Nat
def endP (bs:List Nat) (s:Secs) (r:List Nat):Except Nat Secs :=
 if r.length < 4 then .error 3
 else if crcOk (bs.take (bs.length - r.length+4))=false then .error 12
 else xb (litP [75,66,83,84] (r.drop 4)) fun r=>if r=[] then .ok s else .error 4
def parseP (bs:List Nat):Except Nat Secs :=
 xb (litP hd0 bs) fun r0=>xb (sectP 1 r0) fun p1=>xb (sectP 2 p1.2) fun p2=>xb (sectP 3 p2.2) fun p3=>xb (sectP 4 p3.2) fun p4=>xb (sectP 5 p4.2) fun p5 =>
  if p5.1=toc (bs.length - r0.length) (bs.length - p1.2.length) (bs.length - p2.2.length) (bs.length - p3.2.length) then endP bs (p1.1,p2.1,p3.1,p4.1) p5.2 else .error 13
structure PExt {α:Type} (p:List Nat→Except Nat (α × List Nat)):Prop where
 ok:∀ {bs v r},p bs=.ok (v,r)→∀ e,p (bs++e)=.ok (v,r++e)
 er:∀ {bs k},p bs=.error k→k≠3→∀ e,p (bs++e)=.error k
 nz:∀ {bs k},p bs=.error k→k≠0
 sfx:∀ {bs v r},p bs=.ok (v,r)→∃ u,bs=u++r
theorem vgetA_ext:∀ (l:List Nat) (i acc:Nat) (e:List Nat),(∀ x r,vgetA i acc l=.ok (x,r)→vgetA i acc (l++e)=.ok (x,r++e))∧(∀ k,vgetA i acc l=.error k→k≠3→vgetA i acc (l++e)=.error k)∧(∀ k,vgetA i acc l=.error k→k≠0)∧(∀ x r,vgetA i acc l=.ok (x,r)→∃ u,l=u++r)
 | [],i,acc,e=>by
  simp only [vgetA];exact ⟨fun _ _ h=>by simp at h,fun k h=>by simp at h;omega,fun k h=>by simp at h;omega,fun _ _ h=>by simp at h⟩
 | c::l,i,acc,e=>by
  obtain ⟨h1,h2,h3,h4⟩:=vgetA_ext l (i+1) (acc+c % 128*128 ^ i) e;rw [List.cons_append];simp only [vgetA];by_cases q1:i=9∧1 < c
  ·simp only [if_pos q1];exact ⟨fun _ _ h=>by simp at h,fun k h _=>h,fun k h=>by simp at h;omega,fun _ _ h=>by simp at h⟩
  ·simp only [if_neg q1];by_cases q2:c=0∧0 < i
   ·simp only [if_pos q2];exact ⟨fun _ _ h=>by simp at h,fun k h _=>h,fun k h=>by simp at h;omega,fun _ _ h=>by simp at h⟩
   ·simp only [if_neg q2];by_cases q3:c < 128
    ·simp only [if_pos q3];refine ⟨fun x r h=>?_,fun k h=>by simp at h,fun k h=>by simp at h,fun x r h=>?_⟩
     ·injection h with h
      injection h with e1 e2
      rw [e1,e2]
     ·injection h with h
      injection h with e1 e2
      exact ⟨[c],by rw [← e2];rfl⟩
    ·simp only [if_neg q3];refine ⟨h1,h2,h3,fun x r h=>?_⟩;obtain ⟨u,hu⟩:=h4 x r h;exact ⟨c::u,by rw [hu];rfl⟩
theorem vget_ext:PExt vget0:=⟨fun {bs v r} h e=>(vgetA_ext bs 0 0 e).1 v r h,fun {bs k} h hk e=>(vgetA_ext bs 0 0 e).2.1 k h hk,fun {bs k} h=>(vgetA_ext bs 0 0 []).2.2.1 k h,fun {bs v r} h=>(vgetA_ext bs 0 0 []).2.2.2 v r h⟩
theorem sectP_ok {id:Nat} {bs l r:List Nat} (h:sectP id bs=.ok (l,r)):∃ r0 n q,bs=id::r0∧vget0 r0=.ok (n,q)∧4≤q.length∧n+4≤q.length∧crcOk (bs.take (bs.length - q.length+n+4))=true∧l=q.take n∧r=q.drop (n+4):=by
 unfold sectP at h;cases bs with
 | nil=>simp at h
 | cons x r0 =>
  dsimp only at h;split at h
  ·cases h
  ·rename_i hx
   have hx:x=id:=Classical.not_not.1 hx;subst hx;cases hv:vget0 r0 with
   | error k=>rw [hv] at h;cases h
   | ok p =>
    obtain ⟨n,q⟩:=p;rw [hv,xb_ok] at h;dsimp only at h;split at h
    ·cases h
    ·split at h
     ·rename_i h1 h2
      injection h with h
      injection h with e1 e2
      exact ⟨r0,n,q,rfl,hv,by omega,by omega,h2,e1.symm,e2.symm⟩
     ·cases h
theorem take_ext {α:Type} {bs:List α} (e:List α) {k:Nat} (h:k≤bs.length):(bs++e).take k=bs.take k:=by
 rw [List.take_append_of_le_length h]
theorem sect_ext (id:Nat):PExt (sectP id):=by
 refine ⟨fun {bs l r} h e=>?_,fun {bs k} h hk e=>?_,fun {bs k} h=>?_,fun {bs l r} h=>?_⟩
 ·obtain ⟨r0,n,q,rfl,hv,h1,h2,h3,rfl,rfl⟩:=sectP_ok h;have hv2:=vget_ext.ok hv e;obtain ⟨u,hu⟩:=vget_ext.sfx hv;have hl:=congrArg List.length hu;rw [List.length_append] at hl;unfold sectP;rw [List.cons_append];dsimp only;rw [if_neg (by simp),hv2,xb_ok];dsimp only;rw [List.length_append,if_neg (by omega),← List.cons_append,List.length_append,show (id::r0).length+e.length - (q.length+e.length)=(id::r0).length - q.length by omega,
   take_ext e (by rw [List.length_cons];omega),h3,if_pos rfl,List.take_append_of_le_length (by omega),List.drop_append_of_le_length (by omega)]
 ·unfold sectP at h ⊢;cases bs with
  | nil=>simp at h;omega
  | cons x r0 =>
   rw [List.cons_append];dsimp only at h ⊢;by_cases hx:x≠id
   ·rw [if_pos hx] at h ⊢;exact h
   ·rw [if_neg hx] at h ⊢;cases hv:vget0 r0 with
    | error j =>
     rw [hv,xb_er] at h;injection h with h
     subst h;rw [vget_ext.er hv hk e,xb_er]
    | ok p =>
     obtain ⟨n,q⟩:=p;obtain ⟨u,hu⟩:=vget_ext.sfx hv;have hl:=congrArg List.length hu;rw [List.length_append] at hl;rw [hv,xb_ok] at h;rw [vget_ext.ok hv e,xb_ok];dsimp only at h ⊢;split at h
     ·injection h with h;omega
     ·rename_i h1
      split at h
      ·cases h
      ·rename_i h2
       rw [List.length_append,if_neg (by omega),← List.cons_append,List.length_append,show (x::r0).length+e.length - (q.length+e.length)=(x::r0).length - q.length by omega,
        take_ext e (by rw [List.length_cons];omega),if_neg h2]
       exact h
 ·unfold sectP at h;cases bs with
  | nil=>simp at h;omega
  | cons x r0 =>
   dsimp only at h;split at h
   ·simp at h;omega
   ·cases hv:vget0 r0 with
    | error j =>
     rw [hv,xb_er] at h;injection h with h
     subst h;exact vget_ext.nz hv
    | ok p =>
     rw [hv,xb_ok] at h;split at h
     ·simp at h;omega
     ·split at h
      ·cases h
      ·simp at h;omega
 ·obtain ⟨r0,n,q,rfl,hv,h1,h2,h3,rfl,rfl⟩:=sectP_ok h;obtain ⟨u,hu⟩:=vget_ext.sfx hv;exact ⟨id::u++q.take (n+4),by rw [List.append_assoc,List.take_append_drop,List.cons_append,← hu]⟩
theorem crcOk_add (l:List Nat):crcOk (addCrc l)=true:=by
 unfold crcOk;rw [decide_eq_true_eq,addCrc_length];refine ⟨by omega,?_⟩;rw [show l.length+4 - 4=l.length by omega];unfold addCrc;rw [List.take_left]
theorem crcOk_iff {l:List Nat}:crcOk l=true↔∃ m,l=addCrc m:=by
 constructor
 ·intro h;unfold crcOk at h;rw [decide_eq_true_eq] at h;exact ⟨_,h.2⟩
 ·rintro ⟨m,rfl⟩;exact crcOk_add m
theorem sectP_inv {id:Nat} {bs l r:List Nat} (hb:∀ x∈bs,x < 256) (h:sectP id bs=.ok (l,r)):bs=frame id l++r∧(∀ x∈l,x < 256)∧(∀ x∈r,x < 256)∧l.length < 18446744073709551616:=by
 obtain ⟨r0,n,q,rfl,hv,h1,h2,h3,rfl,rfl⟩:=sectP_ok h;obtain ⟨e1,hn⟩:=varget_inv (fun x hx=>hb x (List.mem_cons_of_mem _ hx)) hv;subst e1;have hq:∀ x∈q,x < 256:=fun x hx=>hb x (List.mem_cons_of_mem _ (List.mem_append.2 (.inr hx)))
 refine ⟨?_,fun x hx=>hq x (List.mem_of_mem_take hx),fun x hx=>hq x (List.mem_of_mem_drop hx),by rw [List.length_take];omega⟩;rw [show (id::(vint n++q)).length - q.length+n+4=(id::(vint n++q.take (n+4))).length by simp only [List.length_cons,List.length_append,List.length_take];omega] at h3;have e2:id::(vint n++q)=(id::(vint n++q.take (n+4)))++q.drop (n+4):=by rw [List.cons_append,List.append_assoc,List.take_append_drop]
 conv at h3=>rw [e2,List.take_left]
 conv=>lhs;rw [e2]
 congr 1
 unfold crcOk at h3;rw [decide_eq_true_eq] at h3;rw [h3.2];unfold frame lenB;congr 1
 have hk:(id::(vint n++q.take (n+4))).length - 4=(id::(vint n++q.take n)).length:=by simp only [List.length_cons,List.length_append,List.length_take];omega
 have e3:q.take (n+4)=q.take n++(q.drop n).take 4:=by rw [← List.take_add]
 have e4:id::(vint n++(q.take n++(q.drop n).take 4))=(id::(vint n++q.take n))++(q.drop n).take 4:=by simp
 rw [hk,e3,e4,List.take_left,List.length_take,Nat.min_eq_left (by omega)]
theorem litP_put (s r:List Nat):litP s (s++r)=.ok r:=by
 unfold litP;rw [List.take_left,List.take_of_length_le (by simp),if_neg (by simp),if_neg (by simp),List.drop_left]
theorem litP_ok {s bs r:List Nat} (h:litP s bs=.ok r):bs=s++r:=by
 unfold litP at h;split at h
 ·cases h
 ·rename_i h1
  split at h
  ·cases h
  ·rename_i h2
   injection h with h
   have h1:=Classical.not_not.1 h1;rw [List.take_of_length_le (show s.length≤bs.length by omega)] at h1;rw [← h,← h1,List.length_take,Nat.min_eq_left (by omega),List.take_append_drop]
theorem litP_ext (s:List Nat):(∀ {bs r},litP s bs=.ok r→∀ e,litP s (bs++e)=.ok (r++e))∧(∀ {bs k},litP s bs=.error k→k≠3→∀ e,litP s (bs++e)=.error k)∧(∀ {bs k},litP s bs=.error k→k=3∨k=10):=by
 refine ⟨fun {bs r} h e=>?_,fun {bs k} h hk e=>?_,fun {bs k} h=>?_⟩
 ·have:=litP_ok h;rw [this,List.append_assoc,litP_put]
 ·unfold litP at h ⊢;split at h
  ·rename_i h1
   rw [if_pos]
   ·exact h
   ·intro h2;apply h1
    have:=congrArg (List.take bs.length) h2;rw [List.take_take,List.take_take,List.length_append] at this;rw [show min bs.length (bs.length+e.length)=bs.length by omega] at this;rw [← this,Nat.min_comm,← List.take_take,List.take_left]
  ·split at h
   ·injection h with h;omega
   ·cases h
 ·unfold litP at h;split at h
  ·injection h with h;omega
  ·split at h
   ·injection h with h;omega
   ·cases h
end
section
theorem xb_inv {α β:Type} {x:Except Nat α} {f:α→Except Nat β} {b:β} (h:xb x f=.ok b):∃ a,x=.ok a∧f a=.ok b:=by
 cases x with
 | error k=>cases h
 | ok a=>exact ⟨a,rfl,h⟩
theorem endP_ok {bs r:List Nat} {s t:Secs} (h:endP bs s r=.ok t) (hr:∃ u,bs=u++r):t=s∧∃ u,bs=addCrc u++[75,66,83,84]∧u.length+r.length=bs.length:=by
 obtain ⟨u,hu⟩:=hr;unfold endP at h;split at h
 ·cases h
 ·rename_i h1
  split at h
  ·cases h
  ·rename_i h2
   obtain ⟨q,h3,h4⟩:=xb_inv h;have h5:=litP_ok h3;split at h4
   ·rename_i h6
    subst h6;injection h4 with h4
    have h2:crcOk (bs.take (bs.length - r.length+4))=true:=by simpa using h2
    obtain ⟨m,hm⟩:=crcOk_iff.1 h2;have hl:=congrArg List.length hu;rw [List.length_append] at hl;have e:bs.drop (bs.length - r.length+4)=r.drop 4:=by
     rw [show bs.length - r.length+4=u.length+4 by omega,hu];rw [show u.length+4=(u.length+4) from rfl,List.drop_append,List.drop_of_length_le (show u.length≤u.length+4 by omega),show u.length+4 - u.length=4 by omega];rfl
    refine ⟨h4.symm,m,?_,?_⟩
    ·rw [← hm,← List.append_nil [75,66,83,84],← h5,← e,List.take_append_drop]
    ·have hm2:=congrArg List.length hm;rw [List.length_take,addCrc_length] at hm2;omega
   ·cases h4
theorem parseP_inv {bs:List Nat} {s:Secs} (hb:∀ x∈bs,x < 256) (h:parseP bs=.ok s):bs=fileOf s.1 s.2.1 s.2.2.1 s.2.2.2∧(∀ x∈s.1,x < 256)∧(∀ x∈s.2.1,x < 256)∧(∀ x∈s.2.2.1,x < 256)∧(∀ x∈s.2.2.2,x < 256):=by
 unfold parseP at h;obtain ⟨r0,h0,h⟩:=xb_inv h;obtain ⟨⟨l0,r1⟩,h1,h⟩:=xb_inv h;obtain ⟨⟨l1,r2⟩,h2,h⟩:=xb_inv h;obtain ⟨⟨l2,r3⟩,h3,h⟩:=xb_inv h;obtain ⟨⟨l3,r4⟩,h4,h⟩:=xb_inv h;obtain ⟨⟨c,r5⟩,h5,h⟩:=xb_inv h;dsimp only at h h1 h2 h3 h4 h5;split at h
 ·rename_i hc
  have h0:=litP_ok h0;have b0:∀ x∈r0,x < 256:=fun x hx=>hb x (by rw [h0];exact List.mem_append.2 (.inr hx))
  obtain ⟨e1,l0b,b1,_⟩:=sectP_inv b0 h1;obtain ⟨e2,l1b,b2,_⟩:=sectP_inv b1 h2;obtain ⟨e3,l2b,b3,_⟩:=sectP_inv b2 h3;obtain ⟨e4,l3b,b4,_⟩:=sectP_inv b3 h4;obtain ⟨e5,_,_,_⟩:=sectP_inv b4 h5;have k0:=congrArg List.length h0;have k1:=congrArg List.length e1;have k2:=congrArg List.length e2;have k3:=congrArg List.length e3;have k4:=congrArg List.length e4;have k5:=congrArg List.length e5;have kh:hd0.length=5:=rfl;rw [List.length_append] at k0 k1 k2 k3 k4 k5;have hbs:bs=(hd0++frame 1 l0++frame 2 l1++frame 3 l2++frame 4 l3++frame 5 c)++r5:=by
   rw [h0,e1,e2,e3,e4,e5];simp only [List.append_assoc]
  obtain ⟨rfl,u,hu,hl⟩:=endP_ok h ⟨_,hbs⟩;refine ⟨?_,l0b,l1b,l2b,l3b⟩;dsimp only;have hc2:c=toc 5 (5+(frame 1 l0).length) (5+(frame 1 l0).length+(frame 2 l1).length) (5+(frame 1 l0).length+(frame 2 l1).length+(frame 3 l2).length):=by
   rw [hc];congr 1<;>omega
  rw [fileOf_eq,← hc2,hu];have hul:u.length=(hd0++frame 1 l0++frame 2 l1++frame 3 l2++frame 4 l3++frame 5 c).length:=by
   simp only [List.length_append];omega
  have he:(u++(sum4 (crc u)++[75,66,83,84]))=(hd0++frame 1 l0++frame 2 l1++frame 3 l2++frame 4 l3++frame 5 c)++r5:=by
   rw [← hbs,hu];unfold addCrc;rw [List.append_assoc]
  obtain ⟨hu2,_⟩:=List.append_inj he hul;rw [hu2]
 ·cases h
theorem xb_err {α β:Type} {x:Except Nat α} {f:α→Except Nat β} {k:Nat} (h:xb x f=.error k):x=.error k∨∃ a,x=.ok a∧f a=.error k:=by
 cases x with
 | error j=>exact .inl (by injection h with h;rw [h])
 | ok a=>exact .inr ⟨a,rfl,h⟩
theorem endP_ext {bs r:List Nat} {s:Secs} (hr:r.length≤bs.length) {k:Nat} (h:endP bs s r=.error k) (hk:k≠3) (e:List Nat):endP (bs++e) s (r++e)=.error k:=by
 unfold endP at h ⊢;split at h
 ·injection h with h;omega
 ·rename_i h1
  rw [if_neg (by rw [List.length_append];omega),List.length_append,List.length_append,show bs.length+e.length - (r.length+e.length)=bs.length - r.length by omega,take_ext e (by omega)];split at h
  ·rename_i h2
   rw [if_pos h2];exact h
  ·rename_i h2
   rw [if_neg h2,List.drop_append_of_le_length (by omega)];rcases xb_err h with h | ⟨a,h3,h⟩
   ·rw [(litP_ext _).2.1 h hk e];rfl
   ·rw [(litP_ext _).1 h3 e,xb_ok];split at h
    ·cases h
    ·rename_i h4
     rw [if_neg (by simp [h4])];exact h
theorem endP_more {bs r:List Nat} {s t:Secs} (hr:r.length≤bs.length) (h:endP bs s r=.ok t) (e:List Nat) (he:e≠[]):endP (bs++e) s (r++e)=.error 4:=by
 unfold endP at h ⊢;split at h
 ·cases h
 ·rename_i h1
  rw [if_neg (by rw [List.length_append];omega),List.length_append,List.length_append,show bs.length+e.length - (r.length+e.length)=bs.length - r.length by omega,take_ext e (by omega)];split at h
  ·cases h
  ·rename_i h2
   rw [if_neg h2,List.drop_append_of_le_length (by omega)];obtain ⟨a,h3,h⟩:=xb_inv h;rw [(litP_ext _).1 h3 e,xb_ok];rw [if_neg (by simp [he])]
theorem parseP_ext {bs:List Nat} (e:List Nat) (he:e≠[]):(∀ {s},parseP bs=.ok s→parseP (bs++e)=.error 4)∧(∀ {k},parseP bs=.error k→k≠3→parseP (bs++e)=.error k):=by
 have sub:∀ {a b:Nat},a+e.length - (b+e.length)=a - b:=fun {a b}=>by omega
 have suf:∀ {id:Nat} {bs l r:List Nat},sectP id bs=.ok (l,r)→r.length≤bs.length:=fun {id bs l r} h=>by
  obtain ⟨u,hu⟩:=(sect_ext id).sfx h;rw [hu,List.length_append];omega
 constructor
 ·intro s h;unfold parseP at h ⊢;obtain ⟨r0,h0,h⟩:=xb_inv h;obtain ⟨⟨l0,r1⟩,h1,h⟩:=xb_inv h;obtain ⟨⟨l1,r2⟩,h2,h⟩:=xb_inv h;obtain ⟨⟨l2,r3⟩,h3,h⟩:=xb_inv h;obtain ⟨⟨l3,r4⟩,h4,h⟩:=xb_inv h;obtain ⟨⟨c,r5⟩,h5,h⟩:=xb_inv h;dsimp only at h h1 h2 h3 h4 h5;have k0:=congrArg List.length (litP_ok h0);rw [List.length_append] at k0;have k1:=suf h1;have k2:=suf h2;have k3:=suf h3;have k4:=suf h4;have k5:=suf h5;rw [(litP_ext _).1 h0 e,xb_ok,(sect_ext 1).ok h1 e,xb_ok];dsimp only;rw [(sect_ext 2).ok h2 e,xb_ok];dsimp only;rw [(sect_ext 3).ok h3 e,xb_ok];dsimp only;rw [(sect_ext 4).ok h4 e,xb_ok];dsimp only;rw [(sect_ext 5).ok h5 e,xb_ok];dsimp only;simp only [List.length_append,sub];split at h
  ·rename_i hc
   rw [if_pos hc];exact endP_more (by omega) h e he
  ·cases h
 ·intro k h hk;unfold parseP at h ⊢;rcases xb_err h with h | ⟨r0,h0,h⟩
  ·rw [(litP_ext _).2.1 h hk e];rfl
  rw [(litP_ext _).1 h0 e,xb_ok];rcases xb_err h with h | ⟨⟨l0,r1⟩,h1,h⟩
  ·rw [(sect_ext 1).er h hk e];rfl
  rw [(sect_ext 1).ok h1 e,xb_ok];rcases xb_err h with h | ⟨⟨l1,r2⟩,h2,h⟩
  ·dsimp only at h ⊢;rw [(sect_ext 2).er h hk e];rfl
  dsimp only at h2 ⊢;rw [(sect_ext 2).ok h2 e,xb_ok];rcases xb_err h with h | ⟨⟨l2,r3⟩,h3,h⟩
  ·dsimp only at h ⊢;rw [(sect_ext 3).er h hk e];rfl
  dsimp only at h3 ⊢;rw [(sect_ext 3).ok h3 e,xb_ok];rcases xb_err h with h | ⟨⟨l3,r4⟩,h4,h⟩
  ·dsimp only at h ⊢;rw [(sect_ext 4).er h hk e];rfl
  dsimp only at h4 ⊢;rw [(sect_ext 4).ok h4 e,xb_ok];rcases xb_err h with h | ⟨⟨c,r5⟩,h5,h⟩
  ·dsimp only at h ⊢;rw [(sect_ext 5).er h hk e];rfl
  dsimp only at h5 h ⊢;rw [(sect_ext 5).ok h5 e,xb_ok];dsimp only;have k0:=congrArg List.length (litP_ok h0);rw [List.length_append] at k0;have k1:=suf h1;have k2:=suf h2;have k3:=suf h3;have k4:=suf h4;have k5:=suf h5;simp only [List.length_append,sub];split at h
  ·rename_i hc
   rw [if_pos hc];exact endP_ext (by omega) h hk e
  ·rename_i hc
   rw [if_neg hc];exact h
theorem parseP_nz {bs:List Nat} {k:Nat} (h:parseP bs=.error k):k≠0:=by
 unfold parseP at h;rcases xb_err h with h | ⟨r0,_,h⟩
 ·have:=(litP_ext _).2.2 h;omega
 rcases xb_err h with h | ⟨p1,_,h⟩
 ·exact (sect_ext _).nz h
 rcases xb_err h with h | ⟨p2,_,h⟩
 ·exact (sect_ext _).nz h
 rcases xb_err h with h | ⟨p3,_,h⟩
 ·exact (sect_ext _).nz h
 rcases xb_err h with h | ⟨p4,_,h⟩
 ·exact (sect_ext _).nz h
 rcases xb_err h with h | ⟨p5,_,h⟩
 ·exact (sect_ext _).nz h
 split at h
 ·unfold endP at h;split at h
  ·injection h with h;omega
  ·split at h
   ·injection h with h;omega
   ·rcases xb_err h with h | ⟨_,_,h⟩
    ·have:=(litP_ext _).2.2 h;omega
    ·split at h
     ·cases h
     ·injection h with h;omega
 ·injection h with h;omega
def certP (bs:List Nat):Nat :=
 match parseP bs with
 | .ok _=>0
 | .error k=>if k=3 then 0 else k
theorem certP_stays {bs:List Nat} (h:certP bs≠0) (e:List Nat):certP (bs++e)=certP bs:=by
 by_cases he:e=[]
 ·rw [he,List.append_nil]
 unfold certP at h ⊢;cases hp:parseP bs with
 | ok s=>rw [hp] at h;exact (h rfl).elim
 | error k =>
  rw [hp] at h;dsimp only at h;have hk:k≠3:=fun e=>h (by rw [if_pos e])
  rw [(parseP_ext e he).2 hp hk]
end
section
open Go Go.RowKit Go.Lib
theorem or_group {k acc m:Nat} (hk:k≤9) (ha:acc < 128 ^ k) (hm:m*128 ^ k < 18446744073709551616):bits .or .u64 (acc:Int) ((m*128 ^ k:Nat):Int)=((acc+m*128 ^ k:Nat):Int):=by
 have hp:(128:Nat) ^ k=2 ^ (7*k):=by rw [show (128:Nat)=2 ^ 7 from rfl,← Nat.pow_mul]
 have h9:=pow_le9 hk;rw [u64_or_nat _ _ (by omega) hm,Nat.or_comm,nat_join (7*k) _ _ (by rw [hp];exact Nat.mul_mod_left _ _) (by omega),Nat.add_comm]
set_option maxRecDepth 100000 in
theorem VGet_any (w:World) (b:Nat) (A:Option Addr) (n c:Nat) (xs:List Nat) (hn:n=xs.length) (hnc:n≤c) (hm:n≤1000000000) (hr:Rd w b A (cN .u8 xs)) (hx:∀ x∈xs,x < 256) (at_:Nat) (hat:at_≤n) :
  Calls Tryz.prog 104 #[.slice A n c,.int .i64 (at_:Int)] w fun e w'=>e=.returned (getV n (vget0 (xs.drop at_)))∧w=w':=by
 subst hn;obtain ⟨R,hR⟩:∃ R,vget0 (xs.drop at_)=R:=⟨_,rfl⟩;have HR:=hid hR;rw [hR];have HX:=hid hx;have HRd:=hid hr;have HM:=hid hm;have h0:¬ (at_:Int) < 0:=by omega
 have h1:¬ (xs.length:Int) < (at_:Int):=by omega
 clear hR hx hr;by_cases hlt:at_ < xs.length
 ·obtain ⟨o,rfl,-,-⟩:=HRd.out.get (k:=at_) (by simpa using hlt);have hca:¬ c=at_:=by omega
  obtain ⟨L,hL⟩:∃ L,xs.length - at_=L:=⟨_,rfl⟩;have hLI:(xs.length:Int) - (at_:Int)=(L:Int):=by omega
  have HL:=hid hL;go_enter Tryz.func104,Tryz.ntmps104
  go_wp2_with fail;go_loopw [7,22] (fun x i wr=>∃ (k acc:Nat),x=.int .u64 (acc:Int)∧i=.int .i64 (k:Int)∧k≤9∧k≤L∧Hid (acc < 128 ^ k)∧Hid (R=vgetA k acc (xs.drop (at_+k)))∧wr=w) (fun _ i _=>10 - (intOf i).toNat)
  case atStart=>exact ⟨0,0,rfl,rfl,by omega,by omega,hid (by simp),hid HR.out.symm,rfl⟩
  case round =>
   obtain ⟨k,acc,rfl,rfl,hk,hkL,HA,HV,rfl⟩:=hrel;obtain ⟨J,hJ⟩:∃ J,at_+k=J:=⟨_,rfl⟩;have HJ:=hid hJ;have h2:(at_:Int)+(k:Int)=(J:Int):=by omega
   by_cases hlt2:J < xs.length
   ·have h3:(k:Int) < (L:Int):=by omega
    obtain ⟨o',e',_,hc⟩:=HRd.out.get (k:=at_+k) (by simpa using (show at_+k < xs.length by omega));injection e' with e'
    injection e' with _ e'
    subst e';rw [List.getElem_map,← Nat.add_assoc] at hc;have hv:=HV.out;rw [List.drop_eq_getElem_cons (show at_+k < xs.length by omega),vgetA] at hv;have hb:=HX.out xs[at_+k] (List.getElem_mem (by omega));generalize xs[at_+k]=y at *;have HA2:=hid (pow_le9 hk);by_cases h6:k=9∧1 < y
    ·rw [if_pos h6] at hv;have h9b:((k:Int) == 9)=true:=by rw [beq_iff_eq];omega
     have h62:(1:Int) < (y:Int):=by omega
     subst hv;clear hJ hlt2 h6 hL;go_wp2_with fail
     go_ret3
     exact ⟨rfl,rfl⟩
    ·rw [if_neg h6] at hv;have h9g:(k:Int)=9→¬ (1:Int) < (y:Int):=by omega
     have H6:=hid h6;clear h6;obtain ⟨b9,h9b⟩:∃ b,((k:Int) == 9)=b:=⟨_,rfl⟩;by_cases he:y=0∧0 < k
     ·rw [if_pos he] at hv;have hyb:((y:Int) == 0)=true:=by rw [beq_iff_eq];omega
      have hkp:(0:Int) < (k:Int):=by omega
      subst hv;clear hJ hlt2 he hL;cases b9
      ·clear h9g;go_wp2_with fail
       go_ret3
       exact ⟨rfl,rfl⟩
      ·have h91:¬ (1:Int) < (y:Int):=h9g (beq_iff_eq.1 h9b);clear h9g;go_wp2_with fail
       go_ret3
       exact ⟨rfl,rfl⟩
     ·rw [if_neg he] at hv;have h0g:(y:Int)=0→¬ (0:Int) < (k:Int):=by omega
      have HE0:=hid he;clear he;obtain ⟨m,hm2⟩:∃ m,y % 128=m:=⟨_,rfl⟩;have hmI:(y:Int) % 128=(m:Int):=by omega
      have ha:=HA.out;have hmul:m*128 ^ k < 18446744073709551616:=by
       by_cases hk9:k=9
       ·have h6:=H6.out;have:m≤1:=by omega
        exact Nat.lt_of_le_of_lt (Nat.mul_le_mul_right (128 ^ k) this) (by have:=HA2.out;omega)
       ·have h1:=pow_le9 (show k+1≤9 by omega);rw [Nat.pow_succ] at h1;have:=Nat.mul_le_mul_right (128 ^ k) (show m≤128 by omega);omega
      have hor:=or_group hk ha hmul;obtain ⟨S,hS⟩:∃ S,7*k=S:=⟨_,rfl⟩;have hSI:7*(k:Int)=(S:Int):=by omega
      have hSl:S < 64:=by omega
      obtain ⟨M,hM⟩:∃ M,m*128 ^ k=M:=⟨_,rfl⟩;have hshl:IntKind.u64.wrap ((m:Int)*2 ^ S)=(M:Int):=by
       rw [show (m:Int)*2 ^ S=(M:Int) from by
        rw [← hM,show (128:Nat) ^ k=2 ^ S by rw [← hS,show (128:Nat)=2 ^ 7 from rfl,← Nat.pow_mul]];simp]
       exact IntWalk.u64_in _ (by omega)
      obtain ⟨X,hX⟩:∃ X,acc+M=X:=⟨_,rfl⟩;rw [hM,hX] at hor;rw [hm2,hM,hX] at hv;have HF:=hid (And.intro hv (And.intro hM (And.intro hX (And.intro hm2 (And.intro hmul ha)))));clear hv hM hX hm2 hmul ha hJ hS;obtain ⟨by0,hyb⟩:∃ b,((y:Int) == 0)=b:=⟨_,rfl⟩;by_cases hy:y < 128
      ·have hyI:(y:Int) < 128:=by omega
       have HE:Hid (getV xs.length R=.tuple #[.int .u64 (X:Int),.int .i64 ((J:Int)+1),.int .i64 0]):=hid (by
        rw [HF.out.1,if_pos hy,HJ.out];unfold getV;dsimp only;rw [List.length_drop,show xs.length - (xs.length - (J+1))=J+1 by omega];rfl)
       clear hy hL hlt2;cases by0
       ·cases b9
        ·clear h9g h0g;go_wp2_with fail
         go_ret3
         exact ⟨by rw [HE.out];rfl,rfl⟩
        ·have h91:¬ (1:Int) < (y:Int):=h9g (beq_iff_eq.1 h9b);clear h9g h0g;go_wp2_with fail
         go_ret3
         exact ⟨by rw [HE.out];rfl,rfl⟩
       ·have h01:¬ (0:Int) < (k:Int):=h0g (beq_iff_eq.1 hyb);cases b9
        ·clear h9g h0g;go_wp2_with fail
         go_ret3
         exact ⟨by rw [HE.out];rfl,rfl⟩
        ·have h91:¬ (1:Int) < (y:Int):=h9g (beq_iff_eq.1 h9b);clear h9g h0g;go_wp2_with fail
         go_ret3
         exact ⟨by rw [HE.out];rfl,rfl⟩
      ·have hyI:¬ (y:Int) < 128:=by omega
       have hk9:k≠9:=fun e=>by
        have:=h9g (by omega);omega
       have h9b':((k:Int) == 9)=false:=by rw [beq_eq_false_iff_ne];omega
       have hyb':((y:Int) == 0)=false:=by rw [beq_eq_false_iff_ne];omega
       clear h9b hyb h0g h9g;have HE:Hid (R=vgetA (k+1) X (xs.drop (at_+(k+1)))):=hid (by rw [HF.out.1,if_neg hy,Nat.add_assoc]);have HK:Hid (X < 128 ^ (k+1)):=by
        obtain ⟨_,hM,hX,hm2,hmul,ha⟩:=HF.out;refine hid ?_;rw [Nat.pow_succ];have h2:m*128 ^ k≤127*128 ^ k:=Nat.mul_le_mul_right _ (by omega);omega
       clear hy hL;go_wp2_with fail;go_roundw
       case rel=>exact ⟨k+1,X,rfl,by go_num,by omega,by omega,HK,HE,trivial⟩
       case measure=>simp [intOf];omega
   ·have h3:¬ (k:Int) < (L:Int):=by omega
    have hv:=HV.out;rw [List.drop_of_length_le (by omega),vgetA] at hv;subst hv;clear hJ hlt2 hL;go_wp2_with fail
    go_ret3
    exact ⟨rfl,rfl⟩
 ·have he:at_=xs.length:=by omega
  have hR2:R=.error 3:=by
   rw [← HR.out,he,List.drop_length];rfl
  subst he hR2;have hL0:(xs.length:Int) - (xs.length:Int)=0:=by omega
  by_cases hca:c=xs.length
  all_goals
   go_enter Tryz.func104,Tryz.ntmps104
   go_wp2_with fail;refine wp_loop_rounds 1 ?_;rw [rounds_succ];go_wp2_with fail
   go_ret3
   exact ⟨rfl,rfl⟩
end
section
open Go Go.RowKit Go.Lib
def WSt (W:World) (g:Nat) (A:Option Addr) (n c at_ err:Nat):Prop :=
 W.heap[g]? = some (.cells #[.slice A n c,.int .i64 (at_:Int),.int .i64 (err:Int)] 271 (0,0))
theorem WSt.nw {W W':World} {g n c at_ err:Nat} {A:Option Addr} (h:WSt W g A n c at_ err) (hN:Nw W W'):WSt W' g A n c at_ err:=(hN.block _ (lt_of_block h)).trans h
theorem WSt.lt {W:World} {g n c at_ err:Nat} {A:Option Addr} (h:WSt W g A n c at_ err):g < W.heap.size:=lt_of_block h
theorem WSt.c0 {W:World} {g n c at_ err:Nat} {A:Option Addr} (h:WSt W g A n c at_ err):W.cell? ⟨g,0,none⟩=some (.slice A n c):=cell_at (k:=0) h
theorem WSt.c1 {W:World} {g n c at_ err:Nat} {A:Option Addr} (h:WSt W g A n c at_ err):W.cell? ⟨g,1,none⟩=some (.int .i64 (at_:Int)):=cell_at (k:=1) h
theorem WSt.c2 {W:World} {g n c at_ err:Nat} {A:Option Addr} (h:WSt W g A n c at_ err):W.cell? ⟨g,2,none⟩=some (.int .i64 (err:Int)):=cell_at (k:=2) h
theorem WSt.s1 {W:World} {g n c at_ err:Nat} {A:Option Addr} (h:WSt W g A n c at_ err) (x:Nat):WSt (W.setCell ⟨g,1,none⟩ (.int .i64 (x:Int))) g A n c x err:=by
 have:=set_at (k:=1) (.int .i64 (x:Int)) h;unfold WSt;simpa using this
theorem WSt.s2 {W:World} {g n c at_ err:Nat} {A:Option Addr} (h:WSt W g A n c at_ err) (x:Nat):WSt (W.setCell ⟨g,2,none⟩ (.int .i64 (x:Int))) g A n c at_ x:=by
 have:=set_at (k:=2) (.int .i64 (x:Int)) h;unfold WSt;simpa using this
theorem WSt.free {W:World} {g n c at_ err:Nat} {A:Option Addr} (h:WSt W g A n c at_ err) (k:Nat):W.frozen? ⟨g,k,none⟩=false:=by simp [World.frozen?,show W.heap[g]? = _ from h]
theorem nil_eqW (g:Nat) (W:World):(binOp .eql 182 (.pointer (some ⟨g,0,none⟩)) (.pointer none)).run Tryz.prog W=.ok (.bool false) W:=by kernel_rfl
theorem nil_neW (g:Nat) (W:World):(binOp .neq 182 (.pointer (some ⟨g,0,none⟩)) (.pointer none)).run Tryz.prog W=.ok (.bool true) W:=by kernel_rfl
theorem WErr_any (w:World) (g n c at_ err:Nat) (A:Option Addr) (h:WSt w g A n c at_ err) :
  Calls Tryz.prog 107 #[.pointer (some ⟨g,0,none⟩)] w fun e w'=>e=.returned (.int .i64 (err:Int))∧w=w':=by
 have c2:=h.c2;have hnil:=nil_eqW g;clear h;go_enter Tryz.func107,Tryz.ntmps107
 go_wp2_with fail;go_ret;exact ⟨rfl,rfl⟩
theorem WAt_any (w:World) (g n c at_ err:Nat) (A:Option Addr) (h:WSt w g A n c at_ err) :
  Calls Tryz.prog 170 #[.pointer (some ⟨g,0,none⟩)] w fun e w'=>e=.returned (.int .i64 (at_:Int))∧w=w':=by
 have c1:=h.c1;have hnil:=nil_eqW g;clear h;go_enter Tryz.func170,Tryz.ntmps170
 go_wp2_with fail;go_ret;exact ⟨rfl,rfl⟩
theorem Wleft_any (w:World) (g n c at_ err p:Nat) (A:Option Addr) (h:WSt w g A n c at_ err) (hp:p≤n) (hm:n≤1000000000) :
  Calls Tryz.prog 177 #[.pointer (some ⟨g,0,none⟩),.int .i64 (p:Int)] w fun e w'=>e=.returned (.int .i64 ((n - p:Nat):Int))∧w=w':=by
 have c0:=h.c0;obtain ⟨L,hL⟩:∃ L,n - p=L:=⟨_,rfl⟩;have hLI:(n:Int) - (p:Int)=(L:Int):=by omega
 rw [hL];clear h hL;go_enter Tryz.func177,Tryz.ntmps177
 go_wp2_with fail;go_ret;exact ⟨rfl,rfl⟩
theorem WFail_any (w:World) (g n c at_ err E:Nat) (A:Option Addr) (h:WSt w g A n c at_ err) :
  Calls Tryz.prog 108 #[.pointer (some ⟨g,0,none⟩),.int .i64 (E:Int)] w fun e w'=>e=.returned (.tuple #[])∧WSt w' g A n c at_ (if err=0 then E else err)∧Kp g g w w':=by
 have c2:=h.c2;have f2:=h.free 2;have hnil:=nil_neW g;have HR:=hid h;clear h;go_enter Tryz.func108,Tryz.ntmps108
 by_cases h0:err=0
 ·subst h0;go_wp2_with fail;go_end0
  exact ⟨rfl,HR.out.s2 E,(Kp.refl g g w).setCell' (.inl rfl) _⟩
 ·have hE:((err:Int) == 0)=false:=by rw [beq_eq_false_iff_ne];omega
  go_wp2_with fail;go_end0
  exact ⟨rfl,HR.out,Kp.refl g g w⟩
theorem WEnd_any (w:World) (g n c at_ err:Nat) (A:Option Addr) (h:WSt w g A n c at_ err) (hat:at_≤n) (hm:n≤1000000000) :
  Calls Tryz.prog 109 #[.pointer (some ⟨g,0,none⟩)] w fun e w'=>e=.returned (.int .i64 ((if err=0∧at_ < n then 4 else err:Nat):Int))∧w=w':=by
 have c1:=h.c1;have HE:=hid (WErr_any w g n c at_ err A h);have HL:=hid (Wleft_any w g n c at_ err at_ A h hat hm);clear h;by_cases h0:err=0
 ·subst h0;by_cases h1:at_ < n
  ·have h1I:(0:Int) < ((n - at_:Nat):Int):=by omega
   rw [if_pos ⟨rfl,h1⟩];generalize n - at_=L at *;clear h1;go_enter Tryz.func109,Tryz.ntmps109
   go_wp2_with fail;refine HE.out.mono ?_;rintro e w2 ⟨rfl,rfl⟩;go_wp2_with fail;refine HL.out.mono ?_;rintro e w2 ⟨rfl,rfl⟩;go_wp2_with fail;go_ret;exact ⟨rfl,rfl⟩
  ·have h1I:¬ (0:Int) < ((n - at_:Nat):Int):=by omega
   rw [if_neg (fun k=>h1 k.2)];generalize n - at_=L at *;clear h1;go_enter Tryz.func109,Tryz.ntmps109
   go_wp2_with fail;refine HE.out.mono ?_;rintro e w2 ⟨rfl,rfl⟩;go_wp2_with fail;refine HL.out.mono ?_;rintro e w2 ⟨rfl,rfl⟩;go_wp2_with fail;go_ret;exact ⟨rfl,rfl⟩
 ·have hE:((err:Int) != 0)=true:=by rw [bne_iff_ne];omega
  rw [if_neg (fun k=>h0 k.1)];clear h0;go_enter Tryz.func109,Tryz.ntmps109
  go_wp2_with fail;refine HE.out.mono ?_;rintro e w2 ⟨rfl,rfl⟩;go_wp2_with fail;go_ret;exact ⟨rfl,rfl⟩
set_option maxRecDepth 100000 in
theorem readB_err (w:World) (g n c at_ err:Nat) (A:Option Addr) (fv:Value) (h:WSt w g A n c at_ err) (h0:err≠0) :
  Calls Tryz.prog 238 #[.pointer (some ⟨g,0,none⟩),fv] w fun e w'=>e=.returned (.slice none 0 0)∧w=w':=by
 have HE:=hid (WErr_any w g n c at_ err A h);have hE:((err:Int) != 0)=true:=by rw [bne_iff_ne];omega
 clear h h0;go_enter Tryz.func238,Tryz.ntmps238
 go_wp2_with fail;refine HE.out.mono ?_;rintro e w2 ⟨rfl,rfl⟩;go_wp2_with fail;go_ret;exact ⟨rfl,rfl⟩
set_option maxRecDepth 100000 in
theorem readB_ok (w:World) (g n c at_ tq:Nat) (A:Option Addr) (F:Nat) (v1 v2:Value) (K:Value→World→Prop) (h:WSt w g A n c at_ 0) (hF:∀ args W,(callFunc F args).run Tryz.prog W=.ok (.enter F args) W)
  (hC:Calls Tryz.prog F #[.int .i64 (at_:Int),v1,v2] w fun e w'=>∃ v,e=.returned (.tuple #[v,.int .i64 (tq:Int),.int .i64 0])∧K v w'∧Nw w w') :
  Calls Tryz.prog 238 #[.pointer (some ⟨g,0,none⟩),.func (.func F) #[] #[v1,v2]] w fun e w'=>∃ v w1,e=.returned v∧K v w1∧Nw w w1∧w'=w1.setCell ⟨g,1,none⟩ (.int .i64 (tq:Int)):=by
 have HE:=hid (WErr_any w g n c at_ 0 A h);have HC:=hid hC;have HR:=hid h;have c1:=h.c1;clear h hC;go_enter Tryz.func238,Tryz.ntmps238
 go_wp2_with fail;refine HE.out.mono ?_;rintro e w2 ⟨rfl,rfl⟩;go_wp2_with fail;refine HC.out.mono ?_;rintro e w2 ⟨v,rfl,hK,hN⟩;have HKN:=hid (And.intro hK hN);have c1':=(HR.out.nw hN).c1;have f1:=(HR.out.nw hN).free 1;clear hK hN c1;go_wp2_with fail;go_ret;exact ⟨v,w2,rfl,HKN.out.1,HKN.out.2,rfl⟩
set_option maxRecDepth 100000 in
theorem readB_bad (w:World) (g n c at_ k:Nat) (A:Option Addr) (F:Nat) (v1 v2:Value) (h:WSt w g A n c at_ 0) (hk:k≠0) (hF:∀ args W,(callFunc F args).run Tryz.prog W=.ok (.enter F args) W)
  (hC:Calls Tryz.prog F #[.int .i64 (at_:Int),v1,v2] w fun e w'=>(∃ v u,e=.returned (.tuple #[v,u,.int .i64 (k:Int)]))∧Nw w w') :
  Calls Tryz.prog 238 #[.pointer (some ⟨g,0,none⟩),.func (.func F) #[] #[v1,v2]] w fun e w'=>∃ w1,e=.returned (.slice none 0 0)∧Nw w w1∧w'=w1.setCell ⟨g,2,none⟩ (.int .i64 (k:Int)):=by
 have HE:=hid (WErr_any w g n c at_ 0 A h);have HC:=hid hC;have HR:=hid h;have c1:=h.c1;have hk2:((k:Int) != 0)=true:=by rw [bne_iff_ne];omega
 clear h hC hk;go_enter Tryz.func238,Tryz.ntmps238
 go_wp2_with fail;refine HE.out.mono ?_;rintro e w2 ⟨rfl,rfl⟩;go_wp2_with fail;refine HC.out.mono ?_;rintro e w2 ⟨⟨v,u,rfl⟩,hN⟩;have HN:=hid hN;have c2':=(HR.out.nw hN).c2;have f2:=(HR.out.nw hN).free 2;clear hN c1;go_wp2_with fail;go_ret;exact ⟨w2,rfl,HN.out,rfl⟩
set_option maxRecDepth 100000 in
theorem readS_err (w:World) (g n c at_ err:Nat) (A:Option Addr) (fv:Value) (h:WSt w g A n c at_ err) (h0:err≠0) :
  Calls Tryz.prog 175 #[.pointer (some ⟨g,0,none⟩),fv] w fun e w'=>e=.returned (.string .empty)∧w=w':=by
 have HE:=hid (WErr_any w g n c at_ err A h);have hE:((err:Int) != 0)=true:=by rw [bne_iff_ne];omega
 clear h h0;go_enter Tryz.func175,Tryz.ntmps175
 go_wp2_with fail;refine HE.out.mono ?_;rintro e w2 ⟨rfl,rfl⟩;go_wp2_with fail;go_ret;exact ⟨rfl,rfl⟩
set_option maxRecDepth 100000 in
theorem readS_ok (w:World) (g n c at_ tq:Nat) (A:Option Addr) (F:Nat) (v1 v2:Value) (K:Value→World→Prop) (h:WSt w g A n c at_ 0) (hF:∀ args W,(callFunc F args).run Tryz.prog W=.ok (.enter F args) W)
  (hC:Calls Tryz.prog F #[.int .i64 (at_:Int),v1,v2] w fun e w'=>∃ v,e=.returned (.tuple #[v,.int .i64 (tq:Int),.int .i64 0])∧K v w'∧Nw w w') :
  Calls Tryz.prog 175 #[.pointer (some ⟨g,0,none⟩),.func (.func F) #[] #[v1,v2]] w fun e w'=>∃ v w1,e=.returned v∧K v w1∧Nw w w1∧w'=w1.setCell ⟨g,1,none⟩ (.int .i64 (tq:Int)):=by
 have HE:=hid (WErr_any w g n c at_ 0 A h);have HC:=hid hC;have HR:=hid h;have c1:=h.c1;clear h hC;go_enter Tryz.func175,Tryz.ntmps175
 go_wp2_with fail;refine HE.out.mono ?_;rintro e w2 ⟨rfl,rfl⟩;go_wp2_with fail;refine HC.out.mono ?_;rintro e w2 ⟨v,rfl,hK,hN⟩;have HKN:=hid (And.intro hK hN);have c1':=(HR.out.nw hN).c1;have f1:=(HR.out.nw hN).free 1;clear hK hN c1;go_wp2_with fail;go_ret;exact ⟨v,w2,rfl,HKN.out.1,HKN.out.2,rfl⟩
set_option maxRecDepth 100000 in
theorem readS_bad (w:World) (g n c at_ k:Nat) (A:Option Addr) (F:Nat) (v1 v2:Value) (h:WSt w g A n c at_ 0) (hk:k≠0) (hF:∀ args W,(callFunc F args).run Tryz.prog W=.ok (.enter F args) W)
  (hC:Calls Tryz.prog F #[.int .i64 (at_:Int),v1,v2] w fun e w'=>(∃ v u,e=.returned (.tuple #[v,u,.int .i64 (k:Int)]))∧Nw w w') :
  Calls Tryz.prog 175 #[.pointer (some ⟨g,0,none⟩),.func (.func F) #[] #[v1,v2]] w fun e w'=>∃ w1,e=.returned (.string .empty)∧Nw w w1∧w'=w1.setCell ⟨g,2,none⟩ (.int .i64 (k:Int)):=by
 have HE:=hid (WErr_any w g n c at_ 0 A h);have HC:=hid hC;have HR:=hid h;have c1:=h.c1;have hk2:((k:Int) != 0)=true:=by rw [bne_iff_ne];omega
 clear h hC hk;go_enter Tryz.func175,Tryz.ntmps175
 go_wp2_with fail;refine HE.out.mono ?_;rintro e w2 ⟨rfl,rfl⟩;go_wp2_with fail;refine HC.out.mono ?_;rintro e w2 ⟨⟨v,u,rfl⟩,hN⟩;have HN:=hid hN;have c2':=(HR.out.nw hN).c2;have f2:=(HR.out.nw hN).free 2;clear hN c1;go_wp2_with fail;go_ret;exact ⟨w2,rfl,HN.out,rfl⟩
set_option maxRecDepth 100000 in
theorem readU_err (w:World) (g n c at_ err:Nat) (A:Option Addr) (fv:Value) (h:WSt w g A n c at_ err) (h0:err≠0) :
  Calls Tryz.prog 249 #[.pointer (some ⟨g,0,none⟩),fv] w fun e w'=>e=.returned (.int .u64 0)∧w=w':=by
 have HE:=hid (WErr_any w g n c at_ err A h);have hE:((err:Int) != 0)=true:=by rw [bne_iff_ne];omega
 clear h h0;go_enter Tryz.func249,Tryz.ntmps249
 go_wp2_with fail;refine HE.out.mono ?_;rintro e w2 ⟨rfl,rfl⟩;go_wp2_with fail;go_ret;exact ⟨rfl,rfl⟩
set_option maxRecDepth 100000 in
theorem readU_ok (w:World) (g n c at_ tq:Nat) (A:Option Addr) (F:Nat) (v1 v2:Value) (K:Value→World→Prop) (h:WSt w g A n c at_ 0) (hF:∀ args W,(callFunc F args).run Tryz.prog W=.ok (.enter F args) W)
  (hC:Calls Tryz.prog F #[.int .i64 (at_:Int),v1,v2] w fun e w'=>∃ v,e=.returned (.tuple #[v,.int .i64 (tq:Int),.int .i64 0])∧K v w'∧Nw w w') :
  Calls Tryz.prog 249 #[.pointer (some ⟨g,0,none⟩),.func (.func F) #[] #[v1,v2]] w fun e w'=>∃ v w1,e=.returned v∧K v w1∧Nw w w1∧w'=w1.setCell ⟨g,1,none⟩ (.int .i64 (tq:Int)):=by
 have HE:=hid (WErr_any w g n c at_ 0 A h);have HC:=hid hC;have HR:=hid h;have c1:=h.c1;clear h hC;go_enter Tryz.func249,Tryz.ntmps249
 go_wp2_with fail;refine HE.out.mono ?_;rintro e w2 ⟨rfl,rfl⟩;go_wp2_with fail;refine HC.out.mono ?_;rintro e w2 ⟨v,rfl,hK,hN⟩;have HKN:=hid (And.intro hK hN);have c1':=(HR.out.nw hN).c1;have f1:=(HR.out.nw hN).free 1;clear hK hN c1;go_wp2_with fail;go_ret;exact ⟨v,w2,rfl,HKN.out.1,HKN.out.2,rfl⟩
set_option maxRecDepth 100000 in
theorem readU_bad (w:World) (g n c at_ k:Nat) (A:Option Addr) (F:Nat) (v1 v2:Value) (h:WSt w g A n c at_ 0) (hk:k≠0) (hF:∀ args W,(callFunc F args).run Tryz.prog W=.ok (.enter F args) W)
  (hC:Calls Tryz.prog F #[.int .i64 (at_:Int),v1,v2] w fun e w'=>(∃ v u,e=.returned (.tuple #[v,u,.int .i64 (k:Int)]))∧Nw w w') :
  Calls Tryz.prog 249 #[.pointer (some ⟨g,0,none⟩),.func (.func F) #[] #[v1,v2]] w fun e w'=>∃ w1,e=.returned (.int .u64 0)∧Nw w w1∧w'=w1.setCell ⟨g,2,none⟩ (.int .i64 (k:Int)):=by
 have HE:=hid (WErr_any w g n c at_ 0 A h);have HC:=hid hC;have HR:=hid h;have c1:=h.c1;have hk2:((k:Int) != 0)=true:=by rw [bne_iff_ne];omega
 clear h hC hk;go_enter Tryz.func249,Tryz.ntmps249
 go_wp2_with fail;refine HE.out.mono ?_;rintro e w2 ⟨rfl,rfl⟩;go_wp2_with fail;refine HC.out.mono ?_;rintro e w2 ⟨⟨v,u,rfl⟩,hN⟩;have HN:=hid hN;have c2':=(HR.out.nw hN).c2;have f2:=(HR.out.nw hN).free 2;clear hN c1;go_wp2_with fail;go_ret;exact ⟨w2,rfl,HN.out,rfl⟩
end
section
open Go Go.RowKit Go.Lib
theorem crcOk_four (m:List Nat) (y0 y1 y2 y3:Nat):crcOk (m++[y0,y1,y2,y3])=decide (y0=crc m % 256∧y1=crc m / 256 % 256∧y2=crc m / 65536 % 256∧y3=crc m / 16777216 % 256):=by
 unfold crcOk;have h:(m++[y0,y1,y2,y3]).length=m.length+4:=by simp
 rw [h,show m.length+4 - 4=m.length by omega,List.take_left];unfold addCrc sum4;congr 1
 apply propext
 constructor
 ·rintro ⟨_,h⟩;have h:=List.append_cancel_left h;simp only [List.cons.injEq,and_true] at h;exact h
 ·rintro ⟨h0,h1,h2,h3⟩;exact ⟨by omega,by rw [h0,h1,h2,h3]⟩
theorem four_split {l:List Nat} (h:4≤l.length):∃ m y0 y1 y2 y3,l=m++[y0,y1,y2,y3]:=by
 have e:=List.take_append_drop (l.length - 4) l;have hd:(l.drop (l.length - 4)).length=4:=by rw [List.length_drop];omega
 match hq:l.drop (l.length - 4),hd with
 | [a,b,c,d],_=>exact ⟨_,a,b,c,d,by rw [← hq,e]⟩
set_option maxRecDepth 100000 in
set_option maxHeartbeats 1000000 in
theorem WCheck_any (w:World) (b:Nat) (A:Option Addr) (n c:Nat) (l:List Nat) (hn:n=l.length) (hnc:n≤c) (hm:n≤1000000000) (hr:Rd w b A (cN .u8 l)) (hl:∀ x∈l,x < 256) (hG:Gl w) :
  Calls Tryz.prog 173 #[.slice A n c] w fun e w'=>e=.returned (.bool (crcOk l))∧w=w':=by
 by_cases h4:l.length < 4
 ·have h4I:(n:Int) < 4:=by omega
  have hk:crcOk l=false:=by
   unfold crcOk;rw [decide_eq_false_iff_not];exact fun h=>by omega
  rw [hk];clear hr hl hG hn hk h4;go_enter Tryz.func173,Tryz.ntmps173
  go_wp2_with fail;go_ret;exact ⟨rfl,rfl⟩
 ·obtain ⟨m,y0,y1,y2,y3,hl4⟩:=four_split (l:=l) (by omega);have hm4:n=m.length+4:=by rw [hn,hl4];simp
  subst hl4;have hb:∀ x∈m,x < 256:=fun x hx=>hl x (List.mem_append.2 (.inl hx))
  have HS:=hid (Sum_any w b A m.length c m rfl (by omega) (by
   have:=hr.take m.length;rw [show (cN .u8 (m++[y0,y1,y2,y3])).take m.length=cN .u8 m by
    unfold cN;rw [← List.map_take,List.take_left]] at this
   exact this) hb hG)
  rw [crcOk_four];obtain ⟨off,rfl,_,_⟩:=hr.get (k:=m.length) (by simp);have cell:∀ (k y:Nat),([y0,y1,y2,y3]:List Nat)[k]? = some y→w.cell? ⟨b,off+m.length+k,none⟩=some (.int .u8 (y:Int)):=fun k y h=>by
   have hlt:k < 4:=(List.getElem?_eq_some_iff.1 h).1;obtain ⟨o',e',_,hc⟩:=hr.get (k:=m.length+k) (by simp;omega);injection e' with e'
   injection e' with _ e'
   subst e';rw [Nat.add_assoc,hc];unfold cN;rw [List.getElem_map];have:(m++[y0,y1,y2,y3])[m.length+k]'(by simp;omega)=y:=by
    rw [List.getElem_append_right (by omega)];have h2:=(List.getElem?_eq_some_iff.1 h).2;simpa using h2
   rw [this]
  have c0:w.cell? ⟨b,off+m.length,none⟩=some (.int .u8 (y0:Int)):=cell 0 y0 rfl;have c1:=cell 1 y1 rfl;have c2:=cell 2 y2 rfl;have c3:=cell 3 y3 rfl;have hC:=crc_lt m;obtain ⟨L,hL⟩:∃ L,m.length=L:=⟨_,rfl⟩;obtain ⟨C,hC2⟩:∃ C,crc m=C:=⟨_,rfl⟩;rw [hL] at HS c0 c1 c2 c3 hm4;rw [hC2] at HS hC ⊢;have e0:IntKind.u8.wrap (C:Int)=((C % 256:Nat):Int):=by rw [IntKind.wrap_u8];omega
  have e1:IntKind.u8.wrap ((C:Int) / 256)=((C / 256 % 256:Nat):Int):=by rw [IntKind.wrap_u8];omega
  have e2:IntKind.u8.wrap ((C:Int) / 65536)=((C / 65536 % 256:Nat):Int):=by rw [IntKind.wrap_u8];omega
  have e3:IntKind.u8.wrap ((C:Int) / 16777216)=((C / 16777216 % 256:Nat):Int):=by rw [IntKind.wrap_u8];omega
  have hnI:(n:Int) - 4=(L:Int):=by omega
  have hn4:¬ (n:Int) < 4:=by omega
  have hn4':¬ (L:Int) < 0:=by omega
  have hcL:¬ c=L:=by omega
  have hnL:n - L=4:=by omega
  have hnLI:(n:Int) - (L:Int)=4:=by omega
  have HB:=hid (And.intro hl (And.intro hr (And.intro hG (And.intro hn (And.intro hm4 (And.intro hL hC2))))));clear hl hr hG hn hL hC2 cell hb h4 hm4;go_enter Tryz.func173,Tryz.ntmps173
  go_wp2_with fail;refine HS.out.mono ?_;rintro e w2 ⟨rfl,rfl⟩;go_wp2_with fail;refine wp_loop_rounds 5 ?_;have HD:=hid (show ∀ q:Prop,[Decidable q]→¬ q→Ending.returned (.bool false)=.returned (.bool (decide q)) from fun q _ h=>by rw [decide_eq_false h]);rw [rounds_succ];by_cases q0:y0=C % 256
  case neg =>
   have t0:((y0:Int) != (C:Int) % 256)=true:=by rw [bne_iff_ne];omega
   have Q:=hid q0;clear q0;go_wp2_with fail;go_ret;exact ⟨HD.out _ fun h=>Q.out (h.1),rfl⟩
  have t0:((y0:Int) != (C:Int) % 256)=false:=by rw [bne_eq_false_iff_eq];omega
  have Q0:=hid q0;clear q0;go_wp2_with fail;rw [rounds_succ];by_cases q1:y1=C / 256 % 256
  case neg =>
   have t1:((y1:Int) != (C:Int) / 256 % 256)=true:=by rw [bne_iff_ne];omega
   have Q:=hid q1;clear q1;go_wp2_with fail;go_ret;exact ⟨HD.out _ fun h=>Q.out (h.2.1),rfl⟩
  have t1:((y1:Int) != (C:Int) / 256 % 256)=false:=by rw [bne_eq_false_iff_eq];omega
  have Q1:=hid q1;clear q1;go_wp2_with fail;rw [rounds_succ];by_cases q2:y2=C / 65536 % 256
  case neg =>
   have t2:((y2:Int) != (C:Int) / 65536 % 256)=true:=by rw [bne_iff_ne];omega
   have Q:=hid q2;clear q2;go_wp2_with fail;go_ret;exact ⟨HD.out _ fun h=>Q.out (h.2.2.1),rfl⟩
  have t2:((y2:Int) != (C:Int) / 65536 % 256)=false:=by rw [bne_eq_false_iff_eq];omega
  have Q2:=hid q2;clear q2;go_wp2_with fail;rw [rounds_succ];by_cases q3:y3=C / 16777216 % 256
  case neg =>
   have t3:((y3:Int) != (C:Int) / 16777216 % 256)=true:=by rw [bne_iff_ne];omega
   have Q:=hid q3;clear q3;go_wp2_with fail;go_ret;exact ⟨HD.out _ fun h=>Q.out (h.2.2.2),rfl⟩
  have t3:((y3:Int) != (C:Int) / 16777216 % 256)=false:=by rw [bne_eq_false_iff_eq];omega
  have Q3:=hid q3;clear q3;go_wp2_with fail;rw [rounds_succ];go_wp2_with fail;go_ret;exact ⟨by rw [decide_eq_true ⟨Q0.out,Q1.out,Q2.out,Q3.out⟩];rfl,rfl⟩
end
section
open Go Go.RowKit Go.Lib
theorem drop_sfx {xs r:List Nat} {k v:Nat} (h:vget0 (xs.drop k)=.ok (v,r)):r=xs.drop (xs.length - r.length)∧k+r.length < xs.length∧k≤xs.length:=by
 obtain ⟨u,hu⟩:=vget_ext.sfx h;have h1:=vgetA_len _ _ _ _ _ h;have h2:=congrArg List.length hu;rw [List.length_drop] at h1 h2;rw [List.length_append] at h2;refine ⟨?_,by omega,by omega⟩;have h3:=congrArg (List.drop u.length) hu;rw [List.drop_left,List.drop_drop,show k+u.length=xs.length - r.length by omega] at h3;exact h3.symm
theorem cell_lt {w:World} {b k:Nat} {v:Value} (h:w.cell? ⟨b,k,none⟩=some v):b < w.heap.size:=by
 by_cases hb:b < w.heap.size
 ·exact hb
 ·simp [World.cell?,Array.getElem?_eq_none (Nat.le_of_not_lt hb)] at h
theorem cell_keep {w w':World} {b k:Nat} {v:Value} (hN:Nw w w') (h:w.cell? ⟨b,k,none⟩=some v):w'.cell? ⟨b,k,none⟩=some v:=cell_old hN (cell_lt h) h
def SectR (w:World) (n:Nat) (X:Except Nat (List Nat × List Nat)) (e:Ending) (w':World):Prop :=
 match X with
 | .ok (l,r)=>∃ b' A' c',e=.returned (.tuple #[.slice A' l.length c',.int .i64 ((n - r.length:Nat):Int),.int .i64 0])∧Ow w' b' 5 1 A' l.length c' (cN .u8 l)∧w.heap.size≤b'∧Nw w w'
 | .error k=>(∃ v u,e=.returned (.tuple #[v,u,.int .i64 (k:Int)]))∧Nw w w'
theorem SectR.er {w w':World} {n k:Nat} {v u:Value} {X:Except Nat (List Nat × List Nat)} (hX:X=.error k) (hN:Nw w w'):SectR w n X (.returned (.tuple #[v,u,.int .i64 (k:Int)])) w':=by
 subst hX;exact ⟨⟨_,_,rfl⟩,hN⟩
set_option maxRecDepth 100000 in
set_option maxHeartbeats 1000000 in
theorem Sect1_any (w:World) (g p1 p2 b n c at_ id:Nat) (A:Option Addr) (xs:List Nat) (h:WSt w g A n c at_ 0) (h1:w.cell? ⟨p1,0,none⟩=some (.pointer (some ⟨g,0,none⟩))) (h2:w.cell? ⟨p2,0,none⟩=some (.int .u8 (id:Int)))
  (hn:n=xs.length) (hnc:n≤c) (hm:n≤1000000000) (hr:Rd w b A (cN .u8 xs)) (hx:∀ x∈xs,x < 256) (hat:at_≤n) (hG:Gl w) :
  Calls Tryz.prog 239 #[.int .i64 (at_:Int),.pointer (some ⟨p1,0,none⟩),.pointer (some ⟨p2,0,none⟩)] w (SectR w n (sectP id (xs.drop at_))):=by
 obtain ⟨X,hX⟩:∃ X,sectP id (xs.drop at_)=X:=⟨_,rfl⟩;have HX:=hid hX;rw [hX];have HL:=hid fun (W:World) (hN:Nw w W) (p:Nat) (hp:p≤n)=>Wleft_any W g n c at_ 0 p A (h.nw hN) hp hm
 have HH:=hid h;have HR:=hid hr;have HB:=hid hx;have HG:=hid hG;have HN:=hid hn;have H1:=hid fun (W:World) (hN:Nw w W)=>cell_keep hN h1
 have H2:=hid fun (W:World) (hN:Nw w W)=>cell_keep hN h2
 clear hX hr hx hG;by_cases ha:at_=n
 ·have hl0:n - at_=0:=by omega
  have hXe:X=.error 3:=by
   rw [← HX.out,List.drop_of_length_le (by omega)];rfl
  have HL1:=HL.out w (Nw.refl w) at_ (by omega);rw [hl0] at HL1;have HL1:=hid HL1;have HXe:=hid hXe;clear ha hl0 hXe hn h h2;go_enter Tryz.func239,Tryz.ntmps239
  go_wp2_with fail;refine HL1.out.mono ?_;rintro e w2 ⟨rfl,rfl⟩;go_wp2_with fail
  go_ret3
  exact SectR.er HXe.out (Nw.refl _)
 ·have hlt:at_ < xs.length:=by omega
  obtain ⟨o,rfl,_,hc⟩:=HR.out.get (k:=at_) (by simpa using hlt);unfold cN at hc;rw [List.getElem_map] at hc;have hd:=HX.out;rw [List.drop_eq_getElem_cons hlt] at hd;have hbt:=HB.out xs[at_] (List.getElem_mem hlt);have HCo:=hid (List.drop_eq_getElem_cons hlt).symm;generalize xs[at_]=y at *;have HL1:=hid (HL.out w (Nw.refl w) at_ (by omega));obtain ⟨L,hL⟩:∃ L,n - at_=L:=⟨_,rfl⟩;rw [hL] at HL1;have hL1:¬ (L:Int) < 1:=by omega
  have c0:=h.c0;have hatI:(at_:Int) < (n:Int):=by omega
  by_cases hy:y=id
  case neg =>
   have hyb:((y:Int) != (id:Int))=true:=by rw [bne_iff_ne];omega
   have hXe:X=.error 11:=by
    rw [← hd];unfold sectP;dsimp only;rw [if_pos hy]
   have HXe:=hid hXe;clear ha hXe hn h hd hy hL hlt;go_enter Tryz.func239,Tryz.ntmps239
   go_wp2_with fail;refine HL1.out.mono ?_;rintro e w2 ⟨rfl,rfl⟩;go_wp2_with fail;go_quiet (fail)
   go_wp2_with fail
   go_ret3
   exact SectR.er HXe.out (Nw.drewN _ _)
  have hyb:((y:Int) != (id:Int))=false:=by rw [bne_eq_false_iff_eq];omega
  have hd2:xb (vget0 (xs.drop (at_+1))) (fun p=>if p.2.length < 4∨p.2.length - 4 < p.1 then .error 3 else if crcOk ((y::xs.drop (at_+1)).take ((y::xs.drop (at_+1)).length - p.2.length+p.1+4)) then .ok (p.2.take p.1,p.2.drop (p.1+4)) else .error 12)=X:=by
   rw [← hd];unfold sectP;dsimp only;rw [if_neg (by simp [hy])]
  have hby:∀ x∈xs.drop (at_+1),x < 256:=fun x hx=>HB.out x (List.mem_of_mem_drop hx)
  have HV:=hid fun (W:World) (hN:Nw w W)=>VGet_any W b (some ⟨b,o,none⟩) n c xs HN.out hnc hm (HR.out.nw hN) HB.out (at_+1) (by omega)
  have hat1:(at_:Int)+1=((at_+1:Nat):Int):=by omega
  cases hv:vget0 (xs.drop (at_+1)) with
  | error k =>
   rw [hv,xb_er] at hd2;have HXe:=hid hd2.symm;have hk:=vget_ext.nz hv;have hk2:((k:Int) != 0)=true:=by rw [bne_iff_ne];omega
   rw [hv] at HV;have HV:=hid fun (W:World) (hN:Nw w W)=>show Calls Tryz.prog 104 #[.slice (some ⟨b,o,none⟩) n c,.int .i64 ((at_+1:Nat):Int)] W fun e w'=>e=.returned (.tuple #[.int .u64 0,.int .i64 0,.int .i64 (k:Int)])∧W=w' from HV.out W hN
   obtain ⟨J,hJ⟩:∃ J,at_+1=J:=⟨_,rfl⟩;rw [hJ] at HV hat1;clear ha hn hd hd2 hy hL hlt hv hk hby hJ;go_enter Tryz.func239,Tryz.ntmps239
   go_wp2_with fail;refine HL1.out.mono ?_;rintro e w2 ⟨rfl,rfl⟩;go_wp2_with fail;go_quiet (fail)
   have hN1:=Nw.drewN w nq;have HN1:=hid hN1;have c01:=(HH.out.nw hN1).c0;have c11:=H1.out _ hN1;clear hN1 h c0 h1 h2 hc;generalize World.drewN w nq=w1 at *;go_wp2_with fail;refine (HV.out _ HN1.out).mono ?_;rintro e w2 ⟨rfl,rfl⟩;go_wp2_with fail
   go_ret3
   exact SectR.er HXe.out HN1.out
  | ok q =>
   obtain ⟨v,r⟩:=q;obtain ⟨hr1,hr2,_⟩:=drop_sfx hv;rw [hv,xb_ok] at hd2;dsimp only at hd2;rw [HCo.out] at hd2;obtain ⟨F,hF⟩:∃ F,n - r.length=F:=⟨_,rfl⟩;have hFle:F≤n:=by omega
   have hvl:v < 18446744073709551616:=(varget_inv hby hv).2;have HV:=hid fun (W:World) (hN:Nw w W)=>show Calls Tryz.prog 104 #[.slice (some ⟨b,o,none⟩) n c,.int .i64 ((at_+1:Nat):Int)] W fun e w'=>e=.returned (.tuple #[.int .u64 (v:Int),.int .i64 (F:Int),.int .i64 0])∧W=w' from (HV.out W hN).mono fun e w' h=>⟨by rw [h.1,hv,← hF];rfl,h.2⟩
   have hLF:n - F=r.length:=by omega
   have HL2:=hid fun (W:World) (hN:Nw w W)=>HL.out W hN F hFle
   rw [hLF] at HL2;obtain ⟨J,hJ⟩:∃ J,at_+1=J:=⟨_,rfl⟩;rw [hJ] at HV hat1;have HD2:=hid hd2;have HF:=hid (And.intro hF (And.intro hr1 (And.intro hr2 hJ)));have hrl:r.length≤1000000000:=by omega
   have HBr:Hid (∀ x∈r,x < 256):=hid fun x hx=>HB.out x (by rw [hr1] at hx;exact List.mem_of_mem_drop hx)
   by_cases h4:r.length < 4
   case pos =>
    have h4I:(r.length:Int) < 4:=by omega
    have h4I':(r.length:Int) - 4 < 0:=by omega
    have HXe:=hid (show X=.error 3 by rw [← HD2.out,if_pos (.inl h4)]);clear ha hn hd hd2 hy hL hlt hv hby hJ hF hr1 hr2 hLF h4 hvl;go_enter Tryz.func239,Tryz.ntmps239
    go_wp2_with fail;refine HL1.out.mono ?_;rintro e w2 ⟨rfl,rfl⟩;go_wp2_with fail;go_quiet (fail)
    have hN1:=Nw.drewN w nq;have HN1:=hid hN1;have c01:=(HH.out.nw hN1).c0;have c11:=H1.out _ hN1;clear hN1 h c0 h1 h2 hc;generalize World.drewN w nq=w1 at *;go_wp2_with fail;refine (HV.out _ HN1.out).mono ?_;rintro e w2 ⟨rfl,rfl⟩;go_wp2_with fail;refine (HL2.out _ HN1.out).mono ?_;rintro e w2 ⟨rfl,rfl⟩;go_wp2_with fail
    go_ret3
    exact SectR.er HXe.out HN1.out
   obtain ⟨Q,hQ⟩:∃ Q,r.length - 4=Q:=⟨_,rfl⟩;have hQI:(r.length:Int) - 4=(Q:Int):=by omega
   have hQ0:¬ (Q:Int) < 0:=by omega
   have HQb:=hid (show 0≤(Q:Int)∧(Q:Int)≤18446744073709551615 by omega);by_cases h5:Q < v
   case pos =>
    have h5I:(Q:Int) < (v:Int):=by omega
    have HXe:=hid (show X=.error 3 by rw [← HD2.out,if_pos (.inr (by omega))]);clear ha hn hd hd2 hy hL hlt hv hby hJ hF hr1 hr2 hLF h4 hvl hQ h5;have hQw:IntKind.u64.wrap (Q:Int)=(Q:Int):=IntWalk.u64_in _ HQb.out;go_enter Tryz.func239,Tryz.ntmps239
    go_wp2_with fail;refine HL1.out.mono ?_;rintro e w2 ⟨rfl,rfl⟩;go_wp2_with fail;go_quiet (fail)
    have hN1:=Nw.drewN w nq;have HN1:=hid hN1;have c01:=(HH.out.nw hN1).c0;have c11:=H1.out _ hN1;clear hN1 h c0 h1 h2 hc;generalize World.drewN w nq=w1 at *;go_wp2_with fail;refine (HV.out _ HN1.out).mono ?_;rintro e w2 ⟨rfl,rfl⟩;go_wp2_with fail;refine (HL2.out _ HN1.out).mono ?_;rintro e w2 ⟨rfl,rfl⟩;go_wp2_with fail
    go_ret3
    exact SectR.er HXe.out HN1.out
   have h5I:¬ (Q:Int) < (v:Int):=by omega
   have HVb:=hid (show -9223372036854775808≤(v:Int)∧(v:Int)≤9223372036854775807 by omega);obtain ⟨T,hT⟩:∃ T,F+v=T:=⟨_,rfl⟩;have hTI:(F:Int)+(v:Int)=(T:Int):=by omega
   obtain ⟨T4,hT4⟩:∃ T4,T+4=T4:=⟨_,rfl⟩;have hT4I:(T:Int)+4=(T4:Int):=by omega
   obtain ⟨M,hM⟩:∃ M,T4 - at_=M:=⟨_,rfl⟩;have hMI:(T4:Int) - (at_:Int)=(M:Int):=by omega
   have hMl:M≤xs.length - at_:=by omega
   have hTF:T - F=v:=by omega
   have hTFI:(T:Int) - (F:Int)=(v:Int):=by omega
   have hca:¬ c=at_:=by omega
   have hcF:¬ c=F:=by omega
   have ha1:at_≤T4:=by omega
   have ha2:T4≤c:=by omega
   have ha3:F≤T:=by omega
   have ha4:T≤c:=by omega
   have HR1:=hid fun (W:World) (hN:Nw w W)=>((HR.out.nw hN).cut (k:=at_) (cap:=c) (size:=1) (by simp;omega)).take M
   have HR2:=hid fun (W:World) (hN:Nw w W)=>((HR.out.nw hN).cut (k:=F) (cap:=c) (size:=1) (by simp;omega)).take v
   rw [if_neg hca] at HR1;rw [if_neg hcF] at HR2;simp only [Option.map_some,add_lit',Nat.mul_one] at HR1 HR2;have hl1:((xs.drop at_).take M).length=M:=by rw [List.length_take,List.length_drop];omega
   have hl2:((xs.drop F).take v).length=v:=by rw [List.length_take,List.length_drop];omega
   have HCk:=hid fun (W:World) (hN:Nw w W)=>WCheck_any W b (some ⟨b,o+at_,none⟩) M (c - at_) ((xs.drop at_).take M) hl1.symm (by omega) (by omega) (by
    have:=HR1.out W hN;unfold cN at this ⊢;rw [List.map_take,List.map_drop];exact this) (fun x hx=>HB.out x (List.mem_of_mem_drop (List.mem_of_mem_take hx))) (HG.out.nw hN)
   have HCl:=hid fun (W:World) (hN:Nw w W)=>CloneB_any W b (some ⟨b,o+F,none⟩) v (c - F) ((xs.drop F).take v) hl2.symm (by omega) (by
    have:=HR2.out W hN;unfold cN at this ⊢;rw [List.map_take,List.map_drop];exact this) (fun e=>by cases e)
   have hXe:X=if crcOk ((xs.drop at_).take M) then .ok ((xs.drop F).take v,r.drop (v+4)) else .error 12:=by
    rw [← HD2.out,if_neg (by omega),List.length_drop,show xs.length - at_ - r.length+v+4=M by omega];rw [show (xs.drop F).take v=r.take v by rw [show xs.drop F=r by rw [← hF,HN.out];exact hr1.symm]]
   have HXe:=hid hXe;have HTo:Hid (n - (r.drop (v+4)).length=T4):=hid (by rw [List.length_drop];omega);have HL22:=hid hl2;generalize (xs.drop at_).take M=ck at *;generalize (xs.drop F).take v=ld at *;clear ha hn hd hd2 hy hL hlt hv hby hJ hF hr1 hr2 hLF h4 hvl hQ h5 hXe HR1 HR2 hl1 hl2;obtain ⟨k,hk⟩:∃ k,crcOk ck=k:=⟨_,rfl⟩;rw [hk] at HCk HXe;clear hk;have hvb:(v:Int)≤9223372036854775807:=HVb.out.2;go_enter Tryz.func239,Tryz.ntmps239
   go_wp2_with fail;refine HL1.out.mono ?_;rintro e w2 ⟨rfl,rfl⟩;go_wp2_with fail;go_quiet (fail)
   have hN1:=Nw.drewN w nq;have HN1:=hid hN1;have c01:=(HH.out.nw hN1).c0;have c11:=H1.out _ hN1;clear hN1 h c0 h1 h2 hc;generalize World.drewN w nq=w1 at *;go_wp2_with fail;refine (HV.out _ HN1.out).mono ?_;rintro e w2 ⟨rfl,rfl⟩;go_wp2_with fail;refine (HL2.out _ HN1.out).mono ?_;rintro e w2 ⟨rfl,rfl⟩;clear hT hT4;go_wp2_with fail;refine (HCk.out _ HN1.out).mono ?_;rintro e w2 ⟨rfl,rfl⟩;cases k
   ·go_wp2_with fail
    go_ret3
    exact SectR.er (by rw [HXe.out];rfl) HN1.out
   ·go_wp2_with fail;refine (HCl.out _ HN1.out).mono ?_;rintro e w2 ⟨b',A',c',rfl,hO,hb',hN2⟩;have HO:=hid hO;have HN2:=hid hN2;clear hO hN2;go_wp2_with fail
    go_ret3
    rw [HXe.out];refine ⟨b',A',c',?_,?_,?_,?_⟩
    ·rw [HTo.out,HL22.out];rfl
    ·rw [HL22.out];exact HO.out
    ·exact Nat.le_trans HN1.out.size hb'
    ·exact HN1.out.trans HN2.out
end
section
open Go Go.RowKit Go.Lib
def UintR (w:World) (n:Nat) (X:Except Nat (Nat × List Nat)) (e:Ending) (w':World):Prop :=
 match X with
 | .ok (v,r)=>e=.returned (.tuple #[.int .u64 (v:Int),.int .i64 ((n - r.length:Nat):Int),.int .i64 0])∧w=w'
 | .error k=>(∃ v u,e=.returned (.tuple #[v,u,.int .i64 (k:Int)]))∧w=w'
set_option maxRecDepth 100000 in
theorem Uint1_any (w:World) (g p1 p2 b n c at_ most:Nat) (A:Option Addr) (xs:List Nat) (h:WSt w g A n c at_ 0) (h1:w.cell? ⟨p1,0,none⟩=some (.pointer (some ⟨g,0,none⟩))) (h2:w.cell? ⟨p2,0,none⟩=some (.int .u64 (most:Int)))
  (hn:n=xs.length) (hnc:n≤c) (hm:n≤1000000000) (hr:Rd w b A (cN .u8 xs)) (hx:∀ x∈xs,x < 256) (hat:at_≤n) :
  Calls Tryz.prog 250 #[.int .i64 (at_:Int),.pointer (some ⟨p1,0,none⟩),.pointer (some ⟨p2,0,none⟩)] w (UintR w n (uintP most (xs.drop at_))):=by
 have HV:=VGet_any w b A n c xs hn hnc hm hr hx at_ hat;have c0:=h.c0;unfold uintP;cases hv:vget0 (xs.drop at_) with
 | error k =>
  have hk:=vget_ext.nz hv;have hk1:((k:Int) == 0)=false:=by rw [beq_eq_false_iff_ne];omega
  rw [hv] at HV;have HV:=hid (show Calls Tryz.prog 104 #[.slice A n c,.int .i64 (at_:Int)] w fun e w'=>e=.returned (.tuple #[.int .u64 0,.int .i64 0,.int .i64 (k:Int)])∧w=w' from HV);clear h hn hr hx hv hk;go_enter Tryz.func250,Tryz.ntmps250
  go_wp2_with fail;refine HV.out.mono ?_;rintro e w2 ⟨rfl,rfl⟩;go_wp2_with fail
  go_ret3
  exact ⟨⟨_,_,rfl⟩,rfl⟩
 | ok q =>
  obtain ⟨v,r⟩:=q;dsimp only;obtain ⟨F,hF⟩:∃ F,n - r.length=F:=⟨_,rfl⟩;rw [hv] at HV;have HV:=hid (show Calls Tryz.prog 104 #[.slice A n c,.int .i64 (at_:Int)] w fun e w'=>e=.returned (.tuple #[.int .u64 (v:Int),.int .i64 (F:Int),.int .i64 0])∧w=w' from HV.mono fun e w' h=>⟨by rw [h.1,← hF];rfl,h.2⟩);have HF:=hid hF;by_cases hlt:most < v
  ·have hltI:(most:Int) < (v:Int):=by omega
   rw [if_pos hlt];clear h hn hr hx hv hF hlt;go_enter Tryz.func250,Tryz.ntmps250
   go_wp2_with fail;refine HV.out.mono ?_;rintro e w2 ⟨rfl,rfl⟩;go_wp2_with fail
   go_ret3
   exact ⟨⟨_,_,rfl⟩,rfl⟩
  ·have hltI:¬ (most:Int) < (v:Int):=by omega
   rw [if_neg hlt];clear h hn hr hx hv hF hlt;go_enter Tryz.func250,Tryz.ntmps250
   go_wp2_with fail;refine HV.out.mono ?_;rintro e w2 ⟨rfl,rfl⟩;go_wp2_with fail
   go_ret3
   exact ⟨by rw [HF.out];rfl,rfl⟩
def takeP (k:Nat) (bs:List Nat):Except Nat (List Nat × List Nat):=if bs.length < k then .error 3 else .ok (bs.take k,bs.drop k)
set_option maxRecDepth 100000 in
theorem Take1_any (w:World) (g p1 p2 b n c at_ k:Nat) (A:Option Addr) (xs:List Nat) (h:WSt w g A n c at_ 0) (h1:w.cell? ⟨p1,0,none⟩=some (.int .i64 (k:Int))) (h2:w.cell? ⟨p2,0,none⟩=some (.pointer (some ⟨g,0,none⟩)))
  (hn:n=xs.length) (hnc:n≤c) (hm:n≤1000000000) (hr:Rd w b A (cN .u8 xs)) (hat:at_≤n) (hk:k≤1000000000) (hkp:0 < k) :
  Calls Tryz.prog 240 #[.int .i64 (at_:Int),.pointer (some ⟨p1,0,none⟩),.pointer (some ⟨p2,0,none⟩)] w (SectR w n (takeP k (xs.drop at_))):=by
 have HL:=hid fun (W:World) (hN:Nw w W)=>Wleft_any W g n c at_ 0 at_ A (h.nw hN) hat hm
 have HH:=hid h;have H1:=hid fun (W:World) (hN:Nw w W)=>cell_keep hN h1
 have H2:=hid fun (W:World) (hN:Nw w W)=>cell_keep hN h2
 have hk0:¬ (k:Int) < 0:=by omega
 obtain ⟨L,hL⟩:∃ L,n - at_=L:=⟨_,rfl⟩;rw [hL] at HL;by_cases hlt:L < k
 ·have hltI:(L:Int) < (k:Int):=by omega
  have HX:=hid (show takeP k (xs.drop at_)=.error 3 by unfold takeP;rw [if_pos (by rw [List.length_drop];omega)]);generalize takeP k (xs.drop at_)=X at *;clear h hn hr hlt hL;go_enter Tryz.func240,Tryz.ntmps240
  go_wp2_with fail;go_quiet ((go_at_call 177;exact Calls.quiet_of_same ((HL.out _ (Nw.drewN _ _)).mono fun _ _ h=>⟨h.1,h.2.symm⟩)))
  go_wp2_with fail
  go_ret3
  exact SectR.er HX.out (Nw.drewN _ _)
 ·have hltI:¬ (L:Int) < (k:Int):=by omega
  obtain ⟨o,rfl,-,-⟩:=hr.get (k:=at_) (by simp;omega);have hca:¬ c=at_:=by omega
  obtain ⟨T,hT⟩:∃ T,at_+k=T:=⟨_,rfl⟩;have hTI:(at_:Int)+(k:Int)=(T:Int):=by omega
  have hTk:T - at_=k:=by omega
  have hTkI:(T:Int) - (at_:Int)=(k:Int):=by omega
  have ha1:at_≤T:=by omega
  have ha2:T≤c:=by omega
  have haI1:(at_:Int)≤(T:Int):=by omega
  have haI2:(T:Int)≤(c:Int):=by omega
  have haI3:(0:Int)≤(at_:Int):=by omega
  have haI4:(0:Int)≤(T:Int):=by omega
  have HWb:=hid (show -9223372036854775808≤(at_:Int)+(k:Int)∧(at_:Int)+(k:Int)≤9223372036854775807 by omega);have hl2:((xs.drop at_).take k).length=k:=by rw [List.length_take,List.length_drop];omega
  have HCl:=hid fun (W:World) (hN:Nw w W)=>CloneB_any W b (some ⟨b,o+at_,none⟩) k (c - at_) ((xs.drop at_).take k) hl2.symm (by omega) (by
   have:=((hr.nw hN).cut (k:=at_) (cap:=c) (size:=1) (by simp;omega)).take k;rw [if_neg hca] at this;simp only [Option.map_some,add_lit',Nat.mul_one] at this;unfold cN at this ⊢;rw [List.map_take,List.map_drop];exact this) (fun e=>by cases e)
  have HX:=hid (show takeP k (xs.drop at_)=.ok ((xs.drop at_).take k,xs.drop T) by unfold takeP;rw [if_neg (by rw [List.length_drop];omega),List.drop_drop,hT]);have HTo:Hid (n - (xs.drop T).length=T):=hid (by rw [List.length_drop];omega);have HL2:=hid hl2;generalize takeP k (xs.drop at_)=X at *;generalize (xs.drop at_).take k=ld at *;have c0:=h.c0;have HTT:=hid hT;clear h hn hr hlt hL hl2 hT;go_enter Tryz.func240,Tryz.ntmps240
  go_wp2_with fail;go_quiet ((go_at_call 177;exact Calls.quiet_of_same ((HL.out _ (Nw.drewN _ _)).mono fun _ _ h=>⟨h.1,h.2.symm⟩)))
  have hN1:=Nw.drewN w nq;have HN1:=hid hN1;have HH1:=hid (HH.out.nw hN1);have HP1:=hid (H1.out _ hN1);have HP2:=hid (H2.out _ hN1);clear hN1 h1 h2 c0;generalize World.drewN w nq=w1 at *;have c0:=HH1.out.c0;have h1:=HP1.out;have h2:=HP2.out;go_wp2_with fail;have H0:Hid (∀ W,Nw w1 W→W.cell? ⟨p1,0,none⟩=some (.int .i64 (k:Int))∧W.cell? ⟨p2,0,none⟩=some (.pointer (some ⟨g,0,none⟩))∧W.cell? ⟨g,0,none⟩=some (.slice (some ⟨b,o,none⟩) n c)):=hid fun W hN=>⟨cell_keep hN HP1.out,cell_keep hN HP2.out,(HH1.out.nw hN).c0⟩
  have E0:Hid ((w1.cell? ⟨p1,0,none⟩=some (.int .i64 (k:Int))∧w1.cell? ⟨p2,0,none⟩=some (.pointer (some ⟨g,0,none⟩))∧w1.cell? ⟨g,0,none⟩=some (.slice (some ⟨b,o,none⟩) n c))∧Nw w1 w1):=hid ⟨⟨h1,h2,c0⟩,Nw.refl w1⟩;have A1:Hid (∀ W,((W.cell? ⟨p1,0,none⟩=some (.int .i64 (k:Int))∧W.cell? ⟨p2,0,none⟩=some (.pointer (some ⟨g,0,none⟩))∧W.cell? ⟨g,0,none⟩=some (.slice (some ⟨b,o,none⟩) n c))∧Nw w1 W)→Calls Tryz.prog 174 #[.slice (some ⟨b,o+at_,none⟩) k (c - at_)] W fun e w'=>∃ b' A' c',e=.returned (.slice A' k c')∧Hid (Ow w' b' 5 1 A' k c' (cN .u8 ld)∧w1.heap.size≤b')∧((w'.cell? ⟨p1,0,none⟩=some (.int .i64 (k:Int))∧w'.cell? ⟨p2,0,none⟩=some (.pointer (some ⟨g,0,none⟩))∧w'.cell? ⟨g,0,none⟩=some (.slice (some ⟨b,o,none⟩) n c))∧Nw w1 w')):=hid fun W hS =>
   (HCl.out W (HN1.out.trans hS.2)).mono fun e w' ⟨b',A',c',h1,h2,h3,h4⟩=>⟨b',A',c',h1,hid ⟨h2,Nat.le_trans hS.2.size h3⟩,H0.out _ (hS.2.trans h4),hS.2.trans h4⟩
  have hWr:IntKind.i64.wrap ((at_:Int)+(k:Int))=(T:Int):=(IntWalk.i64_in _ HWb.out).trans hTI;have hWr2:IntKind.i64.wrap (T:Int)=(T:Int):=IntWalk.i64_in _ (by have:=HWb.out;rw [hTI] at this;exact this);go_region_held3 (fun w'=>(w'.cell? ⟨p1,0,none⟩=some (.int .i64 (k:Int))∧w'.cell? ⟨p2,0,none⟩=some (.pointer (some ⟨g,0,none⟩))∧w'.cell? ⟨g,0,none⟩=some (.slice (some ⟨b,o,none⟩) n c))∧Nw w1 w')
   (first | exact ⟨H0.out _ (Nw.drewN w1 1),Nw.drewN w1 1⟩ | exact E0.out | assumption)
   (first
    | (go_at_call 174;refine (A1.out _ (by assumption)).mono ?_;rintro e w5 ⟨b',A',c',rfl,HO,hS⟩))
  all_goals
   have hH:=hS.2;clear hWr hWr2;go_wp2_with fail
   go_ret3
   rw [HX.out];refine ⟨b',A',c',?_,?_,Nat.le_trans HN1.out.size HO.out.2,HN1.out.trans hH⟩
   ·rw [HTo.out,HL2.out];rfl
   ·rw [HL2.out];exact HO.out.1
def StrR (w:World) (n:Nat) (X:Except Nat (ByteArray × List Nat)) (e:Ending) (w':World):Prop :=
 match X with
 | .ok (v,r)=>e=.returned (.tuple #[.string v,.int .i64 ((n - r.length:Nat):Int),.int .i64 0])∧w=w'
 | .error k=>(∃ v u,e=.returned (.tuple #[v,u,.int .i64 (k:Int)]))∧w=w'
def strP (bs:List Nat):Except Nat (ByteArray × List Nat) :=
 xb (vget0 bs) fun p=>if 65535 < p.1 then .error 7 else if p.2.length < p.1 then .error 3 else .ok (bS (p.2.take p.1),p.2.drop p.1)
set_option maxRecDepth 100000 in
set_option maxHeartbeats 1000000 in
theorem Str1_any (w:World) (g p1 p2 b n c at_:Nat) (A:Option Addr) (xs:List Nat) (h:WSt w g A n c at_ 0) (h1:w.cell? ⟨p1,0,none⟩=some (.pointer (some ⟨g,0,none⟩))) (h2:w.cell? ⟨p2,0,none⟩=some (.int .i64 65535))
  (hn:n=xs.length) (hnc:n≤c) (hm:n≤1000000000) (hr:Rd w b A (cN .u8 xs)) (hx:∀ x∈xs,x < 256) (hat:at_≤n) :
  Calls Tryz.prog 176 #[.int .i64 (at_:Int),.pointer (some ⟨p1,0,none⟩),.pointer (some ⟨p2,0,none⟩)] w (StrR w n (strP (xs.drop at_))):=by
 have HV:=VGet_any w b A n c xs hn hnc hm hr hx at_ hat;have c0:=h.c0;unfold strP;cases hv:vget0 (xs.drop at_) with
 | error k =>
  have hk:=vget_ext.nz hv;have hk2:((k:Int) != 0)=true:=by rw [bne_iff_ne];omega
  rw [hv] at HV;have HV:=hid (show Calls Tryz.prog 104 #[.slice A n c,.int .i64 (at_:Int)] w fun e w'=>e=.returned (.tuple #[.int .u64 0,.int .i64 0,.int .i64 (k:Int)])∧w=w' from HV);clear h hn hr hx hv hk;go_enter Tryz.func176,Tryz.ntmps176
  go_wp2_with fail;refine HV.out.mono ?_;rintro e w2 ⟨rfl,rfl⟩;go_wp2_with fail
  go_ret3
  exact ⟨⟨_,_,rfl⟩,rfl⟩
 | ok q =>
  obtain ⟨v,r⟩:=q;obtain ⟨hr1,hr2,hr3⟩:=drop_sfx hv;rw [xb_ok];dsimp only;obtain ⟨F,hF⟩:∃ F,n - r.length=F:=⟨_,rfl⟩;have hvl:v < 18446744073709551616:=(varget_inv (fun x hx'=>hx x (List.mem_of_mem_drop hx')) hv).2;rw [hv] at HV;have HV:=hid (show Calls Tryz.prog 104 #[.slice A n c,.int .i64 (at_:Int)] w fun e w'=>e=.returned (.tuple #[.int .u64 (v:Int),.int .i64 (F:Int),.int .i64 0])∧w=w' from HV.mono fun e w' h=>⟨by rw [h.1,← hF];rfl,h.2⟩);have HL:=Wleft_any w g n c at_ 0 F A h (by omega) hm;rw [show n - F=r.length by omega] at HL;have HL:=hid HL;obtain ⟨L,hL⟩:∃ L,r.length=L:=⟨_,rfl⟩;rw [hL] at HL;by_cases h6:65535 < v
  ·have h6I:(65535:Int) < (v:Int):=by omega
   rw [if_pos h6];clear h hn hr hx hv hF h6 hL hr1 hr2 hvl;go_enter Tryz.func176,Tryz.ntmps176
   go_wp2_with fail;refine HV.out.mono ?_;rintro e w2 ⟨rfl,rfl⟩;go_wp2_with fail
   go_ret3
   exact ⟨⟨_,_,rfl⟩,rfl⟩
  ·have h6I:¬ (65535:Int) < (v:Int):=by omega
   have hLw:IntKind.u64.wrap (L:Int)=(L:Int):=IntWalk.u64_in _ (by omega);rw [if_neg h6];by_cases h7:r.length < v
   ·have h7I:(L:Int) < (v:Int):=by omega
    rw [if_pos h7];clear h hn hr hx hv hF h6 hL hr1 hr2 hvl h7;go_enter Tryz.func176,Tryz.ntmps176
    go_wp2_with fail;refine HV.out.mono ?_;rintro e w2 ⟨rfl,rfl⟩;go_wp2_with fail;refine HL.out.mono ?_;rintro e w2 ⟨rfl,rfl⟩;go_wp2_with fail
    go_ret3
    exact ⟨⟨_,_,rfl⟩,rfl⟩
   ·have h7I:¬ (L:Int) < (v:Int):=by omega
    rw [if_neg h7];obtain ⟨T,hT⟩:∃ T,F+v=T:=⟨_,rfl⟩;have hTI:(F:Int)+(v:Int)=(T:Int):=by omega
    have hTk:T - F=v:=by omega
    have hTkI:(T:Int) - (F:Int)=(v:Int):=by omega
    have haI1:(F:Int)≤(T:Int):=by omega
    have haI2:(T:Int)≤(c:Int):=by omega
    have hl2:(r.take v).length=v:=by rw [List.length_take];omega
    obtain ⟨o,rfl,-,-⟩:=hr.get (k:=at_) (by simp;omega);have hcut:=(hr.cut (k:=F) (cap:=c) (size:=1) (by simp;omega)).take v;have hcv:(convert 22 9 (.slice (if c=F then some ⟨b,o,none⟩ else some ⟨b,o+F,none⟩) v (c - F))).run Tryz.prog w=.ok (.string (bS (r.take v))) w:=run_str hl2.symm (by
     have:=hcut;simp only [Option.map_some,add_lit',Nat.mul_one] at this;unfold cN at this ⊢;rw [hr1,List.map_take,List.map_drop,show xs.length - r.length=F by omega];exact this)
    have HTo:Hid (n - (r.drop v).length=T):=hid (by rw [List.length_drop];omega);generalize r.take v=ld at *;have hvb:(v:Int)≤65535:=by omega
    have hTb:(T:Int)≤9223372036854775807:=by omega
    by_cases hcF:c=F
    ·rw [if_pos hcF] at hcv;have hv0:v=0:=by omega
     subst hv0;have hTF:T=F:=by omega
     rw [Nat.sub_eq_zero_of_le (show c≤F by omega)] at hcv;have HTF:=hid hTF;subst hTF;subst hcF;have h60:¬ (65535:Int) < 0:=by omega
     clear h hn hr hx hv hF h6 hL hr1 hr2 hvl h7 hT hcut hl2 hTI hTk hTkI HTF;go_enter Tryz.func176,Tryz.ntmps176
     go_wp2_with fail;refine HV.out.mono ?_;rintro e w2 ⟨rfl,rfl⟩;go_wp2_with fail;refine HL.out.mono ?_;rintro e w2 ⟨rfl,rfl⟩;go_wp2_with fail
     go_ret3
     exact ⟨by rw [HTo.out];rfl,rfl⟩
    ·rw [if_neg hcF] at hcv;clear h hn hr hx hv hF h6 hL hr1 hr2 hvl h7 hT hcut hl2;go_enter Tryz.func176,Tryz.ntmps176
     go_wp2_with fail;refine HV.out.mono ?_;rintro e w2 ⟨rfl,rfl⟩;go_wp2_with fail;refine HL.out.mono ?_;rintro e w2 ⟨rfl,rfl⟩;go_wp2_with fail
     go_ret3
     exact ⟨by rw [HTo.out];rfl,rfl⟩
end
end Go.Proofs.YtmmonehfnfbpbaaGreatDoor
