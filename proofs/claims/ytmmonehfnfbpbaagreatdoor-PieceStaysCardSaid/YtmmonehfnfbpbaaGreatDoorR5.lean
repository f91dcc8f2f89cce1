/- Laws that the last text builds on. -/
import Derived.Test.YtmmonehfnfbpbaaGreatDoorR4
import Derived.Test.YtmmonehfnfbpbaaGreatDoorChecked
namespace Go.Proofs.YtmmonehfnfbpbaaGreatDoor
open Go.Lib(hid)
section
open Go Go.RowKit Go.Sort
def Dv (w:World) (b c:Nat) (d:Array Nat):Prop:=Ow w b 97 1 (some ⟨b,0,none⟩) d.size c (cN .u64 d.toList)
section
variable {w w':World} {b c:Nat} {d:Array Nat}
theorem Dv.nw (h:Dv w b c d) (hk:Nw w w'):Dv w' b c d:=Ow.nw h hk
theorem Dv.kp {g g':Nat} (h:Dv w b c d) (hk:Kp g g' w w') (h1:b≠g) (h2:b≠g'):Dv w' b c d:=Ow.kp h hk h1 h2
theorem Dv.lt (h:Dv w b c d):b < w.heap.size:=by
 rcases h with ⟨h,_⟩ | ⟨_,h,_⟩
 ·cases h
 ·exact h
theorem Dv.cell (h:Dv w b c d) {j:Nat} (hj:j < d.size):w.cell? ⟨b,j,none⟩=some (.int .u64 (d[j]! : Nat)):=by
 obtain ⟨_,_,hc,_⟩:=Ow.at_ h (j:=j) (by omega);rw [hc,List.getElem?_map,Array.getElem?_toList,Array.getElem?_eq_getElem hj,getElem!_pos d j hj];rfl
theorem Dv.free (h:Dv w b c d) (j:Nat) (hj:j < d.size):w.frozen? ⟨b,j,none⟩=false:=(Ow.at_ h (j:=j) (by omega)).2.2.2
theorem Dv.swap (h:Dv w b c d) (i j:Nat):Dv ((w.setCell ⟨b,i,none⟩ (.int .u64 (d[j]! : Nat))).setCell ⟨b,j,none⟩ (.int .u64 (d[i]! : Nat))) b c (swp d i j):=by
 have h1:=(Ow.set_ h i (.int .u64 (d[j]! : Nat))).set_ j (.int .u64 (d[i]! : Nat));unfold Dv;have e:cN .u64 (swp d i j).toList=((cN .u64 d.toList).set i (.int .u64 (d[j]! : Nat))).set j (.int .u64 (d[i]! : Nat)):=by
  unfold swp;rw [Array.toList_setIfInBounds,Array.toList_setIfInBounds];unfold cN;rw [List.map_set,List.map_set]
 rw [e,show (swp d i j).size=d.size from by simp [swp]];exact h1
end
theorem insertionSort_any (w:World) (b c x y:Nat) (d:Array Nat) (hH:Dv w b c d) (hxy:x≤y) (hy:y≤d.size) (hsz:d.size < 4611686018427387904) :
  Calls Tryz.prog 332 #[.slice (some ⟨b,0,none⟩) d.size c,.int .i64 (x:Int),.int .i64 (y:Int)] w fun e w' =>
   e=.returned (.tuple #[])∧Dv w' b c (Sort.insertionSort ltN d x y)∧Kp b b w w':=by
 go_enter Tryz.func332,Tryz.ntmps332
 go_wp2;go_loopw [6] (fun vi wr=>∃ (i:Nat) (dk:Array Nat),vi=.int .i64 i∧x < i∧i≤y+1∧dk.size=d.size∧Dv wr b c dk∧Kp b b w wr ∧
   insOuter ltN x y i dk=insOuter ltN x y (x+1) d) (fun vi _=>y+1 - (intOf vi).toNat)
 case atStart=>exact ⟨x+1,d,by go_num,by omega,by omega,rfl,hH,Kp.refl _ _ _,rfl⟩
 case round =>
  obtain ⟨i,dk,rfl,hai,hib,hsk,hD,hK,hO⟩:=hrel;have HO:=hid hO;have HS:=hid hsk;clear hO hH hsk;by_cases hlt:i < y
  ·go_wp2;go_loopw [7] (fun vj wr2=>∃ (j:Nat) (dj:Array Nat),vj=.int .i64 j∧x≤j∧j≤i∧dj.size=d.size∧Dv wr2 b c dj∧Kp b b w wr2 ∧
     insInner ltN x j dj=insInner ltN x i dk) (fun vj _=>(intOf vj).toNat)
   case atStart=>exact ⟨i,dk,rfl,by omega,Nat.le_refl _,HS.out,hD,hK,rfl⟩
   case round =>
    obtain ⟨j,dj,rfl,haj,hji,hsj,hDj,hKj,hI⟩:=hrel;have HSJ:=hid hsj;have HI:=hid hI;have HD:=hid hDj;have hjs:j < d.size:=by omega
    clear hsj hI hD hDj hK;have out:(j≤x∨ltN dj[j]! dj[j - 1]! = false)→insOuter ltN x y (i+1) dj=insOuter ltN x y (x+1) d:=fun hs=>by
     rw [← HO.out,insOuter_go _ _ _ _ _ hlt,← HI.out,insInner_stop _ _ _ _ hs]
    have OUT:=hid out;clear out;by_cases hja:x < j
    ·obtain ⟨k,rfl⟩:∃ k,j=k+1:=⟨j - 1,by omega⟩;have hck:=HD.out.cell (j:=k) (by have:=HSJ.out;omega);have hck1:=HD.out.cell (j:=k+1) (by have:=HSJ.out;omega);have hfk:=HD.out.free k (by have:=HSJ.out;omega);have hfk1:=HD.out.free (k+1) (by have:=HSJ.out;omega);have hgt:(x:Int) < ((k+1:Nat):Int):=by omega
     have hgt2:(x:Int) < (k:Int)+1:=by omega
     have i0:(0:Int)≤(k:Int)+1:=by omega
     have i1:(k:Int)+1 < (d.size:Int):=by omega
     have i2:((k:Int)+1).toNat=k+1:=by omega
     have i3:(k:Int) < (d.size:Int):=by omega
     have e1:IntKind.i64.wrap (k:Int)=(k:Int):=IntWalk.i64_in _ (by omega);obtain ⟨p,hp⟩:∃ p,p=dj[k]!:=⟨_,rfl⟩;obtain ⟨q,hq⟩:∃ q,q=dj[k+1]!:=⟨_,rfl⟩;rw [← hp] at hck;rw [← hq] at hck1;have HPQ:=hid (And.intro hp hq);clear hp hq;by_cases hcmp:q < p
     ·go_wp2;go_quiet ((go_at_call 309;exact Calls.quiet_of_same ((Less_any _ _ _).mono fun _ _ h=>⟨h.1,h.2.symm⟩)))
      go_wp2;go_region
      all_goals go_wp2
      go_roundw
      case rel =>
       obtain ⟨hp,hq⟩:=HPQ.out;refine ⟨k,swp dj (k+1) k,rfl,by omega,by omega,by rw [size_swp];exact HSJ.out,?_,((hKj.drewN' (nq+1)).setCell' (.inl rfl) _).setCell' (.inl rfl) _,?_⟩
       ·rw [hp,hq];exact (HD.out.nw (Nw.drewN wr (nq+1))).swap (k+1) k
       ·rw [← HI.out,insInner_go ltN x (k+1) dj hja (by simp only [Nat.add_sub_cancel];rw [decide_eq_true_iff];omega)];rfl
      case measure=>simp [intOf]
     ·go_wp2;go_quiet ((go_at_call 309;exact Calls.quiet_of_same ((Less_any _ _ _).mono fun _ _ h=>⟨h.1,h.2.symm⟩)))
      go_wp2;go_roundw
      case rel =>
       obtain ⟨hp,hq⟩:=HPQ.out;exact ⟨i+1,dj,by go_num,by omega,by omega,HSJ.out,HD.out.nw (Nw.drewN wr nq),hKj.drewN' nq,OUT.out (.inr (by simp only [Nat.add_sub_cancel];rw [decide_eq_false_iff_not];omega))⟩
      case measure=>simp [intOf];omega
    ·have hd0:decide ((x:Int) < (j:Int))=false:=by rw [decide_eq_false_iff_not];omega
     go_wp2;go_quiet (fail)
     go_wp2;go_roundw
     case rel=>exact ⟨i+1,dj,by go_num,by omega,by omega,HSJ.out,HD.out.nw (Nw.drewN wr nq),hKj.drewN' nq,OUT.out (.inl (by omega))⟩
     case measure=>simp [intOf];omega
  ·go_wp2;go_end0
   exact ⟨rfl,by unfold Sort.insertionSort;rw [← HO.out,insOuter_stop _ _ _ _ _ hlt];exact hD,hK⟩
theorem reverseRange_any (w:World) (b c x y:Nat) (d:Array Nat) (hH:Dv w b c d) (hxy:x < y) (hy:y≤d.size) (hsz:d.size < 4611686018427387904) :
  Calls Tryz.prog 336 #[.slice (some ⟨b,0,none⟩) d.size c,.int .i64 (x:Int),.int .i64 (y:Int)] w fun e w' =>
   e=.returned (.tuple #[])∧Dv w' b c (Sort.reverseRange d x y)∧Kp b b w w':=by
 go_enter Tryz.func336,Tryz.ntmps336
 go_wp2;go_loopw [6,7] (fun vi vj wr=>∃ (i j:Nat) (dk:Array Nat),vi=.int .i64 i∧vj=.int .i64 j∧x≤i∧i≤j+1∧j < y∧dk.size=d.size∧Dv wr b c dk∧Kp b b w wr ∧
   reverseLoop i j dk=reverseLoop x (y - 1) d) (fun vi vj _=>(intOf vj+1 - intOf vi).toNat)
 case atStart=>exact ⟨x,y - 1,d,rfl,by go_num,by omega,by omega,by omega,rfl,hH,Kp.refl _ _ _,rfl⟩
 case round =>
  obtain ⟨i,j,dk,rfl,rfl,h1,h2,h3,hsk,hD,hK,hO⟩:=hrel;have HO:=hid hO;have HS:=hid hsk;have hjs:j < d.size:=by omega
  have HD:=hid hD;clear hO hH hsk hD;by_cases hlt:i < j
  ·have hck:=HD.out.cell (j:=i) (by have:=HS.out;omega);have hck1:=HD.out.cell (j:=j) (by have:=HS.out;omega);have hfk:=HD.out.free i (by have:=HS.out;omega);have hfk1:=HD.out.free j (by have:=HS.out;omega);obtain ⟨p,hp⟩:∃ p,p=dk[i]!:=⟨_,rfl⟩;obtain ⟨q,hq⟩:∃ q,q=dk[j]!:=⟨_,rfl⟩;rw [← hp] at hck;rw [← hq] at hck1;have HPQ:=hid (And.intro hp hq);clear hp hq;have i0:(i:Int) < (d.size:Int):=by omega
   have i1:(j:Int) < (d.size:Int):=by omega
   have hne1:¬ i=j:=by omega
   have hne2:¬ j=i:=by omega
   have HN:=hid (show reverseLoop i j dk=reverseLoop (i+1) (j - 1) (swp dk i j) from by rw [reverseLoop,if_pos hlt]);go_wp2;go_region
   all_goals go_wp2
   go_roundw
   case rel =>
    obtain ⟨hp,hq⟩:=HPQ.out;refine ⟨i+1,j - 1,swp dk i j,by go_num,by go_num,by omega,by omega,by omega,by rw [size_swp];exact HS.out,?_,((hK.drewN' 1).setCell' (.inl rfl) _).setCell' (.inl rfl) _,by rw [← HO.out,HN.out]⟩;rw [hp,hq];exact (HD.out.nw (Nw.drewN wr 1)).swap i j
   case measure=>simp [intOf];omega
  ·have HN:=hid (show reverseLoop i j dk=dk from by rw [reverseLoop,if_neg hlt]);go_wp2;go_end0
   exact ⟨rfl,by unfold Sort.reverseRange;rw [← HO.out,HN.out];exact HD.out,hK⟩
end
section
open Go Go.RowKit Go.Sort
set_option maxRecDepth 100000 in
set_option maxHeartbeats 1600000 in
theorem siftDown_any (w:World) (b c lo hi F:Nat) (d:Array Nat) (hH:Dv w b c d) (hF:F+hi≤d.size) (hlo:lo≤hi) (hsz:d.size < 2305843009213693951) :
  Calls Tryz.prog 343 #[.slice (some ⟨b,0,none⟩) d.size c,.int .i64 (lo:Int),.int .i64 (hi:Int),.int .i64 (F:Int)] w fun e w' =>
   e=.returned (.tuple #[])∧Dv w' b c (Sort.siftDown ltN hi F lo d)∧Kp b b w w':=by
 go_enter Tryz.func343,Tryz.ntmps343
 go_wp2;go_loopw [8] (fun vr wr=>∃ (r:Nat) (dk:Array Nat),vr=.int .i64 r∧r≤hi∧dk.size=d.size∧Dv wr b c dk∧Kp b b w wr∧siftDown ltN hi F r dk=siftDown ltN hi F lo d) (fun vr _=>(hi - intOf vr).toNat)
 case atStart=>exact ⟨lo,d,rfl,hlo,rfl,hH,Kp.refl _ _ _,rfl⟩
 case round =>
  obtain ⟨r,dk,rfl,hr,hsk,hD,hK,hO⟩:=hrel;have HO:=hid hO;have HS:=hid hsk;have HD:=hid hD;clear hO hH hsk hD;obtain ⟨ch,hch⟩:∃ ch,ch=2*r+1:=⟨_,rfl⟩;have e0:2*(r:Int)+1=(ch:Int):=by omega
  have HCH:=hid hch;have hchr:r < ch:=by omega
  have hch2:ch≤2*r+1:=by omega
  clear hch;by_cases hend:hi≤ch
  ·go_wp2;go_end0
   exact ⟨rfl,by rw [← HO.out,sd_end _ _ (by have:=HCH.out;omega)];exact HD.out,hK⟩
  ·have hlt:ch < hi:=by omega
   have hrs:F+r < d.size:=by omega
   have hcs:F+ch < d.size:=by omega
   have hckr:=HD.out.cell (j:=F+r) (by have:=HS.out;omega);have hckc:=HD.out.cell (j:=F+ch) (by have:=HS.out;omega);have hfr:=HD.out.free (F+r) (by have:=HS.out;omega);have hfc:=HD.out.free (F+ch) (by have:=HS.out;omega);obtain ⟨pr,hpr⟩:∃ p,p=dk[F+r]!:=⟨_,rfl⟩;obtain ⟨pc,hpc⟩:∃ p,p=dk[F+ch]!:=⟨_,rfl⟩;rw [← hpr] at hckr;rw [← hpc] at hckc;have HPR:=hid hpr;have HPC:=hid hpc;clear hpr hpc;obtain ⟨ir,hir⟩:∃ i,i=F+r:=⟨_,rfl⟩;obtain ⟨ic,hic⟩:∃ i,i=F+ch:=⟨_,rfl⟩;have er:(F:Int)+(r:Int)=(ir:Int):=by omega
   have ec:(F:Int)+(ch:Int)=(ic:Int):=by omega
   rw [← hir] at hckr hfr;rw [← hic] at hckc hfc;have hirs:ir < d.size:=by omega
   have hics:ic < d.size:=by omega
   have hirc:ir < ic:=by omega
   have HIR:=hid hir;have HIC:=hid hic;clear hir hic;have wr1:IntKind.i64.wrap (ir:Int)=(ir:Int):=IntWalk.i64_in _ (by omega);have wc1:IntKind.i64.wrap (ic:Int)=(ic:Int):=IntWalk.i64_in _ (by omega);have ir1:(ir:Int) < (d.size:Int):=by omega
   have ic1:(ic:Int) < (d.size:Int):=by omega
   have hne1:¬ ir=ic:=by omega
   have hne2:¬ ic=ir:=by omega
   by_cases hr2:ch+1 < hi
   ·obtain ⟨cg,hcg⟩:∃ cg,cg=ch+1:=⟨_,rfl⟩;obtain ⟨ig,hig⟩:∃ ig,ig=ic+1:=⟨_,rfl⟩;have hgs:F+cg < d.size:=by omega
    have HIG:=hid (show ig=F+(ch+1) from by have:=HIC.out;omega);have hckg:=HD.out.cell (j:=ig) (by have:=HS.out;have:=HIC.out;omega);have hfg:=HD.out.free ig (by have:=HS.out;have:=HIC.out;omega);obtain ⟨pg,hpg⟩:∃ p,p=dk[ig]!:=⟨_,rfl⟩;rw [← hpg] at hckg;have HPG:=hid (show pg=dk[F+(ch+1)]! from by rw [hpg,HIG.out]);have eg:(ch:Int)+1=(cg:Int):=by omega
    have eg2:(ic:Int)+1=(ig:Int):=by omega
    have eg3:(F:Int)+(cg:Int)=(ig:Int):=by omega
    have wg1:IntKind.i64.wrap (ig:Int)=(ig:Int):=IntWalk.i64_in _ (by omega);have wg2:IntKind.i64.wrap (cg:Int)=(cg:Int):=IntWalk.i64_in _ (by omega);have ig1:(ig:Int) < (d.size:Int):=by have:=HIC.out;omega
    have hg:(cg:Int) < (hi:Int):=by omega
    have hne3:¬ ir=ig:=by omega
    have hne4:¬ ig=ir:=by omega
    have HCG:=hid hcg;have hcr2:r < cg:=by omega
    have hcg2:cg≤hi:=by omega
    clear hcg hig hpg;by_cases hpick:pc < pg
    ·by_cases hcmp:pr < pg
     ·go_wp2;go_quiet ((go_at_call 309;exact quiet1 (Less_any _ _ _)))
      go_wp2;go_quiet ((go_at_call 309;exact quiet2 (Less_any _ _ _)))
      go_wp2;go_region
      all_goals go_wp2
      go_roundw
      case rel =>
       have h1:=HPR.out;have h2:=HPG.out;have h3:=HIR.out;have h4:=HIG.out;have h5:=HCH.out;refine ⟨cg,swp dk (F+r) (F+(ch+1)),rfl,by omega,by rw [size_swp];exact HS.out,?_,((hK.drewN' _).setCell' (.inl rfl) _).setCell' (.inl rfl) _,?_⟩
       ·rw [h1,h2,h3,h4];exact (HD.out.nw (Nw.drewN wr _)).swap (F+r) (F+(ch+1))
       ·rw [← HO.out];subst h5;subst h3;subst h4;refine Eq.symm ?_;have h6:=HPC.out;have h7:=HCG.out;subst h7;exact sd_right_go ltN dk (by omega) (by rw [decide_eq_true_iff];rw [h6,h2] at hpick;exact hpick) (by rw [decide_eq_true_iff];rw [h1,h2] at hcmp;exact hcmp)
      case measure=>simp [intOf];omega
     ·go_wp2;go_quiet ((go_at_call 309;exact quiet1 (Less_any _ _ _)))
      go_wp2;go_quiet ((go_at_call 309;exact quiet2 (Less_any _ _ _)))
      go_wp2
      (try simp only [Exit.inBlock,Exit.then])
      refine bodyPost_ret (results_none rfl _ _ _) rfl ?_;have h1:=HPR.out;have h2:=HPG.out;have h3:=HIR.out;have h4:=HIG.out;have h5:=HCH.out;refine ⟨rfl,?_,(hK.drewN' _).drewN' _⟩;rw [← HO.out];subst h5;subst h3;subst h4;rw [sd_right_stop ltN dk (by omega) (by rw [decide_eq_true_iff];have h6:=HPC.out;rw [h6,h2] at hpick;exact hpick) (by rw [decide_eq_false_iff_not];rw [h1,h2] at hcmp;exact hcmp)];exact HD.out.nw (Nw.drewN' (Nw.drewN wr _) _)
    ·by_cases hcmp:pr < pc
     ·go_wp2;go_quiet ((go_at_call 309;exact quiet1 (Less_any _ _ _)))
      go_wp2;go_quiet ((go_at_call 309;exact quiet2 (Less_any _ _ _)))
      go_wp2;go_region
      all_goals go_wp2
      go_roundw
      case rel =>
       have h1:=HPR.out;have h2:=HPC.out;have h3:=HIR.out;have h4:=HIC.out;have h5:=HCH.out;refine ⟨ch,swp dk (F+r) (F+ch),rfl,by omega,by rw [size_swp];exact HS.out,?_,((hK.drewN' _).setCell' (.inl rfl) _).setCell' (.inl rfl) _,?_⟩
       ·rw [h1,h2,h3,h4];exact (HD.out.nw (Nw.drewN wr _)).swap (F+r) (F+ch)
       ·rw [← HO.out];subst h5;subst h3;subst h4;exact (sd_left_go ltN dk (by omega) (fun _=>by rw [decide_eq_false_iff_not];have h6:=HPG.out;rw [h2,h6] at hpick;exact hpick) (by rw [decide_eq_true_iff];rw [h1,h2] at hcmp;exact hcmp)).symm
      case measure=>simp [intOf];omega
     ·go_wp2;go_quiet ((go_at_call 309;exact quiet1 (Less_any _ _ _)))
      go_wp2;go_quiet ((go_at_call 309;exact quiet2 (Less_any _ _ _)))
      go_wp2
      (try simp only [Exit.inBlock,Exit.then])
      refine bodyPost_ret (results_none rfl _ _ _) rfl ?_;have h1:=HPR.out;have h2:=HPC.out;have h3:=HIR.out;have h4:=HIC.out;have h5:=HCH.out;refine ⟨rfl,?_,(hK.drewN' _).drewN' _⟩;rw [← HO.out];subst h5;subst h3;subst h4;rw [sd_left_stop ltN dk (by omega) (fun _=>by rw [decide_eq_false_iff_not];have h6:=HPG.out;rw [h2,h6] at hpick;exact hpick) (by rw [decide_eq_false_iff_not];rw [h1,h2] at hcmp;exact hcmp)];exact HD.out.nw (Nw.drewN' (Nw.drewN wr _) _)
   ·have hg:decide ((ch:Int)+1 < (hi:Int))=false:=by rw [decide_eq_false_iff_not];omega
    by_cases hcmp:pr < pc
    ·go_wp2;go_quiet (fail)
     go_wp2;go_quiet ((go_at_call 309;exact quiet2 (Less_any _ _ _)))
     go_wp2;go_region
     all_goals go_wp2
     go_roundw
     case rel =>
      have h1:=HPR.out;have h2:=HPC.out;have h3:=HIR.out;have h4:=HIC.out;have h5:=HCH.out;refine ⟨ch,swp dk (F+r) (F+ch),rfl,by omega,by rw [size_swp];exact HS.out,?_,((hK.drewN' _).setCell' (.inl rfl) _).setCell' (.inl rfl) _,?_⟩
      ·rw [h1,h2,h3,h4];exact (HD.out.nw (Nw.drewN wr _)).swap (F+r) (F+ch)
      ·rw [← HO.out];subst h5;subst h3;subst h4;exact (sd_left_go ltN dk (by omega) (fun h=>by omega) (by rw [decide_eq_true_iff];rw [h1,h2] at hcmp;exact hcmp)).symm
     case measure=>simp [intOf];omega
    ·go_wp2;go_quiet (fail)
     go_wp2;go_quiet ((go_at_call 309;exact quiet2 (Less_any _ _ _)))
     go_wp2
     (try simp only [Exit.inBlock,Exit.then])
     refine bodyPost_ret (results_none rfl _ _ _) rfl ?_;have h1:=HPR.out;have h2:=HPC.out;have h3:=HIR.out;have h4:=HIC.out;have h5:=HCH.out;refine ⟨rfl,?_,(hK.drewN' _).drewN' _⟩;rw [← HO.out];subst h5;subst h3;subst h4;rw [sd_left_stop ltN dk (by omega) (fun h=>by omega) (by rw [decide_eq_false_iff_not];rw [h1,h2] at hcmp;exact hcmp)];exact HD.out.nw (Nw.drewN' (Nw.drewN wr _) _)
set_option maxHeartbeats 1600000 in
theorem heapSort_any (w:World) (b c x y:Nat) (d:Array Nat) (hH:Dv w b c d) (hxy:x≤y) (hy:y≤d.size) (hsz:d.size < 2305843009213693951) :
  Calls Tryz.prog 333 #[.slice (some ⟨b,0,none⟩) d.size c,.int .i64 (x:Int),.int .i64 (y:Int)] w fun e w' =>
   e=.returned (.tuple #[])∧Dv w' b c (Sort.heapSort ltN d x y)∧Kp b b w w':=by
 obtain ⟨hi,hyy⟩:∃ hi,hi=y - x:=⟨y - x,rfl⟩;have e0:(y:Int) - (x:Int)=(hi:Int):=by omega
 have HF:x+hi≤d.size:=by omega
 have HYY:=hid hyy;clear hyy;have hini:((hi:Int) - 1).tdiv 2=(((hi - 1) / 2+1:Nat):Int) - 1:=by
  have:=half_start (a:=0) (b:=hi) (by omega);simpa using this
 have HINI:=hid hini;clear hini;go_enter Tryz.func333,Tryz.ntmps333
 go_wp2;go_loopw [9] (fun vi wr=>∃ (k:Nat) (dk:Array Nat),vi=.int .i64 ((k:Int) - 1)∧k≤(hi - 1) / 2+1∧dk.size=d.size∧Dv wr b c dk∧Kp b b w wr∧heapBuild ltN hi x k dk=heapBuild ltN hi x ((hi - 1) / 2+1) d) (fun vi _=>(intOf vi+1).toNat)
 case atStart =>
  refine ⟨(hi - 1) / 2+1,d,?_,Nat.le_refl _,rfl,hH,Kp.refl _ _ _,rfl⟩;rw [← HINI.out]
 case round =>
  obtain ⟨k,dk,rfl,hk,hsk,hD,hK,hO⟩:=hrel;have HO:=hid hO;have HS:=hid hsk;clear hO hH hsk;cases k with
  | zero =>
   have ez:((0:Nat):Int) - 1 = -1:=rfl;rw [ez];clear ez;go_wp2;go_loopw [10] (fun vi wr=>∃ (k:Nat) (dk:Array Nat),vi=.int .i64 ((k:Int) - 1)∧k≤hi∧dk.size=d.size∧Dv wr b c dk∧Kp b b w wr∧heapPop ltN x k dk=Sort.heapSort ltN d x y) (fun vi _=>(intOf vi+1).toNat)
   case atStart =>
    refine ⟨hi,dk,rfl,Nat.le_refl _,HS.out,hD,hK,?_⟩;unfold Sort.heapSort;rw [← HYY.out,← HO.out];rfl
   case round =>
    clear hD hK HO HS;obtain ⟨k,dk,rfl,hk,hsk,hD,hK,hO⟩:=hrel;have HO:=hid hO;have HS:=hid hsk;clear hO hsk;cases k with
    | zero =>
     go_wp2;go_end0
     exact ⟨rfl,by rw [← HO.out];exact hD,hK⟩
    | succ k =>
     have ek:((k+1:Nat):Int) - 1=(k:Int):=by omega
     rw [ek];clear ek;rcases Nat.eq_zero_or_pos k with rfl | hk0
     ·have hxs:x < d.size:=by omega
      have hxx:=hD.cell (j:=x) (by have:=HS.out;omega);have hfx:=hD.free x (by have:=HS.out;omega);obtain ⟨q,hq⟩:∃ q,q=dk[x]!:=⟨_,rfl⟩;rw [← hq] at hxx;have HQ:=hid hq;have HD:=hid hD;have i2:(x:Int) < (d.size:Int):=by omega
      have w1:IntKind.i64.wrap (x:Int)=(x:Int):=IntWalk.i64_in _ (by omega);clear hq hD;have hsd:∀ W,Dv W b c (swp dk x x)→Calls Tryz.prog 343 #[.slice (some ⟨b,0,none⟩) d.size c,.int .i64 0,.int .i64 0,.int .i64 (x:Int)] W fun e w' =>
        e=.returned (.tuple #[])∧Dv w' b c (Sort.siftDown ltN 0 x 0 (swp dk x x))∧Kp b b W w':=by
       intro W hW;have hs:(swp dk x x).size=d.size:=by rw [size_swp];exact HS.out
       have:=siftDown_any W b c 0 0 x (swp dk x x) hW (by rw [hs];omega) (by omega) (by rw [hs];omega);rw [hs] at this;exact this
      have HSD:=hid hsd;clear hsd;have hDs:Dv ((wr.setCell ⟨b,x,none⟩ (.int .u64 (q:Int))).setCell ⟨b,x,none⟩ (.int .u64 (q:Int))).drew b c (swp dk x x):=by
       have h2:=HD.out.swap x x;rw [← HQ.out] at h2;exact h2.nw (Nw.drewN _ 1)
      have HDS:=hid hDs;clear hDs;have hKs:Kp b b w ((wr.setCell ⟨b,x,none⟩ (.int .u64 (q:Int))).setCell ⟨b,x,none⟩ (.int .u64 (q:Int))).drew:=((hK.setCell' (.inl rfl) _).setCell' (.inl rfl) _).drewN' 1;have HKS:=hid hKs;clear hKs;go_wp2;go_region
      all_goals go_wp2_with fail
      refine (HSD.out _ HDS.out).mono ?_;rintro e w1 ⟨rfl,hD1,hK1⟩;go_wp2;go_roundw
      case rel =>
       refine ⟨0,_,rfl,by omega,by rw [size_siftDown ltN 0 x _ 0 _ (Nat.le_refl _),size_swp];exact HS.out,hD1,HKS.out.trans hK1 (.inl rfl) (.inl rfl),?_⟩;rw [← HO.out];rfl
      case measure=>simp [intOf]
     ·obtain ⟨ik,hik⟩:∃ i,i=x+k:=⟨_,rfl⟩;have e1:(x:Int)+(k:Int)=(ik:Int):=by omega
      have hiks:ik < d.size:=by omega
      have hxs:x < d.size:=by omega
      have hxk:=hD.cell (j:=ik) (by have:=HS.out;omega);have hxx:=hD.cell (j:=x) (by have:=HS.out;omega);have hfk:=hD.free ik (by have:=HS.out;omega);have hfx:=hD.free x (by have:=HS.out;omega);obtain ⟨p,hp⟩:∃ p,p=dk[ik]!:=⟨_,rfl⟩;obtain ⟨q,hq⟩:∃ q,q=dk[x]!:=⟨_,rfl⟩;rw [← hp] at hxk;rw [← hq] at hxx;have HPQ:=hid (And.intro hp hq);have HIK:=hid hik;have HD:=hid hD;have i1:(ik:Int) < (d.size:Int):=by omega
      have i2:(x:Int) < (d.size:Int):=by omega
      have w1:IntKind.i64.wrap (ik:Int)=(ik:Int):=IntWalk.i64_in _ (by omega);clear hp hq hik hD;have hsd:∀ W,Dv W b c (swp dk x ik)→Calls Tryz.prog 343 #[.slice (some ⟨b,0,none⟩) d.size c,.int .i64 0,.int .i64 (k:Int),.int .i64 (x:Int)] W fun e w' =>
        e=.returned (.tuple #[])∧Dv w' b c (Sort.siftDown ltN k x 0 (swp dk x ik))∧Kp b b W w':=by
       intro W hW;have hs:(swp dk x ik).size=d.size:=by rw [size_swp];exact HS.out
       have:=siftDown_any W b c 0 k x (swp dk x ik) hW (by rw [hs];omega) (by omega) (by rw [hs];omega);rw [hs] at this;exact this
      have HSD:=hid hsd;clear hsd;have hne1:¬ x=ik:=by omega
      have hne2:¬ ik=x:=by omega
      have hDs:Dv ((wr.setCell ⟨b,x,none⟩ (.int .u64 (p:Int))).setCell ⟨b,ik,none⟩ (.int .u64 (q:Int))).drew b c (swp dk x ik):=by
       obtain ⟨hp,hq⟩:=HPQ.out;rw [hp,hq];exact (HD.out.swap x ik).nw (Nw.drewN _ 1)
      have HDS:=hid hDs;clear hDs;have hKs:Kp b b w ((wr.setCell ⟨b,x,none⟩ (.int .u64 (p:Int))).setCell ⟨b,ik,none⟩ (.int .u64 (q:Int))).drew:=((hK.setCell' (.inl rfl) _).setCell' (.inl rfl) _).drewN' 1;have HKS:=hid hKs;clear hKs;go_wp2;go_region
      all_goals go_wp2_with fail
      refine (HSD.out _ HDS.out).mono ?_;rintro e w1 ⟨rfl,hD1,hK1⟩;go_wp2;go_roundw
      case rel =>
       refine ⟨k,_,rfl,by omega,by rw [size_siftDown ltN k x _ 0 _ (Nat.le_refl _),size_swp];exact HS.out,hD1,HKS.out.trans hK1 (.inl rfl) (.inl rfl),?_⟩;have h1:=HIK.out;rw [← HO.out];show _=heapPop ltN x k (siftDown ltN k x 0 (swp dk x (x+k)))
       rw [h1]
      case measure=>simp [intOf]
  | succ k =>
   have ek:((k+1:Nat):Int) - 1=(k:Int):=by omega
   rw [ek];clear ek;have hsd:=siftDown_any wr b c k hi x dk hD (by have:=HS.out;omega) (by omega) (by have:=HS.out;omega);rw [HS.out] at hsd;have HSD:=hid hsd;clear hsd hD;go_wp2_with (go_at_call 343;refine HSD.out.mono ?_;rintro e w1 ⟨rfl,hD1,hK1⟩)
   go_roundw
   case rel=>exact ⟨k,_,rfl,by omega,by rw [size_siftDown ltN hi x _ k dk (Nat.le_refl _)];exact HS.out,hD1,hK.trans hK1 (.inl rfl) (.inl rfl),HO.out⟩
   case measure=>simp [intOf]
end
section
open Go Go.RowKit Go.Sort
theorem sw_cell {w:World} {p q:Addr} {u v:Value} (h:w.cell? q=some v):∃ v',(w.setCell p u).cell? q=some v':=cell?_setCell_some (w:=w) (p:=p) (x:=u) (q:=q) (v:=v) h
set_option maxRecDepth 100000 in
set_option maxHeartbeats 1600000 in
theorem partEq_any (w:World) (b c x y pv:Nat) (d:Array Nat) (hH:Dv w b c d) (hx:x≤pv) (hpv:pv < y) (hy:y≤d.size) (hsz:d.size < 2305843009213693951) :
  Calls Tryz.prog 338 #[.slice (some ⟨b,0,none⟩) d.size c,.int .i64 (x:Int),.int .i64 (y:Int),.int .i64 (pv:Int)] w fun e w' =>
   ∃ (mid:Nat) (d':Array Nat),e=.returned (.int .i64 (mid:Int))∧Dv w' b c d'∧Kp b b w w'∧x < mid∧mid≤y∧PermIn x y d d'∧(∀ i,x≤i→i < mid→d'[i]!≤d[pv]!)∧(∀ i,mid≤i→i < y→d[pv]! < d'[i]!):=by
 have hcx:=hH.cell (j:=x) (by omega);have hcp:=hH.cell (j:=pv) (by omega);have hfx:=hH.free x (by omega);have hfp:=hH.free pv (by omega);obtain ⟨p,hp⟩:∃ p,p=d[pv]!:=⟨_,rfl⟩;obtain ⟨q,hq⟩:∃ q,q=d[x]!:=⟨_,rfl⟩;rw [← hp] at hcp;rw [← hq] at hcx;have HP:=hid hp;have HQ:=hid hq;have HD:=hid hH;clear hp hq hH;have i1:(x:Int) < (d.size:Int):=by omega
 have i2:(pv:Int) < (d.size:Int):=by omega
 obtain ⟨v',hst⟩:=sw_cell (p:=⟨b,x,none⟩) (u:=.int .u64 (p:Int)) hcp;go_enter Tryz.func338,Tryz.ntmps338
 go_wp2;go_region
 all_goals go_wp2
 have hd1:Dv ((w.setCell ⟨b,x,none⟩ (.int .u64 (p:Int))).setCell ⟨b,pv,none⟩ (.int .u64 (q:Int))).drew b c (swp d x pv):=by
  have h2:=HD.out.swap x pv;rw [← HP.out,← HQ.out] at h2;exact h2.nw (Nw.drewN _ 1)
 have HD1:=hid hd1;have HK1:=hid (((Kp.refl b b w).setCell' (p:=⟨b,x,none⟩) (.inl rfl) (.int .u64 (p:Int))).setCell' (p:=⟨b,pv,none⟩) (.inl rfl) (.int .u64 (q:Int)) |>.drewN' 1);have HPM:=hid (swp_permIn d x y x pv (by omega) (by omega) (by omega) (by omega) hy);have HX:=hid (show (swp d x pv)[x]! = p from by rw [HP.out,swp_get d (by omega) (by omega) x];by_cases h:x=pv<;>simp [h]);clear hd1 hst hcx hcp hfx hfp
 go_loopg [9,10] (y - x - 1) (fun k vi vj wr=>∃ (i j:Nat) (dk:Array Nat),vi=.int .i64 i∧vj=.int .i64 j∧k=j+1 - i∧x < i∧i≤j+1∧j < y∧dk.size=d.size∧Dv wr b c dk∧Kp b b w wr∧PermIn x y d dk∧dk[x]! = p ∧
  (∀ t,x≤t→t < i→dk[t]!≤p)∧(∀ t,j < t→t < y→p < dk[t]!))
 case atStart =>
  refine ⟨x+1,y - 1,swp d x pv,by go_num,by go_num,by omega,by omega,by omega,by omega,by rw [size_swp],HD1.out,HK1.out,HPM.out,HX.out,fun t h1 h2=>?_,fun t h1 h2=>by omega⟩;obtain rfl:t=x:=by omega
  exact Nat.le_of_eq HX.out
 case round =>
  obtain ⟨i,j,dk,rfl,rfl,hk,h1,h2,h3,hs,hD,hK,hP,hX,hlo,hhi⟩:=hrel;have HS:=hid hs;have HDk:=hid hD;have HPk:=hid hP;have HXk:=hid hX;have HLO:=hid hlo;have HHI:=hid hhi;have HKK:=hid hk;clear hs hD hP hX hlo hhi hk
  go_upto_block 2 with fail
  go_cut [9] (fun s w2=>∃ i':Nat,s=.int .i64 i'∧i≤i'∧i'≤j+1∧(∀ t,i≤t→t < i'→dk[t]!≤p)∧(i'≤j→p < dk[i']!)∧Dr wr w2)
  case first =>
   go_wp2_with fail
   go_loopg [9] (j+1 - i) (fun k vi w2=>∃ i':Nat,vi=.int .i64 i'∧k=j+1 - i'∧i≤i'∧i'≤j+1∧(∀ t,i≤t→t < i'→dk[t]!≤p)∧Dr wr w2)
   case atStart=>exact ⟨i,rfl,by omega,by omega,by omega,fun t h1 h2=>by omega,Dr.refl _⟩
   case round =>
    obtain ⟨i',rfl,hk',h4,h5,h6,hd⟩:=hrel;have H6:=hid h6;have HK':=hid hk';clear h6 hk';by_cases hg:i'≤j
    ·have hi's:i' < d.size:=by omega
     have hc1:=(HDk.out.nw hd.nw).cell (j:=i') (by have:=HS.out;omega);have hc2:=(HDk.out.nw hd.nw).cell (j:=x) (by have:=HS.out;omega);rw [HXk.out] at hc2;obtain ⟨r,hr⟩:∃ r,r=dk[i']!:=⟨_,rfl⟩;rw [← hr] at hc1;have HR:=hid hr;clear hr;have j1:(i':Int) < (d.size:Int):=by omega
     by_cases hcmp:p < r
     ·go_wp2;go_quiet ((go_at_call 309;exact quiet1 (Less_any _ _ _)))
      go_wp2
      go_meet
      case rel=>exact ⟨i',rfl,h4,h5,H6.out,fun _=>by have:=HR.out;omega,hd.step _⟩
     ·go_wp2;go_quiet ((go_at_call 309;exact quiet1 (Less_any _ _ _)))
      go_wp2
      go_roundg (gk - 1)
      case measure=>have:=HK'.out;omega
      case rel =>
       have:=HK'.out;refine ⟨i'+1,by go_num,by omega,by omega,by omega,fun t h1 h2=>?_,hd.step _⟩;rcases Nat.lt_or_ge t i' with h | h
       ·exact H6.out t h1 h
       ·obtain rfl:t=i':=by omega
        have:=HR.out;omega
    ·have hg':decide ((i':Int)≤(j:Int))=false:=by rw [decide_eq_false_iff_not];omega
     go_wp2;go_quiet (fail)
     go_wp2
     go_meet
     case rel=>exact ⟨i',rfl,h4,h5,H6.out,fun h=>absurd h hg,hd.step _⟩
  case rest =>
   obtain ⟨i',rfl,h4,h5,h6,h7,hd⟩:=hcut;have H6:=hid h6;have H7:=hid h7;have HW:=hid hd;clear h6 h7 hd
   go_upto_block 4 with fail
   go_cut [10] (fun s w2=>∃ j':Nat,s=.int .i64 j'∧i'≤j'+1∧j'≤j∧(∀ t,j' < t→t≤j→p < dk[t]!)∧(i'≤j'→dk[j']!≤p)∧Dr wr w2)
   case first =>
    go_wp2_with fail
    go_loopg [10] (j+1 - i') (fun k vj w2=>∃ j':Nat,vj=.int .i64 j'∧k=j'+1 - i'∧i'≤j'+1∧j'≤j∧(∀ t,j' < t→t≤j→p < dk[t]!)∧Dr wr w2)
    case atStart=>exact ⟨j,rfl,by omega,by omega,by omega,fun t h1 h2=>by omega,HW.out⟩
    case round =>
     obtain ⟨j',rfl,hk',h8,h9,h10,hd⟩:=hrel;have H10:=hid h10;have HK':=hid hk';clear h10 hk';by_cases hg:i'≤j'
     ·have hj's:j' < d.size:=by omega
      have hc1:=(HDk.out.nw hd.nw).cell (j:=j') (by have:=HS.out;omega);have hc2:=(HDk.out.nw hd.nw).cell (j:=x) (by have:=HS.out;omega);rw [HXk.out] at hc2;obtain ⟨r,hr⟩:∃ r,r=dk[j']!:=⟨_,rfl⟩;rw [← hr] at hc1;have HR:=hid hr;clear hr;have j1:(j':Int) < (d.size:Int):=by omega
      by_cases hcmp:p < r
      ·go_wp2;go_quiet ((go_at_call 309;exact quiet1 (Less_any _ _ _)))
       go_wp2
       go_roundg (gk - 1)
       case measure=>have:=HK'.out;omega
       case rel =>
        have:=HK'.out;refine ⟨j' - 1,by go_num,by omega,by omega,by omega,fun t h1 h2=>?_,hd.step _⟩;rcases Nat.lt_or_ge j' t with h | h
        ·exact H10.out t h h2
        ·obtain rfl:t=j':=by omega
         have:=HR.out;omega
      ·go_wp2;go_quiet ((go_at_call 309;exact quiet1 (Less_any _ _ _)))
       go_wp2
       go_meet
       case rel=>exact ⟨j',rfl,h8,h9,H10.out,fun _=>by have:=HR.out;omega,hd.step _⟩
     ·have hg':decide ((i':Int)≤(j':Int))=false:=by rw [decide_eq_false_iff_not];omega
      go_wp2;go_quiet (fail)
      go_wp2
      go_meet
      case rel=>exact ⟨j',rfl,h8,h9,H10.out,fun h=>absurd h hg,hd.step _⟩
   case rest =>
    obtain ⟨j',rfl,h8,h9,h10,h11,hd⟩:=hcut;have H10:=hid h10;have H11:=hid h11;have HW2:=hid hd;clear h10 h11 hd;by_cases hend:j' < i'
    ·go_wp2;go_ret;refine ⟨i',dk,rfl,(HDk.out.nw HW2.out.nw),hK.nw' HW2.out.nw,by omega,by omega,HPk.out,?_,?_⟩<;>rw [← HP.out]
     ·intro t h1 h2;rcases Nat.lt_or_ge t i with h | h
      ·exact HLO.out t h1 h
      ·exact H6.out t h h2
     ·intro t h1 h2;rcases Nat.lt_or_ge j t with h | h
      ·exact HHI.out t h h2
      ·exact H10.out t (by omega) h
    ·have hl1:i' < j':=by
      rcases Nat.lt_or_ge i' j' with h | h
      ·exact h
      ·obtain rfl:i'=j':=by omega
       have:=H7.out (by omega);have:=H11.out (by omega);omega
     have hDw:=HDk.out.nw HW2.out.nw;have hci:=hDw.cell (j:=i') (by have:=HS.out;omega);have hcj:=hDw.cell (j:=j') (by have:=HS.out;omega);have hfi:=hDw.free i' (by have:=HS.out;omega);have hfj:=hDw.free j' (by have:=HS.out;omega);obtain ⟨p1,hp1⟩:∃ r,r=dk[i']!:=⟨_,rfl⟩;obtain ⟨p2,hp2⟩:∃ r,r=dk[j']!:=⟨_,rfl⟩;rw [← hp1] at hci;rw [← hp2] at hcj;have HP12:=hid (And.intro hp1 hp2);have HDW:=hid hDw;clear hp1 hp2 hDw;have j1:(i':Int) < (d.size:Int):=by omega
     have j2:(j':Int) < (d.size:Int):=by omega
     have hne1:¬ i'=j':=by omega
     have hne2:¬ j'=i':=by omega
     go_wp2;go_region
     all_goals go_wp2
     go_roundg (j' - i' - 1)
     case measure=>have:=HKK.out;omega
     case rel =>
      obtain ⟨hp1,hp2⟩:=HP12.out;have hs:=HS.out;have hget:=swp_get dk (i:=i') (j:=j') (by omega) (by omega);refine ⟨i'+1,j' - 1,swp dk i' j',by go_num,by go_num,by omega,by omega,by omega,by omega,by rw [size_swp];exact hs,?_,(((hK.nw' HW2.out.nw).setCell' (.inl rfl) _).setCell' (.inl rfl) _).drewN' 1,
       permIn_trans _ _ _ _ _ HPk.out (swp_permIn dk x y i' j' (by omega) (by omega) (by omega) (by omega) (by omega)),?_,?_,?_⟩
      ·rw [hp1,hp2];exact (HDW.out.swap i' j').nw (Nw.drewN _ 1)
      ·rw [hget x,if_neg (by omega),if_neg (by omega)];exact HXk.out
      ·intro t h1 h2;rw [hget t];split
       ·rename_i h;first | exact H11.out (by omega) | (have:=H7.out (by omega);omega)
       ·split
        ·rename_i h;first | exact H11.out (by omega) | omega
        ·rcases Nat.lt_or_ge t i with h | h
         ·exact HLO.out t h1 h
         ·exact H6.out t h (by omega)
      ·intro t h1 h2;rw [hget t];split
       ·rename_i h;first | exact H7.out (by omega) | omega
       ·split
        ·rename_i h;first | exact H7.out (by omega) | omega
        ·rcases Nat.lt_or_ge j t with h | h
         ·exact HHI.out t h h2
         ·exact H10.out t (by omega) h
end
section
open Go Go.RowKit Go.Sort
set_option maxRecDepth 100000 in
set_option maxHeartbeats 1600000 in
theorem partition_any (w:World) (b c x y pv:Nat) (d:Array Nat) (hH:Dv w b c d) (hx:x≤pv) (hpv:pv < y) (hy:y≤d.size) (hsz:d.size < 2305843009213693951) :
  Calls Tryz.prog 339 #[.slice (some ⟨b,0,none⟩) d.size c,.int .i64 (x:Int),.int .i64 (y:Int),.int .i64 (pv:Int)] w fun e w' =>
   ∃ (mid:Nat) (ap:Bool) (d':Array Nat),e=.returned (.tuple #[.int .i64 (mid:Int),.bool ap])∧Dv w' b c d'∧Kp b b w w'∧x≤mid∧mid < y∧PermIn x y d d'∧(∀ i,x≤i→i < mid→d'[i]! < d'[mid]!)∧(∀ i,mid < i→i < y→d'[mid]!≤d'[i]!):=by
 have hcx:=hH.cell (j:=x) (by omega);have hcp:=hH.cell (j:=pv) (by omega);have hfx:=hH.free x (by omega);have hfp:=hH.free pv (by omega);obtain ⟨p,hp⟩:∃ p,p=d[pv]!:=⟨_,rfl⟩;obtain ⟨q,hq⟩:∃ q,q=d[x]!:=⟨_,rfl⟩;rw [← hp] at hcp;rw [← hq] at hcx;have HP:=hid hp;have HQ:=hid hq;have HD:=hid hH;clear hp hq hH;have i1:(x:Int) < (d.size:Int):=by omega
 have i2:(pv:Int) < (d.size:Int):=by omega
 obtain ⟨v',hst⟩:=sw_cell (p:=⟨b,x,none⟩) (u:=.int .u64 (p:Int)) hcp;go_enter Tryz.func339,Tryz.ntmps339
 go_wp2;go_region
 have hd1:Dv ((w.setCell ⟨b,x,none⟩ (.int .u64 (p:Int))).setCell ⟨b,pv,none⟩ (.int .u64 (q:Int))).drew b c (swp d x pv):=by
  have h2:=HD.out.swap x pv;rw [← HP.out,← HQ.out] at h2;exact h2.nw (Nw.drewN _ 1)
 have HD1:=hid hd1;have HK1:=hid (((Kp.refl b b w).setCell' (p:=⟨b,x,none⟩) (.inl rfl) (.int .u64 (p:Int))).setCell' (p:=⟨b,pv,none⟩) (.inl rfl) (.int .u64 (q:Int)) |>.drewN' 1);have HPM:=hid (swp_permIn d x y x pv (by omega) (by omega) (by omega) (by omega) hy);have HX:=hid (show (swp d x pv)[x]! = p from by rw [HP.out,swp_get d (by omega) (by omega) x];by_cases h:x=pv<;>simp [h]);clear hd1 hst hcx hcp hfx hfp;have HK1':Hid (Kp b b w ((w.setCell ⟨b,x,none⟩ (.int .u64 (p:Int))).setCell ⟨b,pv,none⟩ (.int .u64 (q:Int))).drew):=HK1;generalize hd1:swp d x pv=d1 at *;generalize ((w.setCell ⟨b,x,none⟩ (.int .u64 (p:Int))).setCell ⟨b,pv,none⟩ (.int .u64 (q:Int))).drew=wr at *;have HS:=hid (show d1.size=d.size from by rw [← hd1,size_swp]);have HDD:=hid hd1;clear hd1 HK1;have HDk:=HD1;obtain ⟨i,hi⟩:∃ i,i=x+1:=⟨_,rfl⟩;obtain ⟨j,hj⟩:∃ j,j=y - 1:=⟨_,rfl⟩;have ei:(x:Int)+1=(i:Int):=by omega
 have ej:(y:Int) - 1=(j:Int):=by omega
 have h1:x < i:=by omega
 have h2:i≤j+1:=by omega
 have h3:j < y:=by omega
 have HI:=hid hi;have HJ:=hid hj;clear hi hj
 go_upto_block 0 with fail
 go_cut [10] (fun s w2=>∃ i':Nat,s=.int .i64 i'∧i≤i'∧i'≤j+1∧(∀ t,i≤t→t < i'→d1[t]! < p)∧(i'≤j→p≤d1[i']!)∧Dr wr w2)
 case first =>
  go_wp2_with fail
  go_loopg [10] (j+1 - i) (fun k vi w2=>∃ i':Nat,vi=.int .i64 i'∧k=j+1 - i'∧i≤i'∧i'≤j+1∧(∀ t,i≤t→t < i'→d1[t]! < p)∧Dr wr w2)
  case atStart=>exact ⟨i,rfl,by omega,by omega,by omega,fun t h1 h2=>by omega,Dr.refl _⟩
  case round =>
   obtain ⟨i',rfl,hk',h4,h5,h6,hd⟩:=hrel;have H6:=hid h6;have HK':=hid hk';clear h6 hk';by_cases hg:i'≤j
   ·have hi's:i' < d.size:=by omega
    have hc1:=(HDk.out.nw hd.nw).cell (j:=i') (by have:=HS.out;omega);have hc2:=(HDk.out.nw hd.nw).cell (j:=x) (by have:=HS.out;omega);rw [HX.out] at hc2;obtain ⟨r,hr⟩:∃ r,r=d1[i']!:=⟨_,rfl⟩;rw [← hr] at hc1;have HR:=hid hr;clear hr;have j1:(i':Int) < (d.size:Int):=by omega
    by_cases hcmp:r < p
    ·go_wp2;go_quiet ((go_at_call 309;exact quiet1 (Less_any _ _ _)))
     go_wp2
     go_roundg (gk - 1)
     case measure=>have:=HK'.out;omega
     case rel =>
      have:=HK'.out;refine ⟨i'+1,by go_num,by omega,by omega,by omega,fun t h1 h2=>?_,hd.step _⟩;rcases Nat.lt_or_ge t i' with h | h
      ·exact H6.out t h1 h
      ·obtain rfl:t=i':=by omega
       have:=HR.out;omega
    ·go_wp2;go_quiet ((go_at_call 309;exact quiet1 (Less_any _ _ _)))
     go_wp2
     go_meet
     case rel=>exact ⟨i',rfl,h4,h5,H6.out,fun _=>by have:=HR.out;omega,hd.step _⟩
   ·have hg':decide ((i':Int)≤(j:Int))=false:=by rw [decide_eq_false_iff_not];omega
    go_wp2;go_quiet (fail)
    go_wp2
    go_meet
    case rel=>exact ⟨i',rfl,h4,h5,H6.out,fun h=>absurd h hg,hd.step _⟩
 case rest =>
  obtain ⟨i',rfl,h4,h5,h6,h7,hd⟩:=hcut;have H6:=hid h6;have H7:=hid h7;have HW:=hid hd;clear h6 h7 hd
  go_upto_block 2 with fail
  go_cut [11] (fun s w2=>∃ j':Nat,s=.int .i64 j'∧i'≤j'+1∧j'≤j∧(∀ t,j' < t→t≤j→p≤d1[t]!)∧(i'≤j'→d1[j']! < p)∧Dr wr w2)
  case first =>
   go_wp2_with fail
   go_loopg [11] (j+1 - i') (fun k vj w2=>∃ j':Nat,vj=.int .i64 j'∧k=j'+1 - i'∧i'≤j'+1∧j'≤j∧(∀ t,j' < t→t≤j→p≤d1[t]!)∧Dr wr w2)
   case atStart=>exact ⟨j,rfl,by omega,by omega,by omega,fun t h1 h2=>by omega,HW.out⟩
   case round =>
    obtain ⟨j',rfl,hk',h8,h9,h10,hd⟩:=hrel;have H10:=hid h10;have HK':=hid hk';clear h10 hk';by_cases hg:i'≤j'
    ·have hj's:j' < d.size:=by omega
     have hc1:=(HDk.out.nw hd.nw).cell (j:=j') (by have:=HS.out;omega);have hc2:=(HDk.out.nw hd.nw).cell (j:=x) (by have:=HS.out;omega);rw [HX.out] at hc2;obtain ⟨r,hr⟩:∃ r,r=d1[j']!:=⟨_,rfl⟩;rw [← hr] at hc1;have HR:=hid hr;clear hr;have j1:(j':Int) < (d.size:Int):=by omega
     by_cases hcmp:r < p
     ·go_wp2;go_quiet ((go_at_call 309;exact quiet1 (Less_any _ _ _)))
      go_wp2
      go_meet
      case rel=>exact ⟨j',rfl,h8,h9,H10.out,fun _=>by have:=HR.out;omega,hd.step _⟩
     ·go_wp2;go_quiet ((go_at_call 309;exact quiet1 (Less_any _ _ _)))
      go_wp2
      go_roundg (gk - 1)
      case measure=>have:=HK'.out;omega
      case rel =>
       have:=HK'.out;refine ⟨j' - 1,by go_num,by omega,by omega,by omega,fun t h1 h2=>?_,hd.step _⟩;rcases Nat.lt_or_ge j' t with h | h
       ·exact H10.out t h h2
       ·obtain rfl:t=j':=by omega
        have:=HR.out;omega
    ·have hg':decide ((i':Int)≤(j':Int))=false:=by rw [decide_eq_false_iff_not];omega
     go_wp2;go_quiet (fail)
     go_wp2
     go_meet
     case rel=>exact ⟨j',rfl,h8,h9,H10.out,fun h=>absurd h hg,hd.step _⟩
  case rest =>
   obtain ⟨j',rfl,h8,h9,h10,h11,hd⟩:=hcut;have H10:=hid h10;have H11:=hid h11;have HW2:=hid hd;clear h10 h11 hd;have hij:=HI.out;have hjj:=HJ.out;have HLOP:=hid (show ∀ t,x < t→t < i'→d1[t]! < p from fun t a1 a2=>H6.out t (by omega) a2);have HHIP:=hid (show ∀ t,j' < t→t < y→p≤d1[t]! from fun t a1 a2=>H10.out t a1 (by omega));clear hij hjj;by_cases hend:j' < i'
   ·have hj'1:i'=j'+1:=by omega
    have hj'0:x≤j':=by omega
    have hj's:j' < d.size:=by omega
    clear hj'1;have hdw:=HDk.out.nw HW2.out.nw;have hci:=hdw.cell (j:=j') (by have:=HS.out;omega);have hcj:=hdw.cell (j:=x) (by have:=HS.out;omega);have hfi:=hdw.free j' (by have:=HS.out;omega);have hfj:=hdw.free x (by have:=HS.out;omega);obtain ⟨q1,hp1⟩:∃ r,r=d1[j']!:=⟨_,rfl⟩;obtain ⟨q2,hp2⟩:∃ r,r=d1[x]!:=⟨_,rfl⟩;rw [← hp1] at hci;rw [← hp2] at hcj;have HP12:=hid (And.intro hp1 hp2);have HDW:=hid hdw;have k1:(j':Int) < (d.size:Int):=by omega
    have k2:(x:Int) < (d.size:Int):=by omega
    obtain ⟨v2,hst2⟩:=sw_cell (p:=⟨b,j',none⟩) (u:=.int .u64 (q2:Int)) hcj;clear hp1 hp2 hdw;go_wp2;go_region
    all_goals go_wp2
    go_ret2;have hs:=HS.out;have hget:=swp_get d1 (i:=j') (j:=x) (by omega) (by omega);have hm:(swp d1 j' x)[j']! = p:=by
     rw [hget j'];by_cases h:j'=x
     ·rw [if_pos h,h];exact HX.out
     ·rw [if_neg h,if_pos rfl];exact HX.out
    refine ⟨j',true,swp d1 j' x,rfl,?_,(((HK1'.out.nw' HW2.out.nw).setCell' (.inl rfl) _).setCell' (.inl rfl) _).drewN' 1,by omega,by omega,permIn_trans _ _ _ _ _ HPM.out (swp_permIn d1 x y j' x (by omega) (by omega) (by omega) (by omega) (by omega)),?_,?_⟩
    ·obtain ⟨hp1,hp2⟩:=HP12.out;rw [hp1,hp2];exact (HDW.out.swap j' x).nw (Nw.drewN _ 1)
    ·intro t h1 h2;rw [hm,hget t];by_cases h:t=x
     ·rw [if_pos h];exact HLOP.out j' (by omega) (by omega)
     ·rw [if_neg h,if_neg (by omega)];exact HLOP.out t (by omega) (by omega)
    ·intro t h1 h2;rw [hm,hget t,if_neg (by omega),if_neg (by omega)];exact HHIP.out t (by omega) (by omega)
   ·have hl1:i' < j':=by
     rcases Nat.lt_or_ge i' j' with h | h
     ·exact h
     ·obtain rfl:i'=j':=by omega
      have:=H7.out (by omega);have:=H11.out (by omega);omega
    have hdw:=HDk.out.nw HW2.out.nw;have hci:=hdw.cell (j:=i') (by have:=HS.out;omega);have hcj:=hdw.cell (j:=j') (by have:=HS.out;omega);have hfi:=hdw.free i' (by have:=HS.out;omega);have hfj:=hdw.free j' (by have:=HS.out;omega);obtain ⟨q1,hp1⟩:∃ r,r=d1[i']!:=⟨_,rfl⟩;obtain ⟨q2,hp2⟩:∃ r,r=d1[j']!:=⟨_,rfl⟩;rw [← hp1] at hci;rw [← hp2] at hcj;have HP12:=hid (And.intro hp1 hp2);have HDW:=hid hdw;have k1:(i':Int) < (d.size:Int):=by omega
    have k2:(j':Int) < (d.size:Int):=by omega
    have hne1:¬ i'=j':=by omega
    have hne2:¬ j'=i':=by omega
    clear hp1 hp2 hdw;have ei2:(i':Int)+1=((i'+1:Nat):Int):=by omega
    have ej2:(j':Int) - 1=((j' - 1:Nat):Int):=by omega
    clear ei2 ej2;go_wp2;go_region
    all_goals go_wp2
    have HP1:Hid (Kp b b w ((wc.setCell ⟨b,i',none⟩ (.int .u64 (q2:Int))).setCell ⟨b,j',none⟩ (.int .u64 (q1:Int))).drew):=hid ((((HK1'.out.nw' HW2.out.nw).setCell' (.inl rfl) _).setCell' (.inl rfl) _).drewN' 1);have HP2:Hid (Dv ((wc.setCell ⟨b,i',none⟩ (.int .u64 (q2:Int))).setCell ⟨b,j',none⟩ (.int .u64 (q1:Int))).drew b c (swp d1 i' j')):=hid (by
     obtain ⟨hp1,hp2⟩:=HP12.out;rw [hp1,hp2];exact (HDW.out.swap i' j').nw (Nw.drewN _ 1))
    go_loopg [10,11] (j' - i' - 1) (fun k vi vj wr=>∃ (i j:Nat) (dk:Array Nat),vi=.int .i64 i∧vj=.int .i64 j∧k=j+1 - i∧x < i∧i≤j+1∧j < y∧dk.size=d.size∧Dv wr b c dk∧Kp b b w wr∧PermIn x y d dk∧dk[x]! = p ∧
     (∀ t,x < t→t < i→dk[t]! < p)∧(∀ t,j < t→t < y→p≤dk[t]!))
    case atStart =>
     have hs:=HS.out;have hget:=swp_get d1 (i:=i') (j:=j') (by omega) (by omega);refine ⟨i'+1,j' - 1,swp d1 i' j',by go_num,by go_num,by omega,by omega,by omega,by omega,by rw [size_swp];exact hs,HP2.out,HP1.out,
      permIn_trans _ _ _ _ _ HPM.out (swp_permIn d1 x y i' j' (by omega) (by omega) (by omega) (by omega) (by omega)),?_,?_,?_⟩
     ·rw [hget x,if_neg (by omega),if_neg (by omega)];exact HX.out
     ·intro t a1 a2;rw [hget t];by_cases e1:t=j'
      ·omega
      ·rw [if_neg e1];by_cases e2:t=i'
       ·rw [if_pos e2];exact H11.out (by omega)
       ·rw [if_neg e2];exact HLOP.out t a1 (by omega)
     ·intro t a1 a2;rw [hget t];by_cases e1:t=j'
      ·rw [if_pos e1];exact H7.out (by omega)
      ·rw [if_neg e1,if_neg (by omega)];exact HHIP.out t (by omega) a2
    case round =>
     clear HLOP HHIP H6 H7 H10 H11 HW HW2 HDk HX HPM HS HP12 HDW HP1 HP2 HK1' hci hcj hfi hfj;clear k1 k2 hne1 hne2 hl1 hend;obtain ⟨i,j,dk,rfl,rfl,hk,h1,h2,h3,hs,hD,hK,hP,hX,hlo,hhi⟩:=hrel;have HS:=hid hs;have HDk:=hid hD;have HPk:=hid hP;have HXk:=hid hX;have HLO:=hid hlo;have HHI:=hid hhi;have HKK:=hid hk;clear hs hD hP hX hlo hhi hk
     go_upto_block 6 with fail
     go_cut [10] (fun s w2=>∃ i2:Nat,s=.int .i64 i2∧i≤i2∧i2≤j+1∧(∀ t,i≤t→t < i2→dk[t]! < p)∧(i2≤j→p≤dk[i2]!)∧Dr wr w2)
     case first =>
      go_wp2_with fail
      go_loopg [10] (j+1 - i) (fun k vi w2=>∃ i2:Nat,vi=.int .i64 i2∧k=j+1 - i2∧i≤i2∧i2≤j+1∧(∀ t,i≤t→t < i2→dk[t]! < p)∧Dr wr w2)
      case atStart=>exact ⟨i,rfl,by omega,by omega,by omega,fun t h1 h2=>by omega,Dr.refl _⟩
      case round =>
       obtain ⟨i2,rfl,hk',h4,h5,h6,hd⟩:=hrel;have H6:=hid h6;have HK':=hid hk';clear h6 hk';by_cases hg:i2≤j
       ·have hi's:i2 < d.size:=by omega
        have hc1:=(HDk.out.nw hd.nw).cell (j:=i2) (by have:=HS.out;omega);have hc2:=(HDk.out.nw hd.nw).cell (j:=x) (by have:=HS.out;omega);rw [HXk.out] at hc2;obtain ⟨r,hr⟩:∃ r,r=dk[i2]!:=⟨_,rfl⟩;rw [← hr] at hc1;have HR:=hid hr;clear hr;have j1:(i2:Int) < (d.size:Int):=by omega
        by_cases hcmp:r < p
        ·go_wp2;go_quiet ((go_at_call 309;exact quiet1 (Less_any _ _ _)))
         go_wp2
         go_roundg (gk - 1)
         case measure=>have:=HK'.out;omega
         case rel =>
          have:=HK'.out;refine ⟨i2+1,by go_num,by omega,by omega,by omega,fun t h1 h2=>?_,hd.step _⟩;rcases Nat.lt_or_ge t i2 with h | h
          ·exact H6.out t h1 h
          ·obtain rfl:t=i2:=by omega
           have:=HR.out;omega
        ·go_wp2;go_quiet ((go_at_call 309;exact quiet1 (Less_any _ _ _)))
         go_wp2
         go_meet
         case rel=>exact ⟨i2,rfl,h4,h5,H6.out,fun _=>by have:=HR.out;omega,hd.step _⟩
       ·have hg':decide ((i2:Int)≤(j:Int))=false:=by rw [decide_eq_false_iff_not];omega
        go_wp2;go_quiet (fail)
        go_wp2
        go_meet
        case rel=>exact ⟨i2,rfl,h4,h5,H6.out,fun h=>absurd h hg,hd.step _⟩
     case rest =>
      obtain ⟨i2,rfl,g4,g5,g6,g7,hd⟩:=hcut;have G6:=hid g6;have G7:=hid g7;have GW:=hid hd;clear g6 g7 hd
      go_upto_block 8 with fail
      go_cut [11] (fun s w2=>∃ j2:Nat,s=.int .i64 j2∧i2≤j2+1∧j2≤j∧(∀ t,j2 < t→t≤j→p≤dk[t]!)∧(i2≤j2→dk[j2]! < p)∧Dr wr w2)
      case first =>
       go_wp2_with fail
       go_loopg [11] (j+1 - i2) (fun k vj w2=>∃ j2:Nat,vj=.int .i64 j2∧k=j2+1 - i2∧i2≤j2+1∧j2≤j∧(∀ t,j2 < t→t≤j→p≤dk[t]!)∧Dr wr w2)
       case atStart=>exact ⟨j,rfl,by omega,by omega,by omega,fun t h1 h2=>by omega,GW.out⟩
       case round =>
        obtain ⟨j2,rfl,hk',h8,h9,h10,hd⟩:=hrel;have H10:=hid h10;have HK':=hid hk';clear h10 hk';by_cases hg:i2≤j2
        ·have hj's:j2 < d.size:=by omega
         have hc1:=(HDk.out.nw hd.nw).cell (j:=j2) (by have:=HS.out;omega);have hc2:=(HDk.out.nw hd.nw).cell (j:=x) (by have:=HS.out;omega);rw [HXk.out] at hc2;obtain ⟨r,hr⟩:∃ r,r=dk[j2]!:=⟨_,rfl⟩;rw [← hr] at hc1;have HR:=hid hr;clear hr;have j1:(j2:Int) < (d.size:Int):=by omega
         by_cases hcmp:r < p
         ·go_wp2;go_quiet ((go_at_call 309;exact quiet1 (Less_any _ _ _)))
          go_wp2
          go_meet
          case rel=>exact ⟨j2,rfl,h8,h9,H10.out,fun _=>by have:=HR.out;omega,hd.step _⟩
         ·go_wp2;go_quiet ((go_at_call 309;exact quiet1 (Less_any _ _ _)))
          go_wp2
          go_roundg (gk - 1)
          case measure=>have:=HK'.out;omega
          case rel =>
           have:=HK'.out;refine ⟨j2 - 1,by go_num,by omega,by omega,by omega,fun t h1 h2=>?_,hd.step _⟩;rcases Nat.lt_or_ge j2 t with h | h
           ·exact H10.out t h h2
           ·obtain rfl:t=j2:=by omega
            have:=HR.out;omega
        ·have hg':decide ((i2:Int)≤(j2:Int))=false:=by rw [decide_eq_false_iff_not];omega
         go_wp2;go_quiet (fail)
         go_wp2
         go_meet
         case rel=>exact ⟨j2,rfl,h8,h9,H10.out,fun h=>absurd h hg,hd.step _⟩
      case rest =>
       obtain ⟨j2,rfl,g8,g9,g10,g11,hd⟩:=hcut;have G10:=hid g10;have G11:=hid g11;have GW2:=hid hd;clear g10 g11 hd;have HLOP:=hid (show ∀ t,x < t→t < i2→dk[t]! < p from fun t a1 a2=>by
        rcases Nat.lt_or_ge t i with h | h
        ·exact HLO.out t a1 h
        ·exact G6.out t h a2)
       have HHIP:=hid (show ∀ t,j2 < t→t < y→p≤dk[t]! from fun t a1 a2=>by
        rcases Nat.lt_or_ge j t with h | h
        ·exact HHI.out t h a2
        ·exact G10.out t a1 h)
       by_cases hend:j2 < i2
       ·have hj'0:x≤j2:=by omega
        have hj's:j2 < d.size:=by omega
        have hdw:=HDk.out.nw GW2.out.nw;have hci:=hdw.cell (j:=j2) (by have:=HS.out;omega);have hcj:=hdw.cell (j:=x) (by have:=HS.out;omega);have hfi:=hdw.free j2 (by have:=HS.out;omega);have hfj:=hdw.free x (by have:=HS.out;omega);obtain ⟨q1,hp1⟩:∃ r,r=dk[j2]!:=⟨_,rfl⟩;obtain ⟨q2,hp2⟩:∃ r,r=dk[x]!:=⟨_,rfl⟩;rw [← hp1] at hci;rw [← hp2] at hcj;have HP12:=hid (And.intro hp1 hp2);have HDW:=hid hdw;have k1:(j2:Int) < (d.size:Int):=by omega
        have k2:(x:Int) < (d.size:Int):=by omega
        obtain ⟨v2,hst2⟩:=sw_cell (p:=⟨b,j2,none⟩) (u:=.int .u64 (q2:Int)) hcj;clear hp1 hp2 hdw;go_wp2;go_region
        all_goals go_wp2
        go_ret2;have hs:=HS.out;have hget:=swp_get dk (i:=j2) (j:=x) (by omega) (by omega);have hm:(swp dk j2 x)[j2]! = p:=by
         rw [hget j2];by_cases h:j2=x
         ·rw [if_pos h,h];exact HXk.out
         ·rw [if_neg h,if_pos rfl];exact HXk.out
        refine ⟨j2,false,swp dk j2 x,rfl,?_,(((hK.nw' GW2.out.nw).setCell' (.inl rfl) _).setCell' (.inl rfl) _).drewN' 1,by omega,by omega,permIn_trans _ _ _ _ _ HPk.out (swp_permIn dk x y j2 x (by omega) (by omega) (by omega) (by omega) (by omega)),?_,?_⟩
        ·obtain ⟨hp1,hp2⟩:=HP12.out;rw [hp1,hp2];exact (HDW.out.swap j2 x).nw (Nw.drewN _ 1)
        ·intro t h1 h2;rw [hm,hget t];by_cases h:t=x
         ·rw [if_pos h];exact HLOP.out j2 (by omega) (by omega)
         ·rw [if_neg h,if_neg (by omega)];exact HLOP.out t (by omega) (by omega)
        ·intro t h1 h2;rw [hm,hget t,if_neg (by omega),if_neg (by omega)];exact HHIP.out t (by omega) (by omega)
       ·have hl1:i2 < j2:=by
         rcases Nat.lt_or_ge i2 j2 with h | h
         ·exact h
         ·obtain rfl:i2=j2:=by omega
          have:=G7.out (by omega);have:=G11.out (by omega);omega
        have hdw:=HDk.out.nw GW2.out.nw;have hci:=hdw.cell (j:=i2) (by have:=HS.out;omega);have hcj:=hdw.cell (j:=j2) (by have:=HS.out;omega);have hfi:=hdw.free i2 (by have:=HS.out;omega);have hfj:=hdw.free j2 (by have:=HS.out;omega);obtain ⟨q1,hp1⟩:∃ r,r=dk[i2]!:=⟨_,rfl⟩;obtain ⟨q2,hp2⟩:∃ r,r=dk[j2]!:=⟨_,rfl⟩;rw [← hp1] at hci;rw [← hp2] at hcj;have HP12:=hid (And.intro hp1 hp2);have HDW:=hid hdw;have k1:(i2:Int) < (d.size:Int):=by omega
        have k2:(j2:Int) < (d.size:Int):=by omega
        have hne1:¬ i2=j2:=by omega
        have hne2:¬ j2=i2:=by omega
        clear hp1 hp2 hdw;go_wp2;go_region
        all_goals go_wp2
        go_roundg (j2 - i2 - 1)
        case measure=>have:=HKK.out;omega
        case rel =>
         obtain ⟨hp1,hp2⟩:=HP12.out;have hs:=HS.out;have hget:=swp_get dk (i:=i2) (j:=j2) (by omega) (by omega);refine ⟨i2+1,j2 - 1,swp dk i2 j2,by go_num,by go_num,by omega,by omega,by omega,by omega,by rw [size_swp];exact hs,?_,(((hK.nw' GW2.out.nw).setCell' (.inl rfl) _).setCell' (.inl rfl) _).drewN' 1,
          permIn_trans _ _ _ _ _ HPk.out (swp_permIn dk x y i2 j2 (by omega) (by omega) (by omega) (by omega) (by omega)),?_,?_,?_⟩
         ·rw [hp1,hp2];exact (HDW.out.swap i2 j2).nw (Nw.drewN _ 1)
         ·rw [hget x,if_neg (by omega),if_neg (by omega)];exact HXk.out
         ·intro t a1 a2;rw [hget t];by_cases e1:t=j2
          ·omega
          ·rw [if_neg e1];by_cases e2:t=i2
           ·rw [if_pos e2];exact G11.out (by omega)
           ·rw [if_neg e2];exact HLOP.out t a1 (by omega)
         ·intro t a1 a2;rw [hget t];by_cases e1:t=j2
          ·rw [if_pos e1];exact G7.out (by omega)
          ·rw [if_neg e1,if_neg (by omega)];exact HHIP.out t (by omega) a2
end
section
open Go Go.RowKit Go.Sort
def Ctr (w:World) (g n:Nat):Prop:=w.heap[g]? = some (.cells #[.int .i64 (n:Int)] 3 (0,0))
section
variable {w w':World} {g n:Nat}
theorem Ctr.lt (h:Ctr w g n):g < w.heap.size:=lt_of_block h
theorem Ctr.cell (h:Ctr w g n):w.cell? ⟨g,0,none⟩=some (.int .i64 (n:Int)):=cell_of_one h
theorem Ctr.free (h:Ctr w g n):w.frozen? ⟨g,0,none⟩=false:=free_of_one h
theorem Ctr.nw (h:Ctr w g n) (hk:Nw w w'):Ctr w' g n:=(hk.block g h.lt).trans h
theorem Ctr.set_ (h:Ctr w g n) (m:Nat):Ctr (w.setCell ⟨g,0,none⟩ (.int .i64 (m:Int))) g m:=one_setCell h
end
theorem order2_any (w:World) (b c i j g n:Nat) (d:Array Nat) (hH:Dv w b c d) (hi:i < d.size) (hj:j < d.size) (hg:Ctr w g n) (hn:n≤1000) :
  Calls Tryz.prog 347 #[.slice (some ⟨b,0,none⟩) d.size c,.int .i64 (i:Int),.int .i64 (j:Int),.pointer (some ⟨g,0,none⟩)] w fun e w' =>
   ∃ p q m:Nat,e=.returned (.tuple #[.int .i64 (p:Int),.int .i64 (q:Int)])∧(p=i∧q=j∨p=j∧q=i)∧Ctr w' g m∧n≤m∧m≤n+1∧Kp g g w w':=by
 have h1:=hH.cell hi;have h2:=hH.cell hj;have c1:=hg.cell;have f1:=hg.free;have HG:=hid hg;obtain ⟨p,hp⟩:∃ p,p=d[i]!:=⟨_,rfl⟩;obtain ⟨q,hq⟩:∃ q,q=d[j]!:=⟨_,rfl⟩;rw [← hp] at h1;rw [← hq] at h2;have i1:(i:Int) < (d.size:Int):=by omega
 have i2:(j:Int) < (d.size:Int):=by omega
 clear hp hq hg hH;by_cases hc:q < p
 ·go_enter Tryz.func347,Tryz.ntmps347
  go_wp2;go_quiet ((go_at_call 309;exact quiet1 (Less_any _ _ _)))
  go_wp2;go_ret2;exact ⟨j,i,n+1,rfl,.inr ⟨rfl,rfl⟩,(HG.out.nw (Nw.drewN w nq)).set_ (n+1),by omega,by omega,((Kp.refl g g w).drewN' nq).setCell' (.inl rfl) _⟩
 ·go_enter Tryz.func347,Tryz.ntmps347
  go_wp2;go_quiet ((go_at_call 309;exact quiet1 (Less_any _ _ _)))
  go_wp2;go_ret2;exact ⟨i,j,n,rfl,.inl ⟨rfl,rfl⟩,HG.out.nw (Nw.drewN w nq),by omega,by omega,(Kp.refl g g w).drewN' nq⟩
theorem median_any (w:World) (b c i j k g n:Nat) (d:Array Nat) (hH:Dv w b c d) (hi:i < d.size) (hj:j < d.size) (hk:k < d.size) (hg:Ctr w g n) (hn:n≤900) (hbg:b≠g) :
  Calls Tryz.prog 345 #[.slice (some ⟨b,0,none⟩) d.size c,.int .i64 (i:Int),.int .i64 (j:Int),.int .i64 (k:Int),.pointer (some ⟨g,0,none⟩)] w fun e w' =>
   ∃ p m:Nat,e=.returned (.int .i64 (p:Int))∧(p=i∨p=j∨p=k)∧Ctr w' g m∧n≤m∧m≤n+3∧Kp g g w w':=by
 have HH:=hid hH;have HG:=hid hg;clear hH hg;go_enter Tryz.func345,Tryz.ntmps345
 go_wp2_with fail;refine (order2_any _ b c i j g n d HH.out hi hj HG.out (by omega)).mono ?_;rintro e w1 ⟨p1,q1,m1,rfl,o1,g1,a1,a2,k1⟩;have O1:=hid o1;have G1:=hid g1;have K1:=hid k1;have hq1:q1 < d.size:=by rcases o1 with ⟨_,h⟩ | ⟨_,h⟩<;>omega
 have hp1:p1 < d.size:=by rcases o1 with ⟨h,_⟩ | ⟨h,_⟩<;>omega
 clear o1 g1 k1;go_wp2_with fail;refine (order2_any _ b c q1 k g m1 d (HH.out.kp K1.out hbg hbg) hq1 hk G1.out (by omega)).mono ?_;rintro e w2 ⟨p2,q2,m2,rfl,o2,g2,a3,a4,k2⟩;have O2:=hid o2;have G2:=hid g2;have K2:=hid (K1.out.trans k2 (.inl rfl) (.inl rfl));have hp2:p2 < d.size:=by rcases o2 with ⟨h,_⟩ | ⟨h,_⟩<;>omega
 clear o2 g2 k2;go_wp2_with fail;refine (order2_any _ b c p1 p2 g m2 d (HH.out.kp K2.out hbg hbg) hp1 hp2 G2.out (by omega)).mono ?_;rintro e w3 ⟨p3,q3,m3,rfl,o3,g3,a5,a6,k3⟩;have O3:=hid o3;have G3:=hid g3;have K3:=hid (K2.out.trans k3 (.inl rfl) (.inl rfl));clear o3 g3 k3;go_wp2;go_ret;refine ⟨q3,m3,rfl,?_,G3.out,by omega,by omega,K3.out⟩;have o1:=O1.out;have o2:=O2.out;have o3:=O3.out;omega
theorem medianAdj_any (w:World) (b c i g n:Nat) (d:Array Nat) (hH:Dv w b c d) (hi0:0 < i) (hi:i+1 < d.size) (hsz:d.size < 4611686018427387904) (hg:Ctr w g n) (hn:n≤900) (hbg:b≠g) :
  Calls Tryz.prog 344 #[.slice (some ⟨b,0,none⟩) d.size c,.int .i64 (i:Int),.pointer (some ⟨g,0,none⟩)] w fun e w' =>
   ∃ p m:Nat,e=.returned (.int .i64 (p:Int))∧(p=i - 1∨p=i∨p=i+1)∧Ctr w' g m∧n≤m∧m≤n+3∧Kp g g w w':=by
 have hM:=median_any w b c (i - 1) i (i+1) g n d hH (by omega) (by omega) (by omega) hg hn hbg;have e1:((i - 1:Nat):Int)=(i:Int) - 1:=by omega
 have e2:((i+1:Nat):Int)=(i:Int)+1:=by omega
 rw [e1,e2] at hM;have HM:=hid hM;clear hM hH hg e1 e2;go_enter Tryz.func344,Tryz.ntmps344
 go_wp2_with fail;refine HM.out.mono ?_;rintro e w1 ⟨p1,m1,rfl,o1,g1,a1,a2,k1⟩;have O1:=hid o1;have G1:=hid g1;clear o1 g1;go_wp2;go_ret;exact ⟨p1,m1,rfl,O1.out,G1.out,a1,a2,k1⟩
set_option maxHeartbeats 800000 in
theorem choosePivot_any (w:World) (b c x y:Nat) (d:Array Nat) (hH:Dv w b c d) (hxy:x+12 < y) (hy:y≤d.size) (hsz:d.size < 4611686018427387904) :
  Calls Tryz.prog 335 #[.slice (some ⟨b,0,none⟩) d.size c,.int .i64 (x:Int),.int .i64 (y:Int)] w fun e w' =>
   ∃ p h:Nat,e=.returned (.tuple #[.int .i64 (p:Int),.int .i64 (h:Int)])∧x≤p∧p < y∧h≤2∧Nw w w':=by
 obtain ⟨l,hl⟩:∃ l,l=y - x:=⟨_,rfl⟩;obtain ⟨t,ht⟩:∃ t,t=l / 4:=⟨_,rfl⟩;have e0:(y:Int) - (x:Int)=(l:Int):=by omega
 have e1:(l:Int) / 4=(t:Int):=by omega
 have h1:4*t≤l:=by omega
 have h2:3≤t:=by omega
 have h3:x+l≤y:=by omega
 have h4:y≤x+l:=by omega
 have HH:=hid hH;have hbl:=hH.lt;obtain ⟨t2,ht2⟩:∃ t2,t2=t*2:=⟨_,rfl⟩;obtain ⟨t3,ht3⟩:∃ t3,t3=t*3:=⟨_,rfl⟩;obtain ⟨i,hi⟩:∃ i,i=x+t:=⟨_,rfl⟩;obtain ⟨j,hj⟩:∃ j,j=x+t2:=⟨_,rfl⟩;obtain ⟨k,hk⟩:∃ k,k=x+t3:=⟨_,rfl⟩;have e2:(t:Int)*2=(t2:Int):=by omega
 have e3:(t:Int)*3=(t3:Int):=by omega
 have ei:(x:Int)+(t:Int)=(i:Int):=by omega
 have ej:(x:Int)+(t2:Int)=(j:Int):=by omega
 have ek:(x:Int)+(t3:Int)=(k:Int):=by omega
 have b1:x+3≤i:=by omega
 have b2:i+3≤j:=by omega
 have b3:j+3≤k:=by omega
 have b4:k+3≤y:=by omega
 have hC:Ctr (w.alloc (.cells #[.int .i64 0] 3)) w.heap.size 0:=heap_alloc_new w _;have HC:=hid hC;have hD0:Dv (w.alloc (.cells #[.int .i64 0] 3)) b c d:=HH.out.nw (Nw.alloc' (Nw.refl w) _);have HD0:=hid hD0;have HN0:=hid (Nw.alloc' (Nw.refl w) (.cells #[.int .i64 0] 3));have hbne:b≠w.heap.size:=by omega
 have fin:∀ (p m:Nat) (w':World),x≤p→p < y→Ctr w' w.heap.size m→Kp w.heap.size w.heap.size (w.alloc (.cells #[.int .i64 0] 3)) w' →
   Nw w w':=fun p m w' _ _ _ hk=>Kp.nw HN0.out hk (Nat.le_refl _) (Nat.le_refl _)
 have FIN:=hid fin;clear hl ht hH ht2 ht3 hi hj hk hC hD0 fin;by_cases hn:50≤l
 ·go_enter Tryz.func335,Tryz.ntmps335
  go_wp2_with fail;refine (medianAdj_any _ b c i w.heap.size 0 d HD0.out (by omega) (by omega) (by omega) HC.out (by omega) hbne).mono ?_;rintro e w1 ⟨p1,m1,rfl,o1,g1,a1,a2,k1⟩;have hp1:x≤p1∧p1 < y:=by omega
  have O1:=hid hp1;have G1:=hid g1;have K1:=hid k1;clear o1 hp1 g1 k1;go_wp2_with fail;refine (medianAdj_any _ b c j w.heap.size m1 d (HD0.out.kp K1.out hbne hbne) (by omega) (by omega) (by omega) G1.out (by omega) hbne).mono ?_;rintro e w2 ⟨p2,m2,rfl,o2,g2,a3,a4,k2⟩;have hp2:x≤p2∧p2 < y:=by omega
  have O2:=hid hp2;have G2:=hid g2;have K2:=hid (K1.out.trans k2 (.inl rfl) (.inl rfl));clear o2 hp2 g2 k2;go_wp2_with fail;refine (medianAdj_any _ b c k w.heap.size m2 d (HD0.out.kp K2.out hbne hbne) (by omega) (by omega) (by omega) G2.out (by omega) hbne).mono ?_;rintro e w3 ⟨p3,m3,rfl,o3,g3,a5,a6,k3⟩;have hp3:x≤p3∧p3 < y:=by omega
  have O3:=hid hp3;have G3:=hid g3;have K3:=hid (K2.out.trans k3 (.inl rfl) (.inl rfl));clear o3 hp3 g3 k3;go_wp2_with fail;refine (median_any _ b c p1 p2 p3 w.heap.size m3 d (HD0.out.kp K3.out hbne hbne) (by have:=O1.out;omega) (by have:=O2.out;omega) (by have:=O3.out;omega) G3.out (by omega) hbne).mono ?_;rintro e w4 ⟨p4,m4,rfl,o4,g4,a7,a8,k4⟩;have hp4:x≤p4∧p4 < y:=by have:=O1.out;have:=O2.out;have:=O3.out;omega
  have c4:=g4.cell;have NW:=hid (FIN.out p4 m4 w4 hp4.1 hp4.2 g4 (K3.out.trans k4 (.inl rfl) (.inl rfl)));have O4:=hid hp4;clear o4 hp4 g4 k4;by_cases z0:m4=0
  ·have z1:((m4:Int) == 0)=true:=by rw [beq_iff_eq];omega
   clear z0;go_wp2;go_ret2;exact ⟨p4,1,rfl,O4.out.1,O4.out.2,by omega,NW.out⟩
  ·have z1:((m4:Int) == 0)=false:=by rw [beq_eq_false_iff_ne];omega
   by_cases z2:m4=12
   ·have z3:((m4:Int) == 12)=true:=by rw [beq_iff_eq];omega
    clear z2;go_wp2;go_ret2;exact ⟨p4,2,rfl,O4.out.1,O4.out.2,by omega,NW.out⟩
   ·have z3:((m4:Int) == 12)=false:=by rw [beq_eq_false_iff_ne];omega
    go_wp2;go_ret2;exact ⟨p4,0,rfl,O4.out.1,O4.out.2,by omega,NW.out⟩
 ·go_enter Tryz.func335,Tryz.ntmps335
  go_wp2_with fail;refine (median_any _ b c i j k w.heap.size 0 d HD0.out (by omega) (by omega) (by omega) HC.out (by omega) hbne).mono ?_;rintro e w4 ⟨p4,m4,rfl,o4,g4,a7,a8,k4⟩;have hp4:x≤p4∧p4 < y:=by omega
  have c4:=g4.cell;have NW:=hid (FIN.out p4 m4 w4 hp4.1 hp4.2 g4 k4);have O4:=hid hp4;clear o4 hp4 g4 k4;by_cases z0:m4=0
  ·have z1:((m4:Int) == 0)=true:=by rw [beq_iff_eq];omega
   clear z0;go_wp2;go_ret2;exact ⟨p4,1,rfl,O4.out.1,O4.out.2,by omega,NW.out⟩
  ·have z1:((m4:Int) == 0)=false:=by rw [beq_eq_false_iff_ne];omega
   have z3:((m4:Int) == 12)=false:=by rw [beq_eq_false_iff_ne];omega
   go_wp2;go_ret2;exact ⟨p4,0,rfl,O4.out.1,O4.out.2,by omega,NW.out⟩
end
section
open Go Go.RowKit Go.Sort
def Xr (w:World) (g:Nat):Prop:=∃ z:Int,0≤z∧z≤18446744073709551615∧w.heap[g]? = some (.cells #[.int .u64 z] 415 (0,0))
theorem xor_range (a b:Int):0≤bits .xor .u64 a b∧bits .xor .u64 a b≤18446744073709551615:=by
 have h:bits .xor .u64 a b=IntKind.u64.wrap (BitVec.ofInt 64 a ^^^ BitVec.ofInt 64 b).toNat:=rfl;rw [h,IntKind.wrap_u64];omega
theorem Next_any (w:World) (g:Nat) (h:Xr w g) :
  Calls Tryz.prog 316 #[.pointer (some ⟨g,0,none⟩)] w fun e w'=>∃ z:Int,e=.returned (.int .u64 z)∧0≤z∧z≤18446744073709551615∧Xr w' g∧Kp g g w w':=by
 obtain ⟨z,h0,h1,hb⟩:=h;have hc:=cell_of_one hb;have hf:=free_of_one hb;have HB0:=hid hb;clear hb;go_enter Tryz.func316,Tryz.ntmps316
 go_wp2;go_region
 all_goals go_wp2
 have hr1:=xor_range z (IntKind.u64.wrap (z*8192));generalize bits BinOp.xor IntKind.u64 z (IntKind.u64.wrap (z*8192))=z1 at *;have hb1:(w.setCell ⟨g,0,none⟩ (.int .u64 z1)).drew.heap[g]? = some (.cells #[.int .u64 z1] 415 (0,0)):=one_setCell HB0.out;have hk1:Kp g g w (w.setCell ⟨g,0,none⟩ (.int .u64 z1)).drew:=((Kp.refl g g w).setCell' (.inl rfl) _).drewN' 1;generalize (w.setCell ⟨g,0,none⟩ (.int .u64 z1)).drew=w1 at *;have hc1:=cell_of_one hb1;have hf1:=free_of_one hb1;have HB1:=hid hb1;have HK1:=hid hk1;clear hb1 hk1;go_region
 all_goals go_wp2
 have hr2:=xor_range z1 (z1 / 128);generalize bits BinOp.xor IntKind.u64 z1 (z1 / 128)=z2 at *;have hb2:(w1.setCell ⟨g,0,none⟩ (.int .u64 z2)).drew.heap[g]? = some (.cells #[.int .u64 z2] 415 (0,0)):=one_setCell HB1.out;have hk2:Kp g g w (w1.setCell ⟨g,0,none⟩ (.int .u64 z2)).drew:=(HK1.out.setCell' (.inl rfl) _).drewN' 1;generalize (w1.setCell ⟨g,0,none⟩ (.int .u64 z2)).drew=w2 at *;have hc2:=cell_of_one hb2;have hf2:=free_of_one hb2;have HB2:=hid hb2;have HK2:=hid hk2;clear hb2 hk2;go_region
 all_goals go_wp2
 have hr3:=xor_range z2 (IntKind.u64.wrap (z2*131072));generalize bits BinOp.xor IntKind.u64 z2 (IntKind.u64.wrap (z2*131072))=z3 at *;have hb3:(w2.setCell ⟨g,0,none⟩ (.int .u64 z3)).drew.heap[g]? = some (.cells #[.int .u64 z3] 415 (0,0)):=one_setCell HB2.out;have hk3:Kp g g w (w2.setCell ⟨g,0,none⟩ (.int .u64 z3)).drew:=(HK2.out.setCell' (.inl rfl) _).drewN' 1;generalize (w2.setCell ⟨g,0,none⟩ (.int .u64 z3)).drew=w3 at *;have hc3:=cell_of_one hb3;have hf3:=free_of_one hb3;have HB3:=hid hb3;have HK3:=hid hk3;clear hb3 hk3;go_wp2;go_ret;exact ⟨z3,rfl,hr3.1,hr3.2,⟨z3,hr3.1,hr3.2,HB3.out⟩,HK3.out⟩
theorem nextPow_any (w:World) (l:Nat) (h:l≤4611686018427387904) (h1:0 < l) :
  Calls Tryz.prog 315 #[.int .i64 (l:Int)] w fun e w'=>∃ m:Nat,e=.returned (.int .u64 (m:Int))∧0 < m∧m≤2*l∧w=w':=by
 have hw:=wd_spec (l+1) (by omega);have hwe:wd (l+1)=Lib.bitLen l:=by unfold wd;rw [if_neg (by omega),Nat.add_sub_cancel]
 rw [hwe] at hw
 have h2:Lib.bitLen l≤63:=hw.2 63 (by have:(2:Nat) ^ 63=9223372036854775808:=by decide
                                      omega)
 have h3:2 ^ Lib.bitLen l≤2*l:=by
  rcases Nat.eq_zero_or_pos (Lib.bitLen l) with h0 | h0
  ·rw [h0];omega
  ·have e:2 ^ Lib.bitLen l=2*2 ^ (Lib.bitLen l - 1):=by rw [← Nat.pow_succ'];congr 1;omega
   have:¬ l+1≤2 ^ (Lib.bitLen l - 1):=fun hh=>by have:=hw.2 _ hh;omega
   omega
 have H3:=hid h3;clear hw hwe h3;have e1:IntKind.u64.wrap (l:Int)=(l:Int):=IntWalk.u64_in _ (by omega);go_enter Tryz.func315,Tryz.ntmps315
 go_wp2_with (go_at_call 254;refine (Tryz.bits_Len (l:Int) w (by omega) (by omega)).mono ?_;rintro e w' ⟨rfl,rfl⟩)
 go_ret;have h4:(2:Nat) ^ Lib.bitLen l≤2*l:=H3.out;have h5:0 < 2 ^ Lib.bitLen l:=Nat.pow_pos (by omega);have h6:((2:Int) ^ Lib.bitLen l)=((2 ^ Lib.bitLen l:Nat):Int):=by simp
 refine ⟨2 ^ Lib.bitLen l,?_,h5,h4,rfl⟩;rw [h6];generalize 2 ^ Lib.bitLen l=m at *;exact ret_u64 (IntWalk.u64_in _ (by omega))
theorem Xr.nw {w w':World} {g:Nat} (h:Xr w g) (hk:Nw w w'):Xr w' g:=by
 obtain ⟨z,a,b,h⟩:=h;exact ⟨z,a,b,(hk.block g (lt_of_block h)).trans h⟩
theorem Xr.set_ {w:World} {g:Nat} (h:Xr w g) (p:Addr) (u:Value) (hp:p.block≠g):Xr (w.setCell p u) g:=by
 obtain ⟨z,a,b,h⟩:=h;exact ⟨z,a,b,(Below.heap_setCell w p u g (Ne.symm hp)).trans h⟩
theorem and_range (z:Int) (m:Nat) (h0:0≤z) (h1:z≤18446744073709551615) (hm:0 < m) (hm2:m≤9223372036854775807):∃ o:Nat,bits .and .u64 z ((m:Int) - 1)=(o:Int)∧o < m:=by
 refine ⟨z.toNat &&& (m - 1),?_,?_⟩
 ·rw [u64_and z _ h0 (by omega) (by omega) (by omega)];congr 2
  omega
 ·have:=Nat.and_le_right (n:=z.toNat) (m:=m - 1);omega
set_option maxHeartbeats 1600000 in
theorem breakPatterns_any (w:World) (b c x y:Nat) (d:Array Nat) (hH:Dv w b c d) (hxy:x+12 < y) (hy:y≤d.size) (hsz:d.size < 2305843009213693951) :
  Calls Tryz.prog 334 #[.slice (some ⟨b,0,none⟩) d.size c,.int .i64 (x:Int),.int .i64 (y:Int)] w fun e w' =>
   ∃ d':Array Nat,e=.returned (.tuple #[])∧d'.size=d.size∧Dv w' b c d'∧Kp b b w w'∧PermIn x y d d':=by
 obtain ⟨l,hl⟩:∃ l,l=y - x:=⟨_,rfl⟩;obtain ⟨t4,ht⟩:∃ t,t=l / 4:=⟨_,rfl⟩;obtain ⟨t2,ht2⟩:∃ t2,t2=t4*2:=⟨_,rfl⟩;obtain ⟨i0,hi0⟩:∃ i,i+1=x+t2:=⟨x+t2 - 1,by omega⟩;have e0:(y:Int) - (x:Int)=(l:Int):=by omega
 have e1:(l:Int) / 4=(t4:Int):=by omega
 have e2:(t4:Int)*2=(t2:Int):=by omega
 have e3:(x:Int)+(t2:Int)=((i0+1:Nat):Int):=by omega
 have e4:IntKind.u64.wrap (l:Int)=(l:Int):=IntWalk.u64_in _ (by omega);have h2:x+5≤i0:=by omega
 have h3:i0+5≤y:=by omega
 have h4:x+l≤y:=by omega
 have h5:y≤x+l:=by omega
 have HH:=hid hH;have hbl:=hH.lt;have hbg:b≠w.heap.size:=by omega
 clear hl ht ht2 hi0 hH;go_enter Tryz.func334,Tryz.ntmps334
 go_wp2_with (go_at_call 315;refine (nextPow_any _ l (by omega) (by omega)).mono ?_;rintro e w' ⟨m,rfl,hm0,hm1,rfl⟩)
 have HX0:Xr (w.alloc (.cells #[.int .u64 (l:Int)] 415)) w.heap.size:=⟨(l:Int),by omega,by omega,heap_alloc_new w _⟩;have HN0:=Nw.alloc' (Nw.refl w) (.cells #[.int .u64 (l:Int)] 415);go_loopw [9] (fun vi wr=>∃ (t:Nat) (dk:Array Nat),vi=.int .i64 ((i0+t:Nat):Int)∧t≤3∧dk.size=d.size∧Dv wr b c dk∧Xr wr w.heap.size∧Kp b b w wr∧PermIn x y d dk) (fun vi _=>(i0+3 - intOf vi).toNat)
 case atStart=>exact ⟨0,d,rfl,by omega,rfl,HH.out.nw HN0,HX0,HN0.kp b b,permIn_refl _ _ _⟩
 case round =>
  clear HX0 HN0;obtain ⟨t,dk,rfl,ht,hsk,hD,hX,hK,hPM⟩:=hrel;have HS:=hid hsk;have HPM:=hid hPM;obtain ⟨idx,hidx⟩:∃ i,i=i0+t:=⟨_,rfl⟩;rw [← hidx];have HIDX:=hid hidx;have hx1:i0≤idx:=by omega
  have hx2:idx≤i0+3:=by omega
  by_cases hlt:t < 3
  ·have hle:idx≤i0+2:=by omega
   have hle2:(idx:Int)≤(i0:Int)+1+1:=by omega
   clear hsk hPM hidx;go_wp2_with fail;refine (Next_any _ _ hX).mono ?_;rintro e w1 ⟨z,rfl,z0,z1,hX1,hK1⟩;obtain ⟨o,ho,hom⟩:=and_range z m z0 z1 hm0 (by omega);have hDw:=hD.kp hK1 hbg hbg;have HX1:=hid hX1;have HK1:=hid (hK.trans hK1 (.inr (.inr (Nat.le_refl _))) (.inr (.inr (Nat.le_refl _))));have em:IntKind.u64.wrap ((m:Int) - 1)=(m:Int) - 1:=IntWalk.u64_in _ (by omega);have eo:IntKind.i64.wrap (o:Int)=(o:Int):=IntWalk.i64_in _ (by omega);clear hX hD hK hX1 hK1;by_cases hol:l≤o
   ·obtain ⟨o2,ho2⟩:∃ o2,o2=o - l:=⟨_,rfl⟩;have eo2:(o:Int) - (l:Int)=(o2:Int):=by omega
    have ho2l:o2 < l:=by omega
    clear ho2;obtain ⟨jdx,hjdx⟩:∃ j,j=x+o2:=⟨_,rfl⟩;have ej:(x:Int)+(o2:Int)=(jdx:Int):=by omega
    have hjy:jdx < y:=by omega
    have hxj:x≤jdx:=by omega
    have wj:IntKind.i64.wrap (jdx:Int)=(jdx:Int):=IntWalk.i64_in _ (by omega);clear hjdx;have hci:=hDw.cell (j:=idx) (by have:=HS.out;omega);have hcj:=hDw.cell (j:=jdx) (by have:=HS.out;omega);have hfi:=hDw.free idx (by have:=HS.out;omega);have hfj:=hDw.free jdx (by have:=HS.out;omega);obtain ⟨q1,hp1⟩:∃ r,r=dk[idx]!:=⟨_,rfl⟩;obtain ⟨q2,hp2⟩:∃ r,r=dk[jdx]!:=⟨_,rfl⟩;rw [← hp1] at hci;rw [← hp2] at hcj;have HP12:=hid (And.intro hp1 hp2);have HDW:=hid hDw;have k1:(idx:Int) < (d.size:Int):=by omega
    have k2:(jdx:Int) < (d.size:Int):=by omega
    obtain ⟨v2,hst2⟩:=sw_cell (p:=⟨b,idx,none⟩) (u:=.int .u64 (q2:Int)) hcj;clear hp1 hp2 hDw;go_wp2;go_region
    all_goals go_wp2
    go_roundw
    case rel =>
     obtain ⟨hp1,hp2⟩:=HP12.out;refine ⟨t+1,swp dk idx jdx,by have:=HIDX.out;go_num,by omega,by rw [size_swp];exact HS.out,?_,?_,?_,permIn_trans _ _ _ _ _ HPM.out (swp_permIn dk x y idx jdx (by omega) (by omega) (by omega) (by omega) (by have:=HS.out;omega))⟩
     ·rw [hp1,hp2];exact (HDW.out.swap idx jdx).nw (Nw.drewN _ 1)
     ·exact ((HX1.out.set_ ⟨b,idx,none⟩ _ (by exact hbg)).set_ ⟨b,jdx,none⟩ _ (by exact hbg)).nw (Nw.drewN _ 1)
     ·exact ((HK1.out.setCell' (.inl rfl) _).setCell' (.inl rfl) _).drewN' 1
    case measure=>simp [intOf];omega
   ·have hol2:o < l:=by omega
    obtain ⟨jdx,hjdx⟩:∃ j,j=x+o:=⟨_,rfl⟩;have ej:(x:Int)+(o:Int)=(jdx:Int):=by omega
    have hjy:jdx < y:=by omega
    have hxj:x≤jdx:=by omega
    have wj:IntKind.i64.wrap (jdx:Int)=(jdx:Int):=IntWalk.i64_in _ (by omega);clear hjdx;have hci:=hDw.cell (j:=idx) (by have:=HS.out;omega);have hcj:=hDw.cell (j:=jdx) (by have:=HS.out;omega);have hfi:=hDw.free idx (by have:=HS.out;omega);have hfj:=hDw.free jdx (by have:=HS.out;omega);obtain ⟨q1,hp1⟩:∃ r,r=dk[idx]!:=⟨_,rfl⟩;obtain ⟨q2,hp2⟩:∃ r,r=dk[jdx]!:=⟨_,rfl⟩;rw [← hp1] at hci;rw [← hp2] at hcj;have HP12:=hid (And.intro hp1 hp2);have HDW:=hid hDw;have k1:(idx:Int) < (d.size:Int):=by omega
    have k2:(jdx:Int) < (d.size:Int):=by omega
    obtain ⟨v2,hst2⟩:=sw_cell (p:=⟨b,idx,none⟩) (u:=.int .u64 (q2:Int)) hcj;clear hp1 hp2 hDw;go_wp2;go_region
    all_goals go_wp2
    go_roundw
    case rel =>
     obtain ⟨hp1,hp2⟩:=HP12.out;refine ⟨t+1,swp dk idx jdx,by have:=HIDX.out;go_num,by omega,by rw [size_swp];exact HS.out,?_,?_,?_,permIn_trans _ _ _ _ _ HPM.out (swp_permIn dk x y idx jdx (by omega) (by omega) (by omega) (by omega) (by have:=HS.out;omega))⟩
     ·rw [hp1,hp2];exact (HDW.out.swap idx jdx).nw (Nw.drewN _ 1)
     ·exact ((HX1.out.set_ ⟨b,idx,none⟩ _ (by exact hbg)).set_ ⟨b,jdx,none⟩ _ (by exact hbg)).nw (Nw.drewN _ 1)
     ·exact ((HK1.out.setCell' (.inl rfl) _).setCell' (.inl rfl) _).drewN' 1
    case measure=>simp [intOf];omega
  ·have hgt:¬ (idx:Int)≤(i0:Int)+1+1:=by omega
   have hgt2:i0+2 < idx:=by omega
   clear hsk hPM hidx;go_wp2;go_end0
   exact ⟨rfl,dk,HS.out,hD,hK,HPM.out⟩
end
section
open Go Go.RowKit Go.Sort
set_option maxRecDepth 100000 in
set_option maxHeartbeats 3200000 in
theorem partialIns_any (w:World) (b c x y:Nat) (d:Array Nat) (hH:Dv w b c d) (hxy:x+12 < y) (hy:y≤d.size) (hsz:d.size < 4611686018427387904) :
  Calls Tryz.prog 337 #[.slice (some ⟨b,0,none⟩) d.size c,.int .i64 (x:Int),.int .i64 (y:Int)] w fun e w' =>
   e=.returned (.bool (Sort.partialInsertionSort ltN d x y).2)∧Dv w' b c (Sort.partialInsertionSort ltN d x y).1∧Kp b b w w':=by
 go_enter Tryz.func337,Tryz.ntmps337
 go_wp2
 go_loopg [7,8] 5 (fun k vi vs wr=>∃ (i s:Nat) (dk:Array Nat),vi=.int .i64 i∧vs=.int .i64 s∧s≤5∧k=5 - s∧x < i∧i≤y∧dk.size=d.size∧Dv wr b c dk∧Kp b b w wr∧partialIns ltN x y (5 - s) i dk=Sort.partialInsertionSort ltN d x y)
 case atStart=>exact ⟨x+1,0,d,by go_num,rfl,by omega,rfl,by omega,by omega,rfl,hH,Kp.refl _ _ _,rfl⟩
 case round =>
  obtain ⟨i,s,dk,rfl,rfl,hs5,hk,h1,h2,hsk,hD,hK,hO⟩:=hrel;have HO:=hid hO;have HS:=hid hsk;have HD:=hid hD;have HKK:=hid hk;clear hO hsk hD hk hH;by_cases hs:s < 5
  ·go_upto_block 2 with fail
   go_cut [7] (fun v w2=>∃ k:Nat,v=.int .i64 k∧i≤k∧k≤y∧scanSorted ltN dk y i=k∧Dr wr w2)
   case first =>
    go_wp2_with fail
    go_loopg [7] (y - i) (fun m v w2=>∃ k:Nat,v=.int .i64 k∧m=y - k∧i≤k∧k≤y∧scanSorted ltN dk y k=scanSorted ltN dk y i∧Dr wr w2)
    case atStart=>exact ⟨i,rfl,rfl,by omega,by omega,rfl,Dr.refl _⟩
    case round =>
     obtain ⟨k,rfl,hm,h3,h4,h5,hd⟩:=hrel;have HM:=hid hm;have H5:=hid h5;have HD2:=hid (HD.out.nw hd.nw);clear hm h5;by_cases hk:k < y
     ·obtain ⟨k,rfl⟩:∃ t,k=t+1:=⟨k - 1,by omega⟩;have hg:((k+1:Nat):Int) < (y:Int):=by omega
      have hg2:(k:Int)+1 < (y:Int):=by omega
      have hck:=HD2.out.cell (j:=k) (by have:=HS.out;omega);have hck1:=HD2.out.cell (j:=k+1) (by have:=HS.out;omega);have hfk:=HD2.out.free k (by have:=HS.out;omega);have hfk1:=HD2.out.free (k+1) (by have:=HS.out;omega);have i0:(0:Int)≤(k:Int)+1:=by omega
      have i1:(k:Int)+1 < (d.size:Int):=by omega
      have i2:((k:Int)+1).toNat=k+1:=by omega
      have i3:(k:Int) < (d.size:Int):=by omega
      have e1:IntKind.i64.wrap (k:Int)=(k:Int):=IntWalk.i64_in _ (by omega);obtain ⟨p,hp⟩:∃ p,p=dk[k]!:=⟨_,rfl⟩;obtain ⟨q,hq⟩:∃ q,q=dk[k+1]!:=⟨_,rfl⟩;rw [← hp] at hck;rw [← hq] at hck1;have HPQ:=hid (And.intro hp hq);clear hp hq;by_cases hcmp:q < p
      ·go_wp2;go_quiet ((go_at_call 309;exact quiet1 (Less_any _ _ _)))
       go_wp2
       go_meet
       case rel =>
        obtain ⟨hp,hq⟩:=HPQ.out;exact ⟨k+1,rfl,h3,h4,by rw [← H5.out];exact scanSorted_stop ltN dk y (k+1) (.inr (by simp only [Nat.add_sub_cancel];rw [decide_eq_true_iff];omega)),hd.step _⟩
      ·go_wp2;go_quiet ((go_at_call 309;exact quiet1 (Less_any _ _ _)))
       go_wp2
       go_roundg (gk - 1)
       case measure=>have:=HM.out;omega
       case rel =>
        obtain ⟨hp,hq⟩:=HPQ.out;have:=HM.out;exact ⟨k+1+1,by go_num,by omega,by omega,by omega,by rw [← H5.out];exact (scanSorted_go ltN dk y (k+1) (by omega) (by simp only [Nat.add_sub_cancel];rw [decide_eq_false_iff_not];omega)).symm,hd.step _⟩
     ·have hg:decide ((k:Int) < (y:Int))=false:=by rw [decide_eq_false_iff_not];omega
      go_wp2;go_quiet (fail)
      go_wp2
      go_meet
      case rel=>exact ⟨k,rfl,h3,h4,by rw [← H5.out];exact scanSorted_stop ltN dk y k (.inl hk),hd.step _⟩
   case rest =>
    obtain ⟨k,rfl,h3,h4,h5,hd⟩:=hcut;have H5:=hid h5;have HD2:=hid (HD.out.nw hd.nw);have HK2:=hid (hK.nw' hd.nw);clear h5 hd;by_cases hky:k=y
    ·have hkb:((k:Int) == (y:Int))=true:=by rw [beq_iff_eq];omega
     have HKY:=hid hky;clear hky;go_wp2;go_ret;have h6:=pi_true ltN x y s i dk hs (by rw [H5.out,HKY.out]);rw [HO.out] at h6;rw [h6];exact ⟨rfl,HD2.out,HK2.out⟩
    ·have hkb:((k:Int) == (y:Int))=false:=by rw [beq_eq_false_iff_ne];omega
     have hlt:k < y:=by omega
     clear hky;by_cases h50:y - x < 50
     ·have h50':(y:Int) - (x:Int) < 50:=by omega
      go_wp2;go_ret;have h6:=pi_short ltN x y s i dk hs (by rw [H5.out];omega) h50;rw [HO.out] at h6;rw [h6];exact ⟨rfl,HD2.out,HK2.out⟩
     ·have h50':¬ (y:Int) - (x:Int) < 50:=by omega
      obtain ⟨k,rfl⟩:∃ t,k=t+1:=⟨k - 1,by omega⟩;have hck:=HD2.out.cell (j:=k) (by have:=HS.out;omega);have hck1:=HD2.out.cell (j:=k+1) (by have:=HS.out;omega);have hfk:=HD2.out.free k (by have:=HS.out;omega);have hfk1:=HD2.out.free (k+1) (by have:=HS.out;omega);have i0:(0:Int)≤(k:Int)+1:=by omega
      have i1:(k:Int)+1 < (d.size:Int):=by omega
      have i2:((k:Int)+1).toNat=k+1:=by omega
      have i3:(k:Int) < (d.size:Int):=by omega
      have e1:IntKind.i64.wrap (k:Int)=(k:Int):=IntWalk.i64_in _ (by omega);obtain ⟨p,hp⟩:∃ p,p=dk[k]!:=⟨_,rfl⟩;obtain ⟨q,hq⟩:∃ q,q=dk[k+1]!:=⟨_,rfl⟩;rw [← hp] at hck;rw [← hq] at hck1;have HPQ:=hid (And.intro hp hq);clear hp hq;go_wp2;go_region
      all_goals go_upto_if 61 with fail
      have hD3:Dv ((wc.setCell ⟨b,k+1,none⟩ (.int .u64 (p:Int))).setCell ⟨b,k,none⟩ (.int .u64 (q:Int))).drew b c (swp dk (k+1) k):=by
       obtain ⟨hp,hq⟩:=HPQ.out;rw [hp,hq];exact (HD2.out.swap (k+1) k).nw (Nw.drewN _ 1)
      have hK3:Kp b b w ((wc.setCell ⟨b,k+1,none⟩ (.int .u64 (p:Int))).setCell ⟨b,k,none⟩ (.int .u64 (q:Int))).drew:=((HK2.out.setCell' (.inl rfl) _).setCell' (.inl rfl) _).drewN' 1;generalize ((wc.setCell ⟨b,k+1,none⟩ (.int .u64 (p:Int))).setCell ⟨b,k,none⟩ (.int .u64 (q:Int))).drew=w3 at *;have hs1:(swp dk (k+1) k).size=d.size:=by rw [size_swp];exact HS.out
      have hfd:fixDown ltN x (k+1) (swp dk (k+1) k)=if k+1 - x ≥ 2 then shiftDown ltN k (swp dk (k+1) k) else swp dk (k+1) k:=rfl
      have hgo:=pi_go ltN x y s i (k+1) dk hs H5.out (by omega) h50;simp only [Nat.add_sub_cancel] at hgo;rw [HO.out] at hgo;generalize swp dk (k+1) k=d1 at *;have HD3:=hid hD3;have HK3:=hid hK3;have HS1:=hid hs1;have HFD:=hid hfd;have HGO:=hid hgo;clear hD3 hK3 hs1 hfd hgo hck hck1 hfk hfk1 HPQ H5 HD2 HK2 HD HO HS i0 i1 i2 i3;go_cut [9] (fun _ w4=>∃ d2:Array Nat,d2.size=d.size∧fixDown ltN x (k+1) d1=d2∧Dv w4 b c d2∧Kp b b w w4)
      case first =>
       by_cases hk2:k+1 - x ≥ 2
       ·have hk2':(2:Int)≤(k:Int)+1 - (x:Int):=by omega
        go_wp2_with fail
        go_loopg [9] k (fun m v w4=>∃ (j:Nat) (dj:Array Nat),v=.int .i64 j∧m=j∧j≤k∧dj.size=d.size∧Dv w4 b c dj∧Kp b b w w4∧shiftDown ltN j dj=shiftDown ltN k d1)
        case atStart=>exact ⟨k,d1,rfl,rfl,by omega,HS1.out,HD3.out,HK3.out,rfl⟩
        case round =>
         obtain ⟨j,dj,rfl,hm,h6,hsj,hDj,hKj,hI⟩:=hrel;have HM:=hid hm;have HSJ:=hid hsj;have HDJ:=hid hDj;have HI:=hid hI;clear hm hsj hDj hI;by_cases hj:1≤j
         ·obtain ⟨j,rfl⟩:∃ t,j=t+1:=⟨j - 1,by omega⟩;have hg:(1:Int)≤(j:Int)+1:=by omega
          have hg':(1:Int)≤((j+1:Nat):Int):=by omega
          have hck:=HDJ.out.cell (j:=j) (by have:=HSJ.out;omega);have hck1:=HDJ.out.cell (j:=j+1) (by have:=HSJ.out;omega);have hfk:=HDJ.out.free j (by have:=HSJ.out;omega);have hfk1:=HDJ.out.free (j+1) (by have:=HSJ.out;omega);have i0:(0:Int)≤(j:Int)+1:=by omega
          have i1:(j:Int)+1 < (d.size:Int):=by omega
          have i2:((j:Int)+1).toNat=j+1:=by omega
          have i3:(j:Int) < (d.size:Int):=by omega
          have e1:IntKind.i64.wrap (j:Int)=(j:Int):=IntWalk.i64_in _ (by omega);obtain ⟨p,hp⟩:∃ p,p=dj[j]!:=⟨_,rfl⟩;obtain ⟨q,hq⟩:∃ q,q=dj[j+1]!:=⟨_,rfl⟩;rw [← hp] at hck;rw [← hq] at hck1;have HPQ:=hid (And.intro hp hq);clear hp hq;by_cases hcmp:q < p
          ·go_wp2;go_quiet ((go_at_call 309;exact quiet1 (Less_any _ _ _)))
           go_wp2;go_region
           all_goals go_wp2
           go_roundg j
           case measure=>have:=HM.out;omega
           case rel =>
            obtain ⟨hp,hq⟩:=HPQ.out;refine ⟨j,swp dj (j+1) j,by go_num,rfl,by omega,by rw [size_swp];exact HSJ.out,?_,((hKj.drewN' _).setCell' (.inl rfl) _).setCell' (.inl rfl) _,?_⟩
            ·rw [hp,hq];exact (HDJ.out.nw (Nw.drewN wr _)).swap (j+1) j
            ·rw [← HI.out,shiftDown_go ltN (j+1) dj (by omega) (by simp only [Nat.add_sub_cancel];rw [decide_eq_true_iff];omega)];rfl
          ·go_wp2;go_quiet ((go_at_call 309;exact quiet1 (Less_any _ _ _)))
           go_wp2
           go_meet
           case rel =>
            obtain ⟨hp,hq⟩:=HPQ.out;refine ⟨dj,HSJ.out,?_,HDJ.out.nw (Nw.drewN wr _),hKj.drewN' _⟩;rw [HFD.out,if_pos hk2,← HI.out,shiftDown_stop ltN (j+1) dj (.inr (by simp only [Nat.add_sub_cancel];rw [decide_eq_false_iff_not];omega))]
         ·obtain rfl:j=0:=by omega
          go_wp2
          go_meet
          case rel=>exact ⟨dj,HSJ.out,by rw [HFD.out,if_pos hk2,← HI.out,shiftDown_stop ltN 0 dj (.inl rfl)],HDJ.out,hKj⟩
       ·have hk2':¬ (2:Int)≤(k:Int)+1 - (x:Int):=by omega
        go_wp2
        go_meet
        case rel=>exact ⟨d1,HS1.out,by rw [HFD.out,if_neg hk2],HD3.out,HK3.out⟩
      case rest =>
       obtain ⟨d2,hs2,hf2,hD4,hK4⟩:=hcut;have hfu:fixUp ltN y (k+1) d2=if y - (k+1) ≥ 2 then shiftUp ltN y (k+2) d2 else d2:=rfl
       have hgo:=HGO.out;rw [hf2] at hgo;have HS2:=hid hs2;have HD4:=hid hD4;have HK4:=hid hK4;have HFU:=hid hfu;have HGO2:=hid hgo;clear hs2 hf2 hD4 hK4 hfu hgo HGO HFD HS1 HD3 HK3;have hfin:∀ d3,fixUp ltN y (k+1) d2=d3→partialIns ltN x y (5 - (s+1)) (k+1) d3=Sort.partialInsertionSort ltN d x y:=fun d3 h=>by
        have:=HGO2.out;rw [h] at this;exact this.symm
       have FIN:=hid hfin;clear hfin;by_cases hk2:y - (k+1) ≥ 2
       ·have hk2':(2:Int)≤(y:Int) - ((k:Int)+1):=by omega
        go_wp2_with fail
        go_loopg [10] (y - (k+2)) (fun m v w4=>∃ (j:Nat) (dj:Array Nat),v=.int .i64 j∧m=y - j∧k+2≤j∧j≤y∧dj.size=d.size∧Dv w4 b c dj∧Kp b b w w4∧shiftUp ltN y j dj=shiftUp ltN y (k+2) d2)
        case atStart=>exact ⟨k+2,d2,by go_num,rfl,by omega,by omega,HS2.out,HD4.out,HK4.out,rfl⟩
        case round =>
         obtain ⟨j,dj,rfl,hm,h6,h7,hsj,hDj,hKj,hI⟩:=hrel;have HM:=hid hm;have HSJ:=hid hsj;have HDJ:=hid hDj;have HI:=hid hI;clear hm hsj hDj hI;by_cases hj:j < y
         ·obtain ⟨j,rfl⟩:∃ t,j=t+1:=⟨j - 1,by omega⟩;have hg:(j:Int)+1 < (y:Int):=by omega
          have hg':((j+1:Nat):Int) < (y:Int):=by omega
          have hck:=HDJ.out.cell (j:=j) (by have:=HSJ.out;omega);have hck1:=HDJ.out.cell (j:=j+1) (by have:=HSJ.out;omega);have hfk:=HDJ.out.free j (by have:=HSJ.out;omega);have hfk1:=HDJ.out.free (j+1) (by have:=HSJ.out;omega);have i0:(0:Int)≤(j:Int)+1:=by omega
          have i1:(j:Int)+1 < (d.size:Int):=by omega
          have i2:((j:Int)+1).toNat=j+1:=by omega
          have i3:(j:Int) < (d.size:Int):=by omega
          have e1:IntKind.i64.wrap (j:Int)=(j:Int):=IntWalk.i64_in _ (by omega);obtain ⟨p,hp⟩:∃ p,p=dj[j]!:=⟨_,rfl⟩;obtain ⟨q,hq⟩:∃ q,q=dj[j+1]!:=⟨_,rfl⟩;rw [← hp] at hck;rw [← hq] at hck1;have HPQ:=hid (And.intro hp hq);clear hp hq;by_cases hcmp:q < p
          ·go_wp2;go_quiet ((go_at_call 309;exact quiet1 (Less_any _ _ _)))
           go_wp2;go_region
           all_goals go_wp2
           go_roundg (gk - 1)
           case measure=>have:=HM.out;omega
           case rel =>
            obtain ⟨hp,hq⟩:=HPQ.out;have:=HM.out;refine ⟨j+1+1,swp dj (j+1) j,by go_num,by omega,by omega,by omega,by rw [size_swp];exact HSJ.out,?_,((hKj.drewN' _).setCell' (.inl rfl) _).setCell' (.inl rfl) _,?_⟩
            ·rw [hp,hq];exact (HDJ.out.nw (Nw.drewN wr _)).swap (j+1) j
            ·rw [← HI.out,shiftUp_go ltN y (j+1) dj hj (by simp only [Nat.add_sub_cancel];rw [decide_eq_true_iff];omega)];rfl
          ·go_wp2;go_quiet ((go_at_call 309;exact quiet1 (Less_any _ _ _)))
           go_wp2
           go_roundg (5 - (s+1))
           case measure=>have:=HKK.out;omega
           case rel =>
            obtain ⟨hp,hq⟩:=HPQ.out;refine ⟨k+1,s+1,dj,by go_num,by go_num,by omega,rfl,by omega,by omega,HSJ.out,HDJ.out.nw (Nw.drewN wr _),hKj.drewN' _,FIN.out dj ?_⟩;rw [HFU.out,if_pos hk2,← HI.out,shiftUp_stop ltN y (j+1) dj (.inr (by simp only [Nat.add_sub_cancel];rw [decide_eq_false_iff_not];omega))]
         ·have hg:¬ (j:Int) < (y:Int):=by omega
          go_wp2
          go_roundg (5 - (s+1))
          case measure=>have:=HKK.out;omega
          case rel=>exact ⟨k+1,s+1,dj,by go_num,by go_num,by omega,rfl,by omega,by omega,HSJ.out,HDJ.out,hKj,FIN.out dj (by rw [HFU.out,if_pos hk2,← HI.out,shiftUp_stop ltN y j dj (.inl hj)])⟩
       ·have hk2':¬ (2:Int)≤(y:Int) - ((k:Int)+1):=by omega
        go_wp2
        go_roundg (5 - (s+1))
        case measure=>have:=HKK.out;omega
        case rel=>exact ⟨k+1,s+1,d2,by go_num,by go_num,by omega,rfl,by omega,by omega,HS2.out,HD4.out,HK4.out,FIN.out d2 (by rw [HFU.out,if_neg hk2])⟩
  ·obtain rfl:s=5:=by omega
   go_wp2;go_ret;have h3:=HO.out;rw [pi_end] at h3;rw [← h3];exact ⟨rfl,HD.out,hK⟩
end
section
open Go Go.RowKit Go.Sort
def Pdq (b c x y:Nat) (d:Array Nat) (w w':World):Prop:=∃ d':Array Nat,d'.size=d.size∧Dv w' b c d'∧Kp b b w w'∧PermIn x y d d'∧SortedIn ltN x y d'
set_option maxRecDepth 100000 in
set_option maxHeartbeats 6400000 in
theorem pdq_step (N:Nat)
  (ih:∀ (w:World) (b c x y limit:Nat) (d:Array Nat),y - x < N→Dv w b c d→x≤y→y≤d.size→d.size < 2305843009213693951→limit≤1000→Sort.Below ltN x y d →
   Calls Tryz.prog 321 #[.slice (some ⟨b,0,none⟩) d.size c,.int .i64 (x:Int),.int .i64 (y:Int),.int .i64 (limit:Int)] w fun e w'=>e=.returned (.tuple #[])∧Pdq b c x y d w w')
  (w:World) (b c x y limit:Nat) (d:Array Nat) (hN:y - x≤N) (hH:Dv w b c d) (hxy:x≤y) (hy:y≤d.size) (hsz:d.size < 2305843009213693951) (hl:limit≤1000) (hB:Sort.Below ltN x y d) :
  Calls Tryz.prog 321 #[.slice (some ⟨b,0,none⟩) d.size c,.int .i64 (x:Int),.int .i64 (y:Int),.int .i64 (limit:Int)] w fun e w'=>e=.returned (.tuple #[])∧Pdq b c x y d w w':=by
 have IH:=hid ih;have HB:=hid hB;have HH:=hid hH;clear ih hB hH;go_enter Tryz.func321,Tryz.ntmps321
 go_wp2
 go_loopg [1,2,3,8,9] (y - x) (fun k v1 v2 v3 v8 v9 wr=>∃ (p q L:Nat) (wb wp:Bool) (e:Array Nat),v1=.int .i64 p∧v2=.int .i64 q∧v3=.int .i64 L∧v8=.bool wb∧v9=.bool wp∧k=q - p∧q - p≤N∧L≤1000∧Dv wr b c e∧Kp b b w wr∧St x y d p q e)
 case atStart=>exact ⟨x,y,limit,true,true,d,rfl,rfl,rfl,rfl,rfl,rfl,hN,hl,HH.out,Kp.refl _ _ _,St.start hxy hy HB.out⟩
 case round =>
  obtain ⟨p,q,L,wb,wp,e,rfl,rfl,rfl,rfl,rfl,hk,hqN,hL,hD,hK,hS⟩:=hrel;have g1:=hS.hab;have g2:=hS.hy;have HSZ:=hid hS.size;have HK:=hid hk;have HD:=hid hD;have HS:=hid hS;clear hk hD hS;have hqs:q≤d.size:=by omega
  by_cases h12:q - p≤12
  ·have h12':(q:Int) - (p:Int)≤12:=by omega
   have hc:=insertionSort_any wr b c p q e HD.out g1 (by rw [HSZ.out];exact hqs) (by rw [HSZ.out];omega);rw [HSZ.out] at hc;have HC:=hid hc;clear hc;go_wp2_with fail;refine HC.out.mono ?_;rintro e1 w1 ⟨rfl,hD1,hK1⟩;go_wp2;refine bodyPost_ret (results_none rfl _ _ _) rfl ?_;have hi:=insertionSort_holds (lt:=ltN) swo_ltN e p q g1 (by rw [HSZ.out];exact hqs);obtain ⟨z1,z2,z3⟩:=HS.out.done hi.1 hi.2;exact ⟨rfl,_,z1,hD1,hK.trans hK1 (.inl rfl) (.inl rfl),z2,z3⟩
  ·have h12':¬ (q:Int) - (p:Int)≤12:=by omega
   by_cases hL0:L=0
   ·have hc:=heapSort_any wr b c p q e HD.out g1 (by rw [HSZ.out];exact hqs) (by rw [HSZ.out];omega);rw [HSZ.out] at hc;have HC:=hid hc;have hL0':(((L:Nat):Int) == 0)=true:=by rw [beq_iff_eq];omega
    clear hc hL0;go_wp2_with fail;refine HC.out.mono ?_;rintro e1 w1 ⟨rfl,hD1,hK1⟩;go_wp2;refine bodyPost_ret (results_none rfl _ _ _) rfl ?_;have hi:=heapSort_holds (lt:=ltN) swo_ltN e p q g1 (by rw [HSZ.out];exact hqs);obtain ⟨z1,z2,z3⟩:=HS.out.done hi.1 hi.2;exact ⟨rfl,_,z1,hD1,hK.trans hK1 (.inl rfl) (.inl rfl),z2,z3⟩
   ·have hL0':(((L:Nat):Int) == 0)=false:=by rw [beq_eq_false_iff_ne];omega
    have hL1:1≤L:=by omega
    clear hL0
    go_upto_if 35 with fail
    go_cut [3] (fun v w2=>∃ (L2:Nat) (e2:Array Nat),v=.int .i64 L2∧L2≤1000∧Dv w2 b c e2∧Kp b b w w2∧St x y d p q e2)
    case first =>
     cases wb
     ·have hc:=breakPatterns_any wr b c p q e HD.out (by omega) (by rw [HSZ.out];exact hqs) (by rw [HSZ.out];omega);rw [HSZ.out] at hc;have HC:=hid hc;clear hc;go_wp2_with fail;refine HC.out.mono ?_;rintro e1 w1 ⟨d1,rfl,hs1,hD1,hK1,hP1⟩;have HP1:=hid hP1;have HS1:=hid hs1;clear hP1 hs1;go_wp2
      go_meet
      case rel=>exact ⟨L - 1,d1,by go_num,by omega,hD1,hK.trans hK1 (.inl rfl) (.inl rfl),HS.out.step HP1.out⟩
     ·go_wp2
      go_meet
      case rel=>exact ⟨L,e,rfl,hL,HD.out,hK,HS.out⟩
    case rest =>
     obtain ⟨L2,e2,rfl,hL2,hD2,hK2,hS2⟩:=hcut;have HD2:=hid hD2;have HK2:=hid hK2;have HS2:=hid hS2;have HZ2:=hid hS2.size;clear hD2 hK2 hS2 HD HS HSZ hK;have hc:=choosePivot_any wc b c p q e2 HD2.out (by omega) (by rw [HZ2.out];exact hqs) (by rw [HZ2.out];omega);rw [HZ2.out] at hc;have HC:=hid hc;clear hc;go_wp2_with fail;refine HC.out.mono ?_;rintro e1 w1 ⟨pv,h,rfl,hp1,hp2,hh,hN1⟩;have HN1:=hid hN1;clear hN1
     go_upto_if 50 with fail
     go_cut [11,12] (fun v v' w2=>∃ (pv h:Nat) (e3:Array Nat),v=.int .i64 pv∧v'=.int .i64 h∧p≤pv∧pv < q∧Dv w2 b c e3∧Kp b b w w2∧St x y d p q e3)
     case first =>
      by_cases h2:h=2
      ·have h2':(((h:Nat):Int) == 2)=true:=by rw [beq_iff_eq];omega
       have hc:=reverseRange_any w1 b c p q e2 (HD2.out.nw HN1.out) (by omega) (by rw [HZ2.out];exact hqs) (by rw [HZ2.out];omega);rw [HZ2.out] at hc;have HC2:=hid hc;clear hc h2;go_wp2_with fail;refine HC2.out.mono ?_;rintro e1 w2 ⟨rfl,hD3,hK3⟩;go_wp2
       go_meet
       case rel=>exact ⟨q - 1 - (pv - p),1,_,by go_num,rfl,by omega,by omega,hD3,(HK2.out.nw' HN1.out).trans hK3 (.inl rfl) (.inl rfl),HS2.out.step (reverseRange_holds e2 p q g1 (by rw [HZ2.out];exact hqs))⟩
      ·have h2':(((h:Nat):Int) == 2)=false:=by rw [beq_eq_false_iff_ne];omega
       clear h2;go_wp2
       go_meet
       case rel=>exact ⟨pv,h,e2,rfl,rfl,hp1,hp2,HD2.out.nw HN1.out,HK2.out.nw' HN1.out,HS2.out⟩
     case rest =>
      clear hp1 hp2 hh HN1 HC;obtain ⟨pv,h,e3,rfl,rfl,hp1,hp2,hD3,hK3,hS3⟩:=hcut;have HD3:=hid hD3;have HK3:=hid hK3;have HS3:=hid hS3;have HZ3:=hid hS3.size;clear hD3 hK3 hS3 HD2 HK2 HS2 HZ2
      go_upto_region 15 with fail
      go_cut [68] (fun v w2=>(∃ B:Bool,v=.bool B)∧w2=wc)
      case first =>
       cases wb<;>cases wp
       all_goals
        go_wp2
        go_meet
        case rel=>exact ⟨⟨_,rfl⟩,rfl⟩
      case rest =>
       obtain ⟨⟨B,rfl⟩,rfl⟩:=hcut
       go_upto_if 68 with fail
       go_cut [69] (fun _ w2=>∃ e4:Array Nat,Dv w2 b c e4∧Kp b b w w2∧St x y d p q e4)
       case first =>
        cases B
        ·go_wp2
         go_meet
         case rel=>exact ⟨e3,HD3.out,HK3.out,HS3.out⟩
        ·have hc:=partialIns_any wc b c p q e3 HD3.out (by omega) (by rw [HZ3.out];exact hqs) (by rw [HZ3.out];omega);rw [HZ3.out] at hc;have hi:=partialInsertionSort_holds (lt:=ltN) swo_ltN e3 p q (by omega) (by rw [HZ3.out];exact hqs) HS3.out.below;generalize Sort.partialInsertionSort ltN e3 p q=R at *;obtain ⟨r,rb⟩:=R;cases rb
         ·have HC2:=hid hc;have HI:=hid hi;clear hc hi;go_wp2_with fail;refine HC2.out.mono ?_;rintro e1 w2 ⟨rfl,hD4,hK4⟩;go_wp2
          go_meet
          case rel=>exact ⟨r,hD4,HK3.out.trans hK4 (.inl rfl) (.inl rfl),HS3.out.step HI.out.1⟩
         ·have HC2:=hid hc;have HI1:=hid hi.1;have HI2:=hid (hi.2 rfl);clear hc hi;go_wp2_with fail;refine HC2.out.mono ?_;rintro e1 w2 ⟨rfl,hD4,hK4⟩;go_wp2;refine bodyPost_ret (results_none rfl _ _ _) rfl ?_;obtain ⟨z1,z2,z3⟩:=HS3.out.done HI1.out HI2.out;exact ⟨rfl,r,z1,hD4,HK3.out.trans hK4 (.inl rfl) (.inl rfl),z2,z3⟩
       case rest =>
        obtain ⟨e4,hD4,hK4,hS4⟩:=hcut;have HD4:=hid hD4;have HK4:=hid hK4;have HS4:=hid hS4;have HZ4:=hid hS4.size;clear hD4 hK4 hS4 HD3 HK3 HS3 HZ3
        go_upto_region 17 with fail
        go_cut [87] (fun v w2=>∃ B:Bool,v=.bool B∧Dr wc w2∧(B=true→0 < p∧e4[pv]!≤e4[p - 1]!))
        case first =>
         by_cases hp0:0 < p
         ·obtain ⟨p,rfl⟩:∃ t,p=t+1:=⟨p - 1,by omega⟩;have hg:(0:Int) < (p:Int)+1:=by omega
          have c1:=HD4.out.cell (j:=p) (by rw [HZ4.out];omega);have c2:=HD4.out.cell (j:=pv) (by rw [HZ4.out];omega);obtain ⟨u1,hu1⟩:∃ r,r=e4[p]!:=⟨_,rfl⟩;obtain ⟨u2,hu2⟩:∃ r,r=e4[pv]!:=⟨_,rfl⟩;rw [← hu1] at c1;rw [← hu2] at c2;have HU:=hid (And.intro hu1 hu2);clear hu1 hu2;have i1:(p:Int) < (d.size:Int):=by omega
          have i2:(pv:Int) < (d.size:Int):=by omega
          have w1':IntKind.i64.wrap (p:Int)=(p:Int):=IntWalk.i64_in _ (by omega);by_cases hcmp:u1 < u2
          ·go_quiet ((go_at_call 309;exact quiet1 (Less_any _ _ _)))
           go_wp2
           go_meet
           case rel=>exact ⟨_,rfl,Dr.mk _ _,fun h=>by simp at h⟩
          ·go_quiet ((go_at_call 309;exact quiet1 (Less_any _ _ _)))
           go_wp2
           go_meet
           case rel=>exact ⟨_,rfl,Dr.mk _ _,fun _=>⟨by omega,by obtain ⟨a,b⟩:=HU.out;simp only [Nat.add_sub_cancel];omega⟩⟩
         ·obtain rfl:p=0:=by omega
          go_quiet (fail)
          go_wp2
          go_meet
          case rel=>exact ⟨_,rfl,Dr.mk _ _,fun h=>by simp at h⟩
        case rest =>
         obtain ⟨B,rfl,hd,hBt⟩:=hcut;have HDX:=hid (HD4.out.nw hd.nw);have HKX:=hid (HK4.out.nw' hd.nw);clear hd HD4 HK4;cases B
         ·clear hBt;have hc:=partition_any wc b c p q pv e4 HDX.out hp1 hp2 (by rw [HZ4.out];exact hqs) (by rw [HZ4.out];omega);rw [HZ4.out] at hc;have HC2:=hid hc;clear hc;go_wp2_with fail;refine HC2.out.mono ?_;rintro e1 w2 ⟨m,ap,d',rfl,hD5,hK5,hm1,hm2,hP5,hlo,hhi⟩;have HP5:=hid hP5;have HLO:=hid hlo;have HHI:=hid hhi;have HZ5:=hid (show d'.size=d.size from by rw [hP5.1,HZ4.out]);have HD5:=hid hD5;have HK5:=hid (HKX.out.trans hK5 (.inl rfl) (.inl rfl));clear hP5 hlo hhi hD5 hK5 HDX HKX;by_cases hlr:m - p < q - m
          ·have hlr':(m:Int) - (p:Int) < (q:Int) - (m:Int):=by omega
           have hc:=IH.out w2 b c p m L2 d' (by omega) HD5.out hm1 (by rw [HZ5.out];omega) (by rw [HZ5.out];omega) hL2 (HS4.out.belowL hm2 HP5.out);rw [HZ5.out] at hc;have HC3:=hid hc;clear hc;go_wp2_with fail;refine HC3.out.mono ?_;rintro e2 w3 ⟨rfl,d6,hs6,hD6,hK6,hP6,hO6⟩;have HS6:=hid (HS4.out.left hm1 hm2 HP5.out HLO.out HHI.out hP6 hO6);have HK6:=hid (HK5.out.trans hK6 (.inl rfl) (.inl rfl));have HD6:=hid hD6;clear hs6 hD6 hK6 hP6 hO6;go_wp2
           go_roundg (q - (m+1))
           case measure=>have:=HK.out;omega
           case rel=>exact ⟨m+1,q,L2,_,_,d6,by go_num,rfl,rfl,rfl,rfl,rfl,by omega,hL2,HD6.out,HK6.out,HS6.out⟩
          ·have hlr':¬ (m:Int) - (p:Int) < (q:Int) - (m:Int):=by omega
           have hc:=IH.out w2 b c (m+1) q L2 d' (by omega) HD5.out (by omega) (by rw [HZ5.out];omega) (by rw [HZ5.out];omega) hL2 (belowR HHI.out);rw [HZ5.out,show ((m+1:Nat):Int)=(m:Int)+1 from by omega] at hc;have HC3:=hid hc;clear hc;go_wp2_with fail;refine HC3.out.mono ?_;rintro e2 w3 ⟨rfl,d6,hs6,hD6,hK6,hP6,hO6⟩;have HS6:=hid (HS4.out.right hm1 hm2 HP5.out HLO.out HHI.out hP6 hO6);have HK6:=hid (HK5.out.trans hK6 (.inl rfl) (.inl rfl));have HD6:=hid hD6;clear hs6 hD6 hK6 hP6 hO6;go_wp2
           go_roundg (m - p)
           case measure=>have:=HK.out;omega
           case rel=>exact ⟨p,m,L2,_,_,d6,rfl,rfl,rfl,rfl,rfl,rfl,by omega,hL2,HD6.out,HK6.out,HS6.out⟩
         ·have HBT:=hid (hBt rfl);clear hBt;have hc:=partEq_any wc b c p q pv e4 HDX.out hp1 hp2 (by rw [HZ4.out];exact hqs) (by rw [HZ4.out];omega);rw [HZ4.out] at hc;have HC2:=hid hc;clear hc;go_wp2_with fail;refine HC2.out.mono ?_;rintro e1 w2 ⟨m,d',rfl,hD5,hK5,hm1,hm2,hP5,hlo,hhi⟩;have HS5:=hid (HS4.out.eq HBT.out.1 HBT.out.2 hm1 hm2 hP5 hlo hhi);have HD5:=hid hD5;have HK5:=hid (HKX.out.trans hK5 (.inl rfl) (.inl rfl));clear hP5 hlo hhi hD5 hK5;go_wp2
          go_roundg (q - m)
          case measure=>have:=HK.out;omega
          case rel=>exact ⟨m,q,L2,wb,wp,d',rfl,rfl,rfl,rfl,rfl,rfl,by omega,hL2,HD5.out,HK5.out,HS5.out⟩
theorem pdq_all (N:Nat):∀ (w:World) (b c x y limit:Nat) (d:Array Nat),y - x < N→Dv w b c d→x≤y→y≤d.size→d.size < 2305843009213693951→limit≤1000→Sort.Below ltN x y d →
  Calls Tryz.prog 321 #[.slice (some ⟨b,0,none⟩) d.size c,.int .i64 (x:Int),.int .i64 (y:Int),.int .i64 (limit:Int)] w fun e w'=>e=.returned (.tuple #[])∧Pdq b c x y d w w':=by
 induction N with
 | zero=>intro w b c x y limit d h;omega
 | succ N ih=>exact fun w b c x y limit d h1 h2 h3 h4 h5 h6 h7=>pdq_step N ih w b c x y limit d (by omega) h2 h3 h4 h5 h6 h7
end
section
open Go Go.RowKit Go.Sort
theorem sorted_list {d:Array Nat} (h:SortedIn ltN 0 d.size d):d.toList.Pairwise (·≤·):=by
 rw [List.pairwise_iff_getElem];intro i j hi hj hij;have h1:i < d.size:=by simpa using hi
 have h2:j < d.size:=by simpa using hj
 have:=h i j (Nat.zero_le _) hij h2;rw [getElem!_pos d j h2,getElem!_pos d i h1] at this;simp only [decide_eq_false_iff_not] at this;simp only [Array.getElem_toList];omega
theorem Sort_any (w:World) (b n c:Nat) (l:List Nat) (hn:n=l.length) (hO:Ow w b 97 1 (some ⟨b,0,none⟩) n c (cN .u64 l)) (hm:n≤1000000000000000) :
  Calls Tryz.prog 308 #[.slice (some ⟨b,0,none⟩) n c] w fun e w'=>e=.returned (.tuple #[])∧∃ l':List Nat,l'.Perm l∧l'.Pairwise (·≤·)∧Ow w' b 97 1 (some ⟨b,0,none⟩) n c (cN .u64 l')∧Kp b b w w':=by
 have hs:l.toArray.size=n:=by simp [hn]
 have hD:Dv w b c l.toArray:=by unfold Dv;rw [hs];simpa using hO
 have hL:=wd_le64 (n+1) (by omega);have hLe:wd (n+1)=Lib.bitLen n:=by unfold wd;rw [if_neg (by omega),Nat.add_sub_cancel]
 rw [hLe] at hL;have hc:=pdq_all (n+1) w b c 0 n (Lib.bitLen n) l.toArray (by omega) hD (by omega) (by omega) (by omega) (by omega) (.inl rfl);rw [hs] at hc;have HC:=hid hc;have HS:=hid hs;have e1:IntKind.u64.wrap (n:Int)=(n:Int):=IntWalk.u64_in _ (by omega);clear hc hs hn hO hD hL hLe;go_enter Tryz.func308,Tryz.ntmps308
 go_wp2_with fail;refine (Tryz.bits_Len (n:Int) w (by omega) (by omega)).mono ?_;rintro e w' ⟨rfl,rfl⟩;go_wp2_with fail;refine HC.out.mono ?_;rintro e w1 ⟨rfl,d',h1,h2,h3,h4,h5⟩;go_wp2;go_end0
 have hs:=HS.out;have h1':d'.size=n:=by rw [h1];exact hs
 refine ⟨rfl,d'.toList,?_,sorted_list (by rw [h1'];exact h5),?_,h3⟩
 ·have:=h4.2.2;have e2:(d'.extract 0 n).toList=d'.toList:=by simp;rw [List.take_of_length_le (by simp;omega)]
  have e3:(l.toArray.extract 0 n).toList=l:=by simp;rw [List.take_of_length_le (by simp at hs;omega)]
  rwa [e2,e3] at this
 ·unfold Dv at h2
  rwa [h1'] at h2
end
section
open Go Go.RowKit Go.Maps
theorem lawU:Keyed Tryz.prog 97:=int_keyed Tryz.underlying97
theorem wfU (x:Nat) (h:x < 18446744073709551616):(Lit.int .u64 (x:Int)).wf=true:=WalkArith.wf_u64 (by omega)
theorem wfU_inv {x:Int} (h:(Lit.int .u64 x).wf=true):∃ y:Nat,x=(y:Int)∧y < 18446744073709551616:=by
 have h2:=bounds_u64 h;exact ⟨x.toNat,by omega,by omega⟩
theorem Kp.gb {g:Nat} {w w':World} (h:Kp g g w w'):w.grownBy w' (some g):=⟨h.os,h.tape,h.output,h.size,fun i hi hne=>h.block i hi (by rintro rfl;exact hne rfl) (by rintro rfl;exact hne rfl)⟩
abbrev ky (x:Nat):Lit:=.int .u64 (x:Int)
abbrev sD (xs:List Nat):DataW Unit:=setOf (.lit (.bool true)) (xs.map ky)
theorem sD_key (xs:List Nat):∀ x∈xs.map ky,WideAt.IsKeyLit x:=by
 intro x hx;obtain ⟨y,_,rfl⟩:=List.mem_map.1 hx;trivial
theorem has_sD (xs:List Nat) (x:Nat):has (sD xs) (ky x)=true↔x∈xs:=by
 rw [has_setOf _ _ _ (sD_key xs),List.any_map,List.any_eq_true];constructor
 ·rintro ⟨y,hy,h⟩;simp [ky,Lit.sameKey] at h;obtain rfl:y=x:=by omega
  exact hy
 ·intro h;exact ⟨x,h,by simp [ky,Lit.sameKey]⟩
def Coll (D:DataW Unit) (left:Lit→Bool) (ks:List Nat):Prop:=ks.Nodup∧∀ x,x∈ks↔(has D (ky x)=true∧left (ky x)=false)
theorem Coll.start (D:DataW Unit):Coll D (has D) []:=⟨List.nodup_nil,fun x=>by cases has D (ky x)<;>simp⟩
theorem Coll.step {D:DataW Unit} {left:Lit→Bool} {ks:List Nat} (h:Coll D left ks) {x:Nat} {y:DataW Unit} (hlk:left (ky x)=true) (hat:∀ zd,D.atKey (ky x) zd=y):Coll D (fun z=>left z && !z.sameKey (ky x)) (ks++[x]):=by
 have hhas:has D (ky x)=true:=has_true_of_atKey hat;have hnew:x ∉ ks:=fun hx=>by have:=((h.2 x).1 hx).2;rw [hlk] at this;cases this
 refine ⟨List.nodup_append.2 ⟨h.1,by simp,fun a ha b hb=>by simp at hb;subst hb;exact fun e=>hnew (e ▸ ha)⟩,fun y=>?_⟩;by_cases hy:y=x
 ·subst hy;simp [hhas,Lit.sameKey]
 ·have hyi:¬ (y:Int)=(x:Int):=by omega
  simp [h.2 y,hy,hyi,Lit.sameKey]
theorem Coll.fin {xs:List Nat} {left:Lit→Bool} {ks l:List Nat} (h:Coll (sD xs) left ks) (hl:∀ kl,left kl=false) (hp:l.Perm ks) (hs:l.Pairwise (·≤·)):l=dict xs:=by
 refine dict_eq xs l ?_ fun x=>?_
 ·have hn:l.Nodup:=hp.nodup_iff.2 h.1;exact (List.Pairwise.and hs hn).imp (fun h=>by omega)
 ·rw [hp.mem_iff,h.2 x,has_sD,hl];simp
theorem Dictionary_any (w:World) (b:Nat) (A:Option Addr) (n c:Nat) (xs:List Nat) (hn:n=xs.length) (hm:n*8≤140737488355328) (hr:Rd w b A (cN .u64 xs)) (hx:∀ x∈xs,x < 18446744073709551616) :
  Calls Tryz.prog 267 #[.slice A n c] w fun e w'=>∃ b' c',e=.returned (.slice (some ⟨b',0,none⟩) (dict xs).length c')∧Ow w' b' 97 1 (some ⟨b',0,none⟩) (dict xs).length c' (cN .u64 (dict xs))∧w.heap.size≤b'∧Nw w w':=by
 subst hn;have HX:=hid hx;clear hx;have hmm:=@run_makeMap Tryz.prog;obtain ⟨i0,hi,hz0,hz1,hz2⟩:=E_u64.info;go_enter Tryz.func267,Tryz.ntmps267
 go_wp2;go_loopw [11] (fun i wr=>∃ k:Nat,k≤xs.length∧i=.int .i64 k∧wr.ownsMap Tryz.prog 97 (plainElem Tryz.prog 4) w.heap.size k (sD (xs.take k))∧Nw w wr) (fun i _=>xs.length - (intOf i).toNat)
 case atStart=>exact ⟨0,by omega,rfl,World.ownsMap_made _ _ _ _,Nw.alloc' (Nw.refl w) _⟩
 case round =>
  obtain ⟨k,hk,rfl,hown,hN⟩:=hrel;by_cases hlt:k < xs.length
  ·obtain ⟨o,rfl,_,hc⟩:=(hr.nw hN).get (k:=k) (by simpa using hlt);rw [List.getElem_map] at hc;have hx:xs[k] < 18446744073709551616:=HX.out _ (List.getElem_mem _);have hkey:keyOf Tryz.prog 97 (.int .u64 ((xs[k]:Nat):Int))=some (ky xs[k]):=keyOf_int_mk Tryz.underlying97 (wfU _ hx);have HK:=hid hkey;clear hkey;go_wp2_with (first
    | (at_mapUpdate;refine wpList_mapUpdate_own _ rfl _ _ _ 373 rfl 97 4 lawU Tryz.underlying373 (plainElem (H:=Unit) Tryz.prog 4) w.heap.size k _ rfl hown (by unfold maxLen;omega) _ _ _ rfl rfl HK.out _ [] (plainElem_bool Tryz.underlying4 true) ?_;intro w1 hown1 hgrow1)
    | go_in)
   go_roundw
   case rel =>
    refine ⟨k+1,by omega,by go_num,?_,hN.grown' hgrow1 (fun j hj=>by cases hj;exact Nat.le_refl _)⟩;rw [List.take_succ_eq_append_getElem hlt];unfold sD;rw [List.map_append,List.map_cons,List.map_nil,setOf_snoc];exact hown1
   case measure=>simp [intOf];omega
  ·obtain rfl:k=xs.length:=by omega
   rw [List.take_length] at hown;have hsz:Maps.size (sD xs)≤xs.length:=hown.size_le;generalize hSZ:Maps.size (sD xs)=sz at *;have HSZ:=hid hSZ;clear hSZ;go_wp2_with (first
    | (at_len;refine wpList_len_own _ rfl _ 373 rfl 97 4 Tryz.underlying373 _ w.heap.size _ _ rfl hown ?_)
    | (at_make;refine wpList_make_own _ rfl _ _ 224 rfl 0 97 i0 (.int .u64 0) 1 Tryz.underlying224 hi hz0 hz1 _ _ _ sz rfl rfl (by rw [HSZ.out]) (by rw [hz2];omega) (by unfold maxLen;omega) (Nat.zero_le _) ?_;intro w1 hrow1 hg1)
    | (at_range;refine wpList_range_own _ rfl _ 373 rfl 97 4 lawU Tryz.underlying373 _ w.heap.size _ _ rfl (hown.kept hg1 (by simp)) ?_;intro w0 hrg0 hg0 hs0)
    | go_in)
   go_frame
   have hb0:=hrow1.2;rcases hb0 with ⟨hv,_⟩ | ⟨g,cap,cur,hv,_,hh,_⟩
   ·cases hv
   injection hv with hv1 hv2 hv3
   injection hv1 with hv1
   injection hv1 with hv1 hv4 hv5
   clear hv2 hv3 hv4 hv5;have hwl:=hown.lt;have hO1:Ow w1 wr.heap.size 97 1 (some ⟨wr.heap.size,0,none⟩) 0 sz (cN .u64 []):=.inr ⟨rfl,by rw [hv1];exact lt_of_block hh,hrow1⟩;have hN1:Nw w w1:=hN.grown' hg1 (fun j hj=>by cases hj);have hN0:Nw w w0:=hN1.grown' hg0 (fun j hj=>by cases hj);have hO0:Ow w0 wr.heap.size 97 1 (some ⟨wr.heap.size,0,none⟩) 0 sz (cN .u64 []):=hO1.nw (by have:=(Nw.refl w1).grown' hg0 (fun j hj=>by cases hj);exact this);have hlt1:wr.heap.size < w1.heap.size:=by rw [hv1];exact lt_of_block hh
   clear hh hrow1 hv1;go_loopw [6] (fun v wq=>∃ (left:Lit→Bool) (cnt:Nat) (ks:List Nat),wq.ranges Tryz.prog 97 (plainElem Tryz.prog 4) w.heap.size w1.heap.size xs.length (sD xs) left cnt∧ks.length+cnt≤sz ∧
     Coll (sD xs) left ks∧Nw w wq∧∃ bk ck,v=.slice (some ⟨bk,0,none⟩) ks.length ck∧Ow wq bk 97 1 (some ⟨bk,0,none⟩) ks.length ck (cN .u64 ks)∧w.heap.size < bk∧bk≠w1.heap.size)
    (fun _ wq=>wq.rangeLeft w.heap.size w1.heap.size)
   case atStart=>exact ⟨_,_,[],hrg0,by rw [HSZ.out];simp,Coll.start _,hN0,_,_,rfl,hO0,by omega,by omega⟩
   case round =>
    obtain ⟨left,cnt,ks,hrg,hcs,hC,hNq,bk,ck,rfl,hO,hbk,hbk2⟩:=hrel;go_wp2_with (first
     | (at_next;refine wpList_next_ranges _ rfl _ rfl 97 lawU (plainElem Tryz.prog 4) (Value.int .u64) (fun v:Value=>v) (fun key kl hk=>by obtain ⟨x,hx,_⟩:=Maps.keyOf_int_inv Tryz.underlying97 hk;exact ⟨x,hx⟩) (fun v y hv=>⟨v,rfl⟩) w.heap.size w1.heap.size _ _ _ _ rfl hrg ?_ ?_)
     | go_in)
    ·intro hc0 hl0;have HS:=hid (Sort_any wr bk ks.length ck ks rfl hO (by omega));clear hO;go_wp2_with (go_at_call 308;refine HS.out.mono ?_;rintro e w2 ⟨rfl,l',hp,hs,hO2,hK2⟩)
     go_ret;have hd:=hC.fin hl0 hp hs;subst hd;have hlen:=hp.length_eq;exact ⟨bk,ck,by rw [hlen];rfl,by rw [hlen];exact hO2,by omega,Kp.nw hNq hK2 (by omega) (by omega)⟩
    ·intro x c kl yd yp w2 cnt2 hkey hlk hv hat hrg2 hlt2 hg2 hs2 hen;obtain ⟨x',ex,rfl,hw⟩:=Maps.keyOf_int_inv Tryz.underlying97 hkey;cases ex;obtain ⟨y,rfl,hy⟩:=wfU_inv hw;have hN2:Nw w w2:=hNq.grown' hg2 (fun j hj=>by cases hj;exact hN1.size);have hO2:Ow w2 bk 97 1 (some ⟨bk,0,none⟩) ks.length ck (cN .u64 ks):=hO.kp ((Kp.refl w1.heap.size w1.heap.size wr).grown hg2 (fun k hk=>by cases hk;exact .inl rfl)) hbk2 hbk2;have hC2:=hid (hC.step hlk hat);have hrgl:=hrg2.lt;have HRG:=hid hrg2;have HL:=hid hrg.left_eq;clear hs2 hkey hv hat hlk hrg hrg2 hC hg2;go_wp2_with (first
      | (at_builtin;refine wpList_app1 E_u64 rfl (.tmp 27) (.tmp 29) rfl rfl hO2 rfl rfl (by omega) (by omega) ?_;intro b1 A1 c1 w3 h1 h2 h3 h4)
      | go_in)
     go_roundw
     case rel =>
      have h3':=h3.gb;have hrg3:=HRG.out.kept h3' (by intro e;injection e;omega) (by intro e;injection e;omega);have hb1:b1=bk∨w2.heap.size≤b1:=h2;have hN3:Nw w w3:=Kp.nw hN2 h3 (by omega) (by omega);have h2s:=hN2.size;have hbn:A1=some ⟨b1,0,none⟩:=by
       rcases h1 with ⟨_,h,_⟩ | ⟨h,_⟩
       ·omega
       ·exact h
      subst hbn;have hbl:=HRG.out.owns.lt;exact ⟨_,cnt2,ks++[y],hrg3,by simp;omega,hC2.out,hN3,b1,c1,by simp,by simpa using h1,by omega,by omega⟩
     case measure =>
      have h3':=h3.gb;have hrg3:=HRG.out.kept h3' (by intro e;injection e;omega) (by intro e;injection e;omega);rw [hrg3.left_eq,HL.out];exact hlt2
end
end Go.Proofs.YtmmonehfnfbpbaaGreatDoor
