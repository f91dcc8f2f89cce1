/- Laws that the last text builds on. -/
import Derived.Test.YtobfpajapgakdaaGreatDoorT13
namespace Go.Proofs.YtobfpajapgakdaaGreatDoor
open Go.Lib(hid)
section
open Go Go.RowKit Go.Sort Go.Shelf
section
variable {α:Type} [Inhabited α] {f h:α→Value} {w0:World} {blk:Nat} {d0:Array α}
set_option maxHeartbeats 8000000 in
set_option maxRecDepth 1000000 in
theorem symMergeR_any (cf:α→α→Int) (hO:SWO (ltOf cf)) (hcmp:CmpLays Tryz.prog 66 #[] (enc2 f h) 2 cf blk 0 d0.size w0) (eg:∀ args w,(callFunc 66 args).run Tryz.prog w=.ok (.enter 66 args) w) (R:RowK (enc2 f h) 2 w0 blk 0 d0) (N:Nat) (hN:d0.size=N) (hM:N≤1000000000000) (cap:Nat):∀ (K a m b:Nat) (d:Array α) (w:World),b - a≤K→d.size=N→SWK (enc2 f h) 2 w0 blk 0 d w→a < m→m < b→b≤N→SortedIn (ltOf cf) a m d→SortedIn (ltOf cf) m b d →
  Calls Tryz.prog 186 #[.slice (some ⟨blk,0,none⟩) N cap,.int .i64 (a:Int),.int .i64 (m:Int),.int .i64 (b:Int),.func (.func 66) #[] #[]] w fun e w'=>e=.returned (.tuple #[])∧∃ d',(PermIn a b d d'∧SortedIn (ltOf cf) a b d')∧SWK (enc2 f h) 2 w0 blk 0 d' w':=by
 intro K;induction K with
 | zero=>intro a m b d w h1 _ _ h2 h3;exfalso;omega
 | succ K ih =>
  intro a m b d w hK hs S ham hmb hb hU hV;by_cases hA1:m≤a+1
  ·exact symMergeAR_any cf hO hcmp eg R N hN hM cap a m b d w hs S ham hmb hb hU hV hA1
  ·by_cases hB1:b≤m+1
   ·exact symMergeBR_any cf hO hcmp eg R N hN hM cap a m b d w hs S ham hmb hb hU hV hA1 hB1
   ·by_cases hbig:(a+b) / 2 < m
    ·exact symMergeCR_any cf hO hcmp eg R N hN hM cap K ih a m b d w hs S ham hmb hb hU hV hA1 hB1 ((a+b) / 2) (by omega) (by omega) hK hbig
    ·exact symMergeDR_any cf hO hcmp eg R N hN hM cap K ih a m b d w hs S ham hmb hb hU hV hA1 hB1 ((a+b) / 2) (by omega) (by omega) hK hbig
set_option maxHeartbeats 8000000 in
set_option maxRecDepth 1000000 in
theorem stableGR_any (tyE:∀ w,(isAgg 51).run Tryz.prog w=.ok true w) (szE:∀ w,(Go.sizeOf 51).run Tryz.prog w=.ok 2 w) (cf:α→α→Int) (hO:SWO (ltOf cf)) (hcmp:CmpLays Tryz.prog 66 #[] (enc2 f h) 2 cf blk 0 d0.size w0) (eg:∀ args w,(callFunc 66 args).run Tryz.prog w=.ok (.enter 66 args) w) (R:RowK (enc2 f h) 2 w0 blk 0 d0) (N:Nat) (hN:d0.size=N) (hM:N≤1000000000000) (cap:Nat) (d:Array α) (w:World) (hs:d.size=N) (S:SWK (enc2 f h) 2 w0 blk 0 d w) :
  Calls Tryz.prog 142 #[.slice (some ⟨blk,0,none⟩) N cap,.int .i64 (N:Int),.func (.func 66) #[] #[]] w fun e w'=>e=.returned (.tuple #[])∧∃ d',PermIn 0 N d d'∧SortedIn (ltOf cf) 0 N d'∧SWK (enc2 f h) 2 w0 blk 0 d' w':=by
 have S0:Aside (SWK (enc2 f h) 2 w0 blk 0 d w):=S;have HIns:=hid fun (a b:Nat) (dk:Array α) (wr:World) (hz:dk.size=N) (S:SWK (enc2 f h) 2 w0 blk 0 dk wr) (hab:a≤b) (hb:b≤N) =>
  (show Calls Tryz.prog 185 #[.slice (some ⟨blk,0,none⟩) N cap,.int .i64 (a:Int),.int .i64 (b:Int),.func (.func 66) #[] #[]] wr fun e w'=>e=.returned (.tuple #[])∧∃ d',(PermIn a b dk d'∧SortedIn (ltOf cf) a b d')∧SWK (enc2 f h) 2 w0 blk 0 d' w' from by
   have hcon:=AnyQ.insertionSortCmpFunc_w Tryz.insSer 2 tyE szE (enc2 f h) cf 66 #[] blk 0 cap a b d0 dk w0 wr eg hcmp R (by omega) S hO hab (by omega) (by omega);rw [hz] at hcon;change Calls Tryz.prog 185 _ _ _ at hcon
   refine hcon.mono ?_;rintro e w' ⟨rfl,h1⟩;exact ⟨rfl,_,insertionSort_holds hO dk a b hab (by omega),h1⟩)
 have HMer:=hid (symMergeR_any cf hO hcmp eg R N hN hM cap);clear S hcmp hO eg tyE szE hN;have HS:=hid hs;clear hs;go_enter Tryz.func142,Tryz.ntmps142
 go_wp2;go_loopw [7,8] (fun s7 s8 wr=>∃ (T a:Nat) (dk:Array α),s7=.int .i64 a∧s8=.int .i64 ((a:Int)+20)∧a≤N∧Hid (a=T*20)∧Aside (SWK (enc2 f h) 2 w0 blk 0 dk wr)∧Hid (PermIn 0 N d dk)∧Hid (Upto (ltOf cf) 20 T dk)) (fun s7 _ _=>N - (intOf s7).toNat)
 case atStart=>exact ⟨0,0,d,rfl,rfl,Nat.zero_le _,hid (by omega),S0,hid (permIn_refl _ _ _),hid (Upto.zero _ _)⟩
 case round =>
  clear S0;obtain ⟨T,a,dk,rfl,rfl,haN,HT,S1,HP,HU⟩:=hrel;have hz:dk.size=N:=HP.out.1.trans HS.out;by_cases hle:a+20≤N
  ·have hlez:(a:Int)+20≤(N:Int):=by omega
   have k1:IntKind.i64.wrap ((a:Int)+20+20)=(a:Int)+20+20:=by rw [IntKind.wrap_i64];omega
   have hi:=HIns.out a (a+20) dk wr hz S1.out (by omega) hle;rw [show ((a+20:Nat):Int)=(a:Int)+20 by omega] at hi;go_wp2_with (go_at_call 185;refine hi.mono ?_;rintro e w2 ⟨rfl,d2,⟨p2,s2⟩,S2⟩)
   go_roundw
   case rel=>exact ⟨T+1,a+20,d2,by go_num,by go_num,hle,hid (by have:=HT.out;omega),S2,hid (permIn_trans _ _ _ _ _ HP.out (permIn_mono _ _ _ _ _ _ (Nat.zero_le _) hle (by have:=HS.out;omega) p2)),hid (HU.out.step HT.out rfl p2 s2)⟩
   case measure=>simp [intOf];omega
  ·have hlez:¬ (a:Int)+20≤(N:Int):=by omega
   have hi:=HIns.out a N dk wr hz S1.out haN (Nat.le_refl _);clear HIns;go_wp2_with (go_at_call 185;refine hi.mono ?_;rintro e w2 ⟨rfl,d2,⟨p2,s2⟩,S2⟩)
   have HB2:Hid (Blk (ltOf cf) 20 0 N d2):=hid (HU.out.blk HT.out (by omega) p2 s2);have HP2:=hid (permIn_trans _ _ _ _ _ HP.out (permIn_mono _ _ _ _ _ _ (Nat.zero_le _) (Nat.le_refl _) (by have:=HS.out;omega) p2));have S2':Aside (SWK (enc2 f h) 2 w0 blk 0 d2 w2):=S2;clear S2 p2 s2 HP HU HT S1 hi hz hle hlez haN
   rename World=>w1
   go_loopw [6,7,8] (fun s6 _ _ wr=>∃ (bs:Nat) (dk:Array α),s6=.int .i64 bs∧20≤bs∧bs≤2*N+20∧Aside (SWK (enc2 f h) 2 w0 blk 0 dk wr)∧Hid (PermIn 0 N d dk)∧Hid (Blk (ltOf cf) bs 0 N dk)) (fun s6 _ _ _=>N - (intOf s6).toNat)
   case atStart=>exact ⟨20,d2,rfl,Nat.le_refl _,by omega,S2',HP2,HB2⟩
   case round =>
    clear S2' HP2 HB2;obtain ⟨bs,dk,rfl,hbs,hbsN,S1,HP,HB⟩:=hrel;by_cases hlt:bs < N
    ·have hltz:(bs:Int) < (N:Int):=by omega
     have k1:IntKind.i64.wrap (2*(bs:Int))=2*(bs:Int):=by rw [IntKind.wrap_i64];omega
     have k1':IntKind.i64.wrap ((bs:Int)*2)=(bs:Int)*2:=by rw [IntKind.wrap_i64];omega
     go_wp2
     rename World=>wo
     go_loopw [7,8] (fun s7 s8 wr=>∃ (T a:Nat) (dk:Array α),s7=.int .i64 a∧s8=.int .i64 ((a:Int)+2*(bs:Int))∧a≤N∧Hid (a=T*(2*bs))∧Aside (SWK (enc2 f h) 2 w0 blk 0 dk wr)∧Hid (PermIn 0 N d dk)∧Hid (Upto (ltOf cf) (2*bs) T dk)∧Hid (Blk (ltOf cf) bs (2*T) N dk)) (fun s7 _ _=>N - (intOf s7).toNat)
     case atStart=>exact ⟨0,0,dk,rfl,by simp,Nat.zero_le _,hid (by omega),S1,HP,hid (Upto.zero _ _),HB⟩
     case round =>
      clear S1 HP HB;obtain ⟨T,a,dk,rfl,rfl,haN,HT,S1,HP,HU,HB⟩:=hrel;have hz:dk.size=N:=HP.out.1.trans HS.out;have k2:IntKind.i64.wrap ((a:Int)+(bs:Int))=(a:Int)+(bs:Int):=by rw [IntKind.wrap_i64];omega
      by_cases hle:a+2*bs≤N
      ·have hlez:(a:Int)+2*(bs:Int)≤(N:Int):=by omega
       have k3:IntKind.i64.wrap ((a:Int)+2*(bs:Int)+2*(bs:Int))=(a:Int)+2*(bs:Int)+2*(bs:Int):=by rw [IntKind.wrap_i64];omega
       have h1:=HB.out.one HT.out;have h2:=HB.out.two HT.out;rw [Nat.min_eq_left (by omega)] at h1 h2;have hi:=HMer.out _ a (a+bs) (a+2*bs) dk wr (Nat.le_refl _) hz S1.out (by omega) (by omega) hle h1 h2;rw [show ((a+bs:Nat):Int)=(a:Int)+(bs:Int) by omega,show ((a+2*bs:Nat):Int)=(a:Int)+2*(bs:Int) by omega] at hi;clear h1 h2;go_wp2_with (go_at_call 186;refine hi.mono ?_;rintro e w2 ⟨rfl,d2,⟨p2,s2⟩,S2⟩)
       go_roundw
       case rel =>
        refine ⟨T+1,a+2*bs,d2,by first | go_num | (congr 1;omega),by first | go_num | (congr 1;omega),hle,hid ?_,S2,hid (permIn_trans _ _ _ _ _ HP.out (permIn_mono _ _ _ _ _ _ (Nat.zero_le _) hle (by have:=HS.out;omega) p2)),hid (HU.out.step HT.out rfl p2 s2),hid (HB.out.step HT.out p2)⟩;rw [Nat.add_mul,Nat.one_mul,← HT.out]
       case measure=>simp [intOf];omega
      ·have hlez:¬ (a:Int)+2*(bs:Int)≤(N:Int):=by omega
       by_cases hm:a+bs < N
       ·have hmz:(a:Int)+(bs:Int) < (N:Int):=by omega
        have h1:=HB.out.one HT.out;have h2:=HB.out.two HT.out;rw [Nat.min_eq_left (by omega)] at h1;rw [Nat.min_eq_right (by omega)] at h2;have hi:=HMer.out _ a (a+bs) N dk wr (Nat.le_refl _) hz S1.out (by omega) hm (Nat.le_refl _) h1 h2;rw [show ((a+bs:Nat):Int)=(a:Int)+(bs:Int) by omega] at hi;clear h1 h2;go_wp2_with (go_at_call 186;refine hi.mono ?_;rintro e w2 ⟨rfl,d2,⟨p2,s2⟩,S2⟩)
        go_roundw
        case rel=>exact ⟨2*bs,d2,by first | go_num | (congr 1;omega),by omega,by omega,S2,hid (permIn_trans _ _ _ _ _ HP.out (permIn_mono _ _ _ _ _ _ (Nat.zero_le _) (Nat.le_refl _) (by have:=HS.out;omega) p2)),hid (HU.out.blk HT.out (by omega) p2 s2)⟩
        case measure=>simp [intOf];omega
       ·have hmz:¬ (a:Int)+(bs:Int) < (N:Int):=by omega
        have h1:=HB.out.one HT.out;rw [Nat.min_eq_right (by omega)] at h1;have H1:=hid h1;clear h1;go_wp2;go_roundw
        case rel=>exact ⟨2*bs,dk,by first | go_num | (congr 1;omega),by omega,by omega,S1,HP,hid (HU.out.blk HT.out (by omega) (permIn_refl _ _ _) H1.out)⟩
        case measure=>simp [intOf];omega
    ·have hltz:¬ (bs:Int) < (N:Int):=by omega
     go_wp2;go_end0
     exact ⟨rfl,dk,HP.out,HB.out.all (by omega),S1.out⟩
end
end
section
open Go Go.RowKit Go.Sort Go.Shelf
theorem sw_ow {α:Type} [Inhabited α] {f h:α→Value} {w w':World} {g n c:Nat} {e:TypeId} {xs:List Value} {d':Array α} (hO:Ow w g e 2 (some ⟨g,0,none⟩) n c xs) (hd:d'.size=n) (S:SWK (enc2 f h) 2 w g 0 d' w'):Ow w' g e 2 (some ⟨g,0,none⟩) n c (c2 f h d'.toList)∧Kp g g w w':=by
 obtain ⟨m,os,rfl⟩:=S;exact sort_ow hO hd os
theorem stableSA_any (w:World) (g n c:Nat) (l:List Smpl) (hn:n=l.length) (hm:n≤1000000) (hO:Ow w g 135 2 (some ⟨g,0,none⟩) n c (cS l)) :
  Calls Tryz.prog 140 #[.slice (some ⟨g,0,none⟩) n c,.int .i64 (n:Int),.func (.func 97) #[] #[]] w fun e w'=>e=.returned (.tuple #[])∧∃ l',l'.Perm l∧l'.Pairwise (fun x y=>¬ y.1 < x.1)∧Ow w' g 135 2 (some ⟨g,0,none⟩) n c (cS l')∧Kp g g w w':=by
 subst hn;have hO':Ow w g 135 2 (some ⟨g,0,none⟩) l.toArray.size c (c2 (fun z:Smpl=>.int .i64 z.1) (fun z=>.int .u64 (z.2:Int)) l.toArray.toList):=by simpa [cS] using hO
 obtain ⟨cs,hh,_⟩:=hO.heap;have hR:RowK (enc2 (fun z:Smpl=>Value.int .i64 z.1) (fun z=>.int .u64 (z.2:Int))) 2 w g 0 l.toArray:=⟨fun _=>rfl,fun x v hv=>by simp [enc2] at hv;rcases hv with rfl | rfl<;>rfl,holds_ow hO',lt_of_block hh⟩;refine (stableGS_any tyS szS (fun x y=>cmpI x.1 y.1) swo_time (cmpLaysS g _ w) egS hR l.length (by simp) (by omega) c l.toArray w (by simp) (SWK.start hR.hH)).mono ?_;rintro e w' ⟨rfl,d',hp,hs,S⟩;have hd:d'.size=l.length:=by have:=hp.1;simpa using this
 have hw:=sw_ow hO hd S;refine ⟨rfl,d'.toList,?_,?_,hw.1,hw.2⟩
 ·have:=perm_of (d:=l.toArray) (d':=d') (by simpa using hp);simpa using this
 ·refine (sorted_of hs hd.symm).imp ?_;intro x y h h2;rw [lt_time.2 h2] at h;cases h
theorem StableSA_any (w:World) (g n c:Nat) (l:List Smpl) (hn:n=l.length) (hm:n≤1000000) (hO:Ow w g 135 2 (some ⟨g,0,none⟩) n c (cS l)) :
  Calls Tryz.prog 96 #[.slice (some ⟨g,0,none⟩) n c,.func (.func 97) #[] #[]] w fun e w'=>e=.returned (.tuple #[])∧∃ l',l'.Perm l∧l'.Pairwise (fun x y=>¬ y.1 < x.1)∧Ow w' g 135 2 (some ⟨g,0,none⟩) n c (cS l')∧Kp g g w w':=by
 have HI:=hid (stableSA_any w g n c l hn hm hO);clear hO hn hm;go_enter Tryz.func96,Tryz.ntmps96
 go_wp2_with (go_at_call 140;refine HI.out.mono ?_;rintro e w1 ⟨rfl,hR⟩)
 go_end0
 exact ⟨rfl,hR⟩
theorem stableRA_any (w:World) (g n c:Nat) (l:List Ser) (hn:n=l.length) (hm:n≤1000000) (hO:Ow w g 51 2 (some ⟨g,0,none⟩) n c (cR l)) (hP:∀ s∈l,PS w g s) :
  Calls Tryz.prog 142 #[.slice (some ⟨g,0,none⟩) n c,.int .i64 (n:Int),.func (.func 66) #[] #[]] w fun e w'=>e=.returned (.tuple #[])∧∃ l',l'.Perm l∧l'.Pairwise (fun x y=>¬ cmpLs y.labs x.labs = -1)∧Ow w' g 51 2 (some ⟨g,0,none⟩) n c (cR l')∧Kp g g w w':=by
 by_cases h0:l=[]
 ·exact stableR_any w g n c l hn (by subst h0;subst hn;exact Nat.zero_lt_succ _) hO hP
 ·subst hn;obtain ⟨s0,hs0⟩:∃ s,s∈l:=by
   cases l with
   | nil=>exact (h0 rfl).elim
   | cons x l=>exact ⟨x,List.mem_cons_self⟩
  haveI:Inhabited {s:Ser // PS w g s}:=⟨⟨s0,hP s0 hs0⟩⟩
  obtain ⟨L,hL⟩:∃ L:List {s:Ser // PS w g s},L.map (·.1)=l:=⟨_,pmap_val l hP⟩;have hlen:L.length=l.length:=by rw [← hL,List.length_map]
  have hO':Ow w g 51 2 (some ⟨g,0,none⟩) L.toArray.size c (c2 (fun x:{s:Ser // PS w g s}=>fR x.1) (fun x=>hR x.1) L.toArray.toList):=by
   rw [List.size_toArray,List.toList_toArray,c2_val (f:=fR) (h:=hR) (fun x:{s:Ser // PS w g s}=>x.1) L,hL,hlen];exact hO
  obtain ⟨cs,hh,_⟩:=hO.heap;have hRw:RowK (enc2 (fun x:{s:Ser // PS w g s}=>fR x.1) (fun x=>hR x.1)) 2 w g 0 L.toArray:=⟨fun _=>rfl,fun x v hv=>by simp [enc2] at hv;rcases hv with rfl | rfl<;>rfl,holds_ow hO',lt_of_block hh⟩;refine (stableGR_any tyR szR (fun x y=>cmpLs x.1.labs y.1.labs) (cmp3_Ls.swo fun x:{s:Ser // PS w g s}=>x.1.labs) (cmpLaysR w g _ _ c _ hO (by simpa using hlen)) egR hRw l.length (by simpa using hlen) (by omega) c L.toArray w (by simpa using hlen) (SWK.start hRw.hH)).mono ?_;rintro e w' ⟨rfl,d',hp,hs,S⟩;have hd:d'.size=l.length:=by have:=hp.1;simpa [hlen] using this
  have hw:=sw_ow hO hd S;refine ⟨rfl,d'.toList.map (·.1),?_,?_,?_,hw.2⟩
  ·have:=perm_of (d:=L.toArray) (d':=d') (by simpa [hlen] using hp);rw [List.toList_toArray] at this;rw [← hL];exact this.map _
  ·rw [List.pairwise_map];refine (sorted_of hs hd.symm).imp ?_;intro x y h h2;rw [(cmp3_Ls.lt (κ:=fun x:{s:Ser // PS w g s}=>x.1.labs)).2 h2] at h;cases h
  ·have:=hw.1;rw [c2_val (f:=fR) (h:=hR) (fun x:{s:Ser // PS w g s}=>x.1)] at this;exact this
theorem StableRA_any (w:World) (g n c:Nat) (l:List Ser) (hn:n=l.length) (hm:n≤1000000) (hO:Ow w g 51 2 (some ⟨g,0,none⟩) n c (cR l)) (hP:∀ s∈l,PS w g s) :
  Calls Tryz.prog 98 #[.slice (some ⟨g,0,none⟩) n c,.func (.func 66) #[] #[]] w fun e w'=>e=.returned (.tuple #[])∧∃ l',l'.Perm l∧l'.Pairwise (fun x y=>¬ cmpLs y.labs x.labs = -1)∧Ow w' g 51 2 (some ⟨g,0,none⟩) n c (cR l')∧Kp g g w w':=by
 have HI:=hid (stableRA_any w g n c l hn hm hO hP);clear hO hn hP hm;go_enter Tryz.func98,Tryz.ntmps98
 go_wp2_with (go_at_call 142;refine HI.out.mono ?_;rintro e w1 ⟨rfl,hR⟩)
 go_end0
 exact ⟨rfl,hR⟩
end
section
open Go Go.RowKit Go.Sort Go.Shelf
abbrev Val:=List Lab × List Smpl
def valE (y:Val):Nat:=if chkL y.1≠0 then chkL y.1 else if y.2.length=0 then 21 else tmE y.2
theorem serE_val (s:Ser):serE s=valE (valS s):=rfl
def asV:Val→List Val→Nat
 | _,[]=>0
 | p,x::l=>if cmpLs p.1 x.1=0 then 19 else if cmpLs p.1 x.1=1 then 16 else asV x l
def asVE:List Val→Nat
 | []=>0
 | x::l=>asV x l
theorem asF_val:∀ (p:Ser) (l:List Ser),asF p l=asV (valS p) (l.map valS)
 | _,[]=>rfl
 | p,x::l=>by
  show (if cmpLs p.labs x.labs=0 then 19 else if cmpLs p.labs x.labs=1 then 16 else asF x l)=_
  rw [asF_val x l];rfl
theorem asE_val (l:List Ser):asE l=asVE (l.map valS):=by
 cases l with
 | nil=>rfl
 | cons x l=>exact asF_val x l
def SerTo (x:Val) (E:Nat) (y:Val):Prop :=
 (oneAll x.1≠0∧E=oneAll x.1) ∨
 (oneAll x.1=0∧InOrder y.1 x.1∧((chkL y.1≠0∧E=chkL y.1) ∨
  (chkL y.1=0∧y.2.Perm x.2∧y.2.Pairwise (fun a b:Smpl=>¬ b.1 < a.1)∧E=valE y)))
def AllTo (l m:List Val):Prop:=m.length=l.length∧∀ (i:Nat) (x y:Val),l[i]? = some x→m[i]? = some y→SerTo x 0 y
theorem AllTo.nil:AllTo [] []:=⟨rfl,fun i x y h=>by simp at h⟩
theorem AllTo.snoc {l m:List Val} {x y:Val} (h:AllTo l m) (k:SerTo x 0 y):AllTo (l++[x]) (m++[y]):=by
 refine ⟨by simp [h.1],fun i a b ha hb=>?_⟩;by_cases hi:i < l.length
 ·rw [List.getElem?_append_left hi] at ha;rw [List.getElem?_append_left (by rw [h.1];exact hi)] at hb;exact h.2 i a b ha hb
 ·rw [List.getElem?_append_right (by omega)] at ha;rw [List.getElem?_append_right (by rw [h.1];omega),h.1] at hb;by_cases h0:i - l.length=0
  ·rw [h0] at ha hb;simp at ha hb;subst ha hb;exact k
  ·rw [List.getElem?_eq_none (by simp;omega)] at ha;cases ha
def ListTo (l:List Val) (E:Nat) (r:List Val):Prop :=
 (∃ (k:Nat) (x y:Val) (m:List Val),l[k]? = some x∧AllTo (l.take k) m∧SerTo x E y∧E≠0) ∨
 (∃ m,AllTo l m∧r.Perm m∧r.Pairwise (fun a b=>¬ cmpLs b.1 a.1 = -1)∧E=asVE r)
def MGot (w:World) (l:List Val) (n:Nat) (e:Ending) (w':World):Prop :=
 Nw w w'∧∃ E r,ListTo l E r∧((E≠0∧e=.returned (.tuple #[.slice none 0 0,.int .i64 (E:Nat)])) ∨
  (E=0∧∃ g l',e=.returned (.tuple #[.slice (some ⟨g,0,none⟩) n n,.int .i64 0])∧l'.map valS=r∧l'.length=n∧w.heap.size≤g∧Ow w' g 51 2 (some ⟨g,0,none⟩) n n (cR l')∧∀ s∈l',SerOk w' s))
structure Dn (w:World) (g N:Nat) (s:Ser):Prop where
 ok:SerOk w s
 bl:N≤s.bl
 bs:s.bs < N
 ne:s.bs≠g
 small:Small s
section
variable {w w':World} {g g' N lo:Nat} {s:Ser}
theorem SerOk.kp2 (h:SerOk w s) (hk:Kp g g' w w') (h1:s.bl≠g) (h2:s.bl≠g') (h3:s.bs≠g) (h4:s.bs≠g'):SerOk w' s:=⟨h.1.kp hk h1 h2,h.2.kp hk h3 h4⟩
theorem Dn.kp (h:Dn w g N s) (hk:Kp g g' w w') (hg:g < N) (hg':g' < N) (h4:s.bs≠g'):Dn w' g N s :=
 ⟨h.ok.kp2 hk (by have:=h.bl;omega) (by have:=h.bl;omega) h.ne h4,h.bl,h.bs,h.ne,h.small⟩
end
theorem c2_set1 {α:Type} {f h:α→Value}:∀ (L:List α) (k:Nat) (z:α) (hk:k < L.length),h L[k]=h z→(c2 f h L).set (k*2) (f z)=c2 f h (L.set k z):=by
 intro L;induction L with
 | nil=>intro k z hk;simp at hk
 | cons y L ih =>
  intro k z hk he;have e:∀ (M:List α) y,c2 f h (y::M)=f y::h y::c2 f h M:=fun _ _=>rfl
  cases k with
  | zero =>
   rw [e,Nat.zero_mul,List.set_cons_zero,List.set_cons_zero,e];rw [List.getElem_cons_zero] at he;rw [he]
  | succ k =>
   rw [e,show (k+1)*2=k*2+1+1 by omega,List.set_cons_succ,List.set_cons_succ,ih k z (by simpa using hk) (by simpa using he),List.set_cons_succ,e]
theorem ow_new {w w':World} {g n c:Nat} {A:Option Addr} {l0:List Lab} {xs:List Value} (hO:Ow w' g 124 2 A n c xs) (hA:(A=none∧l0=[])∨(A=some ⟨g,0,none⟩∧w.heap.size≤g)):∃ g',w.heap.size≤g'∧Ow w' g' 124 2 A n c xs:=by
 rcases hA with ⟨rfl,_⟩ | ⟨_,h⟩
 ·rcases hO with ⟨_,rfl,rfl,rfl⟩ | ⟨h,_⟩
  ·exact ⟨w.heap.size,Nat.le_refl _,Ow.nil _ _ _ _⟩
  ·cases h
 ·exact ⟨g,h,hO⟩
set_option maxRecDepth 100000 in
set_option maxHeartbeats 3200000 in
theorem NormM_any (w:World) (b:Nat) (A:Option Addr) (n c:Nat) (l:List Ser) (hI:InSer w b A n c l) (hs:smpSum l≤100000) (hn:n≤100000) (hsm:∀ s∈l,s.labs.length≤100000∧s.smps.length≤100000) :
  Calls Tryz.prog 45 #[.slice A n c] w (MGot w (l.map valS) n):=by
 have HK:=hid (mcheck_any w b A n c l hI hs (by omega));have hl:=hI.len;subst hl;have HCL:=hid fun W (hN:Nw w W)=>Clone_any W b A l.length c l (hI.nw hN) (fun s h=>⟨by have:=(hsm s h).1;omega,by have:=(hsm s h).2;omega⟩) (by omega)
 have HSM:=hid fun x (h:x∈l.map valS)=>(show x.1.length≤100000∧x.2.length≤100000 from by obtain ⟨s,h1,rfl⟩:=List.mem_map.1 h;exact hsm s h1)
 have hVl:(l.map valS).length=l.length:=List.length_map _;generalize l.map valS=V at *;clear hI hs hsm;go_enter Tryz.func45,Tryz.ntmps45
 go_wp2_with (first
  | (go_at_call 94;refine (HCL.out _ hN1).mono ?_;rintro e w2 ⟨l',rfl,hV,hO,hC,hA,hN2⟩)
  | (go_at_call 63;refine HK.out.mono ?_;rintro e w1 ⟨rfl,hN1⟩))
 obtain ⟨g,hg⟩:∃ g,w1.heap.size=g:=⟨_,rfl⟩;rw [hg] at hO hC hA ⊢;have hll:l'.length=l.length:=by rw [← hVl,← hV,List.length_map]
 have hgw:w.heap.size≤g:=by rw [← hg];exact hN1.size
 obtain ⟨N,hN⟩:∃ N,w2.heap.size=N:=⟨_,rfl⟩;have hgN:g < N:=by
  obtain ⟨cs,hh,_⟩:=hO.heap;rw [← hN];exact lt_of_block hh
 have HNW:=hid (hN1.trans hN2);have HO0:=hid hO;have HC0:=hid hC;have HA0:=hid hA;have HV:=hid hV;have HW2:=hid hN;clear hO hC hA hV hN1 hN2 hN HK HCL;go_wp2;go_loopw [21] (fun i wr=>∃ (k:Nat) (m:List Ser),k≤l.length∧i=.int .i64 k∧m.length=k∧Hid (AllTo (V.take k) (m.map valS))∧Hid (Ow wr g 51 2 (some ⟨g,0,none⟩) l.length l.length (cR (m++l'.drop k)))∧Hid (∀ s∈m,Dn wr g N s∧∀ t∈l'.drop k,s.bs≠t.bs) ∧
  Hid (∀ s∈l'.drop k,Cl wr g s∧s.bl < N∧s.bs < N)∧Hid (Ap g (l'.drop k))∧Hid (Nw w wr)∧Hid (N≤wr.heap.size)) (fun i _=>l.length - (intOf i).toNat)
 case atStart =>
  refine ⟨0,[],by omega,rfl,rfl,hid AllTo.nil,hid (by simpa using HO0.out),hid (by simp),hid ?_,hid (by simpa using HA0.out),HNW,hid (by rw [HW2.out];exact Nat.le_refl _)⟩;intro s hs;rw [List.drop_zero] at hs;have h:=HC0.out s hs;have h1:=h.lol;have h2:=h.los;have h3:=HW2.out;exact ⟨h,by omega,by omega⟩
 case round =>
  obtain ⟨k,m,hk,rfl,hm,HT,HO,HD,HC,HA,HN,HNr⟩:=hrel;by_cases hlt:k < l.length
  ·have hltI:(k:Int) < (l.length:Int):=by omega
   have hlt':k < l'.length:=by omega
   have hOs:=fun W (hN:Nw wr W)=>Ow.ser (HO.out.nw hN) (k:=k) (by rw [List.length_append,List.length_drop];omega)
   have hdrop:=drop_cons hlt';have hx:(m++l'.drop k)[k]'(by rw [List.length_append,List.length_drop];omega)=l'[k]:=by
    rw [List.getElem_append_right (by omega)];simp [hm]
   rw [hx] at hOs;have HVk:=hid (show V[k]? = some (valS l'[k]) from by rw [← HV.out,List.getElem?_map,List.getElem?_eq_getElem hlt'];rfl);rw [hdrop] at HO HD HC HA;generalize l'[k]=x at *;obtain ⟨h0,h1⟩:=hOs wr (Nw.refl _);have HOs:=hid hOs;have hxs:=HSM.out (valS x) (List.mem_of_getElem? HVk.out);have HXC:=hid (HC.out x List.mem_cons_self);have HNL:=hid (NormL_any wr x.bl x.al x.labs.length x.cl x.labs HXC.out.1.ok.1 (by have:=hxs.1;dsimp only at this;omega));obtain ⟨h00,_⟩:=h0;obtain ⟨h10,_⟩:=h1;have hxs1:x.labs.length≤100000:=hxs.1;have hxs2:x.smps.length≤1000000:=Nat.le_trans hxs.2 (by omega);clear hOs hx hdrop hxs;go_wp2_with fail;refine HNL.out.mono ?_;rintro e w3 ⟨hN3,hcase⟩;rcases hcase with ⟨hE,rfl⟩ | ⟨hE,l1,hio,hcase⟩
   ·obtain ⟨E,hEE⟩:∃ E,oneAll x.labs=E:=⟨_,rfl⟩;rw [hEE] at hE ⊢;have HE:=hid hEE;have HE0:=hid hE;have hE1:((E:Int) != 0)=true:=by rw [bne_iff_ne];omega
    clear hEE hE;go_wp2;go_ret2;exact ⟨HN.out.trans hN3,E,[],.inl ⟨k,valS x,(x.labs,[]),_,HVk.out,HT.out,.inl ⟨by rw [HE.out];exact HE0.out,HE.out.symm⟩,HE0.out⟩,.inl ⟨HE0.out,rfl⟩⟩
   ·have HEz:=hid hE;have HIO:=hid hio;clear hE hio;rcases hcase with ⟨hC,rfl⟩ | ⟨hC,g1,A1,c1,rfl,hO1,hA1⟩
    ·obtain ⟨E,hEE⟩:∃ E,chkL l1=E:=⟨_,rfl⟩;rw [hEE] at hC ⊢;have HE:=hid hEE;have HE0:=hid hC;have hE1:((E:Int) != 0)=true:=by rw [bne_iff_ne];omega
     clear hEE hC;go_wp2;go_ret2;exact ⟨HN.out.trans hN3,E,[],.inl ⟨k,valS x,(l1,[]),_,HVk.out,HT.out,.inr ⟨HEz.out,HIO.out,.inl ⟨by rw [HE.out];exact HE0.out,HE.out.symm⟩⟩,HE0.out⟩,.inl ⟨HE0.out,rfl⟩⟩
    ·obtain ⟨bl,hbl,hO1⟩:=ow_new hO1 hA1;have hgr:=HNr.out;have hXbs:=HXC.out.2.2;have hXne:x.bs≠g:=(HA.out.2 x List.mem_cons_self).1;have hlx:l1.length=x.labs.length:=HIO.out.1.length_eq;obtain ⟨⟨t0,t1⟩,t2,t3⟩:=HOs.out _ hN3;have hO4:=(HO.out.nw hN3).set_ (k*2) (.slice A1 x.labs.length c1);have hK4:Kp g g w3 (w3.setCell ⟨g,k*2,none⟩ (.slice A1 x.labs.length c1)):=(Kp.refl g g w3).setCell' (.inl rfl) _;have hLen:=hO4.len;rw [List.length_set,show (cR _).length=2*_ from c2_length _,List.length_append,List.length_cons,List.length_drop] at hLen;have hLen2:k*2+1 < (cR (m++x::l'.drop (k+1))).length:=by
      rw [show (cR _).length=2*_ from c2_length _,List.length_append,List.length_cons,List.length_drop];omega
     have u0:(w3.setCell ⟨g,k*2,none⟩ (.slice A1 x.labs.length c1)).cell? ⟨g,k*2,none⟩=some (.slice A1 x.labs.length c1):=by
      obtain ⟨_,_,h,_⟩:=hO4.at_ (j:=k*2) (by omega);rw [h,List.getElem?_set_self (by omega)]
     have u1:(w3.setCell ⟨g,k*2,none⟩ (.slice A1 x.labs.length c1)).cell? ⟨g,k*2+1,none⟩=some (.slice x.as_ x.smps.length x.cs):=by
      obtain ⟨_,_,h,_⟩:=hO4.at_ (j:=k*2+1) (by omega);obtain ⟨_,_,h2,_⟩:=(HO.out.nw hN3).at_ (j:=k*2+1) (by omega);rw [h,List.getElem?_set_ne (by omega),← h2,t2]
     have hS4:=(HXC.out.1.smp.nw hN3).kp hK4 hXne hXne;have hL4:=hO1.kp hK4 (by omega) (by omega);have hCx:Kp g x.bs wr (w3.setCell ⟨g,k*2,none⟩ (.slice A1 x.labs.length c1)):=(hN3.kp g x.bs).setCell' (.inl rfl) _;have HS4:=hid hS4;have HL4:=hid hL4;have HO4:=hid hO4;have HCx:=hid hCx;have has:x.as_=some ⟨x.bs,0,none⟩:=HXC.out.1.as_;have HLx:=hid hlx;have HU:=hid (And.intro u0 u1);have HLen:=hid hLen;have HC0:=hid hC;have HBL:=hid hbl;have HXN:=hid hXne;rw [has] at u1;clear hS4 hL4 hO4 hCx hK4 hO1 hA1 hLen hLen2 hC hbl hlx hXne h00 h10 t2 t3 has;go_wp2_with fail;obtain ⟨w4,hw4⟩:∃ w4,w3.setCell ⟨g,k*2,none⟩ (.slice A1 x.labs.length c1)=w4:=⟨_,rfl⟩;rw [hw4] at HS4 HL4 HO4 HCx HU u0 u1 ⊢;clear hw4;have HAS:=hid HXC.out.1.as_;have hS:=HS4.out;rw [HAS.out] at hS;refine (StableSA_any w4 x.bs x.smps.length x.cs x.smps rfl hxs2 hS).mono ?_;rintro e w5 ⟨rfl,l2,hperm,hpw,hO5,hK5⟩;have hxne:=HXN.out;have hbl:=HBL.out;have hgr:=HNr.out;have hXbs:=HXC.out.2.2;have hlx:=HLx.out;have hly:l2.length=x.smps.length:=hperm.length_eq;have hg4:=HCx.out.size;have hgne:g≠x.bs:=fun h=>hxne h.symm
     have hOg:=HO4.out.kp hK5 hgne hgne;have hl5:=HL4.out.kp hK5 (by omega) (by omega);rw [← hlx] at hl5;rw [← hly] at hO5;have v0:=(World.cell?_of_block (hK5.block g (by omega) hgne hgne) (a:=⟨g,k*2,none⟩)).trans u0;have v1:=(World.cell?_of_block (hK5.block g (by omega) hgne hgne) (a:=⟨g,k*2+1,none⟩)).trans u1;have hok:SerOk w5 ⟨l1,l2,bl,A1,c1,x.bs,some ⟨x.bs,0,none⟩,x.cs⟩ :=
      ⟨⟨hl5.rd,rfl,hl5.nil_cap,hl5.cap.1,hl5.cap.2,fun y hy=>HXC.out.1.small y (HIO.out.1.mem_iff.1 hy)⟩,⟨hO5.rd,rfl,fun y hy=>HXC.out.1.wf y (hperm.mem_iff.1 hy),hO5.nil_cap,hO5.cap.1,hO5.cap.2⟩⟩
     have h22:=singleSer_any w5 ⟨l1,l2,bl,A1,c1,x.bs,some ⟨x.bs,0,none⟩,x.cs⟩ hok (by dsimp only;omega) (by dsimp only;omega);rw [serE_val] at h22;dsimp only [vSer,valS] at h22;rw [hlx,hly] at h22;obtain ⟨E,hE⟩:∃ E,valE (l1,l2)=E:=⟨_,rfl⟩;rw [hE] at h22;have HE:=hid hE;have H22:=hid h22;have HTO:=hid (show SerTo (valS x) E (l1,l2) from .inr ⟨HEz.out,HIO.out,.inr ⟨HC0.out,hperm,hpw,hE.symm⟩⟩);have HOK:=hid hok;have HOg:=hid hOg;have hK6:Kp g x.bs wr w5:=HCx.out.trans hK5 (.inr (.inl rfl)) (.inr (.inl rfl));have HK6:=hid hK6;have HLY:=hid hly;clear hS HS4 HL4 HO4 HCx HU u0 u1 hperm hpw hO5 hK5 hl5 hok h22 hE hOg hly hlx hK6 hg4 hxs2 hxs1 HOs HNL;by_cases h0:E=0
     ·have hE1:((E:Int) != 0)=false:=by rw [bne_eq_false_iff_eq];omega
      have HE0:=hid h0;clear h0;go_wp2_with (go_at_call 64;refine H22.out.mono ?_;rintro e w6 ⟨rfl,hN6⟩)
      have HN6:=hid hN6;clear hN6;go_roundw
      case rel =>
       have hbl:=HBL.out;have hgr:=HNr.out;have hxc:=HXC.out;have hxne:=HXN.out;have hk6:=HK6.out.nw' HN6.out;have hto:=HTO.out;rw [HE0.out] at hto;have hVt:V.take (k+1)=V.take k++[valS x]:=by
        have:=List.getElem?_eq_some_iff.1 HVk.out;obtain ⟨h1,h2⟩:=this;rw [List.take_succ_eq_append_getElem h1,h2]
       refine ⟨k+1,m++[⟨l1,l2,bl,A1,c1,x.bs,some ⟨x.bs,0,none⟩,x.cs⟩],by omega,by go_num,by simp [hm],hid ?_,hid ?_,hid ?_,hid ?_,hid ?_,hid (Kp.nw HN.out hk6 hgw (by have:=hxc.1.los.1;omega)),hid (Nat.le_trans hgr hk6.size)⟩
       ·rw [hVt,List.map_append];exact HT.out.snoc hto
       ·have h:=HOg.out.nw HN6.out;have hkl:k < (m++x::l'.drop (k+1)).length:=by simp;omega
        have hgx:(m++x::l'.drop (k+1))[k]=x:=by
         rw [List.getElem_append_right (by omega)];simp [hm]
        have e:=c2_set1 (f:=fR) (h:=hR) (m++x::l'.drop (k+1)) k ⟨l1,l2,bl,A1,c1,x.bs,some ⟨x.bs,0,none⟩,x.cs⟩ hkl (by rw [hgx];dsimp only [hR];rw [hxc.1.as_,HLY.out]);dsimp only [fR] at e;rw [HLx.out] at e;unfold cR at h ⊢;rw [e,List.set_append_right _ _ (by omega),hm,Nat.sub_self,List.set_cons_zero] at h;rw [List.append_assoc];exact h
       ·intro s hs;rcases List.mem_append.1 hs with hs | hs
        ·have h:=HD.out s hs;refine ⟨h.1.kp hk6 hgN hxc.2.2 (h.2 x List.mem_cons_self),fun t ht=>h.2 t (List.mem_cons_of_mem _ ht)⟩
        ·obtain rfl:=List.mem_singleton.1 hs;refine ⟨⟨HOK.out.nw HN6.out,by dsimp only;omega,hxc.2.2,hxne,⟨by dsimp only;have:=HLx.out;have:=(HSM.out (valS x) (List.mem_of_getElem? HVk.out)).1;dsimp only at this;omega,by dsimp only;have:=HLY.out;have:=(HSM.out (valS x) (List.mem_of_getElem? HVk.out)).2;dsimp only at this;omega⟩⟩,fun t ht=>?_⟩;have:=(List.pairwise_cons.1 HA.out.1).1 t ht;exact this.1
       ·intro s hs;have h:=HC.out s (List.mem_cons_of_mem _ hs);have h1:=(List.pairwise_cons.1 HA.out.1).1 s hs;have h2:=HA.out.2 s (List.mem_cons_of_mem _ hs);exact ⟨h.1.kp hk6 h2.2.1 (fun e=>h1.2.1 e.symm) h2.1 (fun e=>h1.1 e.symm),h.2⟩
       ·exact ⟨(List.pairwise_cons.1 HA.out.1).2,fun s hs=>HA.out.2 s (List.mem_cons_of_mem _ hs)⟩
      case measure=>simp [intOf];omega
     ·have hE1:((E:Int) != 0)=true:=by rw [bne_iff_ne];omega
      have HE0:=hid h0;clear h0;go_wp2_with (go_at_call 64;refine H22.out.mono ?_;rintro e w6 ⟨rfl,hN6⟩)
      go_ret2;exact ⟨Kp.nw HN.out (HK6.out.nw' hN6) hgw (by have:=HXC.out.1.los.1;omega),E,[],.inl ⟨k,valS x,(l1,l2),_,HVk.out,HT.out,HTO.out,HE0.out⟩,.inl ⟨HE0.out,rfl⟩⟩
  ·obtain rfl:k=l.length:=by omega
   have hO:=HO.out;rw [List.drop_eq_nil_of_le (by omega),List.append_nil] at hO;have hT:=HT.out;rw [List.take_of_length_le (by omega)] at hT;have HST:=hid (StableRA_any wr g l.length l.length m hm.symm (by omega) hO (fun s hs=>by
    have h:=(HD.out s hs).1;exact ⟨h.ok,by have:=h.bl;omega,h.ne,h.small.1⟩))
   have HT2:=hid hT;have HDm:=hid fun s (h:s∈m)=>(HD.out s h).1
   clear hO hT HT HO HD HC HA;go_wp2_with (go_at_call 98;refine HST.out.mono ?_;rintro e w3 ⟨rfl,l2,hperm,hpw,hO3,hK3⟩)
   have hl2:l2.length=l.length:=hperm.length_eq.trans hm;have hD3:∀ s∈l2,SerOk w3 s∧s.labs.length≤1000000:=fun s hs=>by
    have h:=HDm.out s (hperm.mem_iff.1 hs);exact ⟨h.ok.kp hK3 (by have:=h.bl;omega) h.ne,h.small.1⟩
   have HAS:=hid (ascR_any w3 g (some ⟨g,0,none⟩) l.length l.length l2 hl2.symm (by omega) hO3.rd hD3);have HN3:=hid (Kp.nw HN.out hK3 hgw hgw);have hTo:ListTo V (asE l2) (l2.map valS):=.inr ⟨_,HT2.out,hperm.map _,by rw [List.pairwise_map];exact hpw,asE_val l2⟩;have HO3:=hid hO3;have HD3:=hid fun s (h:s∈l2)=>(hD3 s h).1
   have HL2:=hid hl2;generalize asE l2=E at *;have HTo:=hid hTo;clear hperm hpw hO3 hK3 hD3 hTo hl2;by_cases h0:E=0
   ·have hE1:((E:Int) != 0)=false:=by rw [bne_eq_false_iff_eq];omega
    have HE0:=hid h0;clear h0;go_wp2_with (go_at_call 65;refine HAS.out.mono ?_;rintro e w4 ⟨rfl,hN4⟩)
    go_ret2;exact ⟨HN3.out.trans hN4,E,l2.map valS,HTo.out,.inr ⟨HE0.out,g,l2,rfl,rfl,HL2.out,hgw,HO3.out.nw hN4,fun s hs=>(HD3.out s hs).nw hN4⟩⟩
   ·have hE1:((E:Int) != 0)=true:=by rw [bne_iff_ne];omega
    have HE0:=hid h0;clear h0;go_wp2_with (go_at_call 65;refine HAS.out.mono ?_;rintro e w4 ⟨rfl,hN4⟩)
    go_ret2;exact ⟨HN3.out.trans hN4,E,l2.map valS,HTo.out,.inl ⟨HE0.out,rfl⟩⟩
end
section
open Go Go.RowKit Go.Sort Go.Shelf
section
variable {α:Type}
def gapG (d:List α) (k:Nat) (v:α):List α:=d.take k++v::d.drop k
theorem gapG_length (d:List α) (k:Nat) (v:α) (hk:k≤d.length):(gapG d k v).length=d.length+1:=by
 simp [gapG];omega
theorem gapG_prev (d:List α) (k:Nat) (v:α) (hk:k < d.length):(gapG d (k+1) v)[k]? = some d[k]:=by
 unfold gapG;rw [List.getElem?_append_left (by simp;omega),List.getElem?_take];simp [hk]
theorem gapG_shift (d:List α) (k:Nat) (v:α) (hk:k < d.length):(gapG d (k+1) v).set (k+1) d[k]=gapG d k d[k]:=by
 unfold gapG;rw [List.set_append_right _ _ (by simp;omega)];simp only [List.length_take];rw [show k+1 - min (k+1) d.length=0 from by omega,List.set_cons_zero,List.take_succ_eq_append_getElem hk,List.append_assoc];congr 1
 rw [List.singleton_append,← List.drop_eq_getElem_cons hk]
theorem gapG_fill (d:List α) (k:Nat) (v x:α) (hk:k≤d.length):(gapG d k v).set k x=gapG d k x:=by
 unfold gapG;rw [List.set_append_right _ _ (by simp;omega)];simp only [List.length_take];rw [show k - min k d.length=0 from by omega,List.set_cons_zero]
theorem gap_end (d:List α) (k:Nat) (v:α) (hk:d.length=k):gapG d k v=d++[v]:=by
 unfold gapG;rw [List.take_of_length_le (by omega),List.drop_eq_nil_of_le (by omega)]
theorem gap_perm (d:List α) (k:Nat) (v:α):(gapG d k v).Perm (v::d):=by
 unfold gapG;have h:=List.perm_middle (a:=v) (l₁:=d.take k) (l₂:=d.drop k)
 rwa [List.take_append_drop] at h
theorem gap_take {d l:List α} {k j:Nat} (hk:k < l.length) (h:d.Perm (l.take k)):(gapG d j l[k]).Perm (l.take (k+1)):=by
 rw [List.take_succ_eq_append_getElem hk];exact (gap_perm d j _).trans ((List.Perm.cons _ h).trans (List.perm_append_singleton _ _).symm)
theorem gap_sorted {r:α→α→Prop} {d:List α} {k:Nat} {v:α} (h:d.Pairwise r) (h1:∀ y∈d.take k,r y v) (h2:∀ y∈d.drop k,r v y):(gapG d k v).Pairwise r:=by
 unfold gapG;rw [List.pairwise_append];rw [← List.take_append_drop k d,List.pairwise_append] at h;refine ⟨h.1,List.pairwise_cons.2 ⟨h2,h.2.1⟩,fun a ha b hb=>?_⟩;rcases List.mem_cons.1 hb with rfl | hb
 ·exact h1 a ha
 ·exact h.2.2 a ha b hb
variable {f h:α→Value}
theorem two_ow {w:World} {b n c k:Nat} {e:TypeId} {A:Option Addr} {l:List α} (hO:Ow w b e 2 A n c (c2 f h l)) (hk:k < l.length) :
  A=some ⟨b,0,none⟩∧b < w.heap.size∧w.cell? ⟨b,k*2,none⟩=some (f l[k])∧w.cell? ⟨b,k*2+1,none⟩=some (h l[k])∧w.frozen? ⟨b,k*2,none⟩=false∧w.frozen? ⟨b,k*2+1,none⟩=false:=by
 have hl:=hO.len;rw [c2_length] at hl;obtain ⟨h1,h2,h3,h4⟩:=hO.at_ (j:=k*2) (by omega);obtain ⟨_,_,h5,h6⟩:=hO.at_ (j:=k*2+1) (by omega);obtain ⟨e1,e2⟩:=c2_at (f:=f) (g:=h) l k hk;exact ⟨h1,h2,h3.trans e1,h5.trans e2,h4,h6⟩
theorem two_setG {w:World} {b n c k:Nat} {e:TypeId} {A:Option Addr} {l:List α} (hO:Ow w b e 2 A n c (c2 f h l)) (z:α) :
  Ow ((w.setCell ⟨b,k*2,none⟩ (f z)).setCell ⟨b,k*2+1,none⟩ (h z)) b e 2 A n c (c2 f h (l.set k z)):=by
 have:=(hO.set_ (k*2) (f z)).set_ (k*2+1) (h z)
 rwa [c2_set] at this
end
theorem Nw.set2 {w wr:World} (h:Nw w wr) {b i j:Nat} (hb:w.heap.size≤b) (u v:Value):Nw w ((wr.setCell ⟨b,i,none⟩ u).setCell ⟨b,j,none⟩ v):=(h.setCell' (p:=⟨b,i,none⟩) hb u).setCell' (p:=⟨b,j,none⟩) hb v
section
variable {P:Program} {w:World} {b n c:Nat} {A:Option Addr} {xs:List Value} {e:TypeId}
theorem wpList_app2G {ops:Array Oper} {rest:List Oper} {o:Oper} {a:Act} {Q:Exit→Act→World→Prop} {t:TypeId} {z:Value} {bytes:Nat} (E:ElemT P t e z 2 bytes) (hgd:o.guard=none) (s x:Operand)
  (ho:o.op=.call { callee:=.builtin .append,args:=#[s,x],argTypes:=#[t,t] })
  (hs:a.eval s=.slice A n c) (hown:Ow w b e 2 A n c xs) {u v:Value} (hx:a.eval x=.slice (some ⟨w.heap.size,0,none⟩) 1 1) (h1:u.oneCell'=true) (h1':v.oneCell'=true)
  (hbytes:(n+1)*bytes≤140737488355328) (hby0:0 < bytes)
  (h:∀ b' A' c' w',Ow w' b' e 2 A' (n+1) c' (xs++[u,v])→(b'=b∨w.heap.size≤b')→Kp b b w w'→wpList P ops Q rest (a.put o.dst (.slice A' (n+1) c')) w') :
  wpList P ops Q (o::rest) a (w.alloc (.cells #[u,v] e)):=by
 have hn:n+1≤140737488355328:=Nat.le_trans (Nat.le_mul_of_pos_right _ hby0) hbytes;have hnw:Nw w (w.alloc (.cells #[u,v] e)):=Nw.alloc' (Nw.refl w) _;refine wpList_app E hgd s x ho hs (hown.nw hnw) (b2:=w.heap.size) (news:=[u,v]) hx (Ow.lit w e 2 1 #[u,v] rfl (by omega)).rd (by simp) (by simp) (by intro y hy;simp at hy;rcases hy with rfl | rfl;exact h1;exact h1')
  (by simp only [maxLen];omega) hbytes ?_
 intro b' A' c' w' h2 h3 h4 _;have h6:=hnw.size;exact h b' A' c' w' h2 (by rcases h3 with h3 | h3;exact .inl h3;right;omega) ((hnw.kp b b).trans h4 (.inl rfl) (.inl rfl))
end
end
section
open Go Go.RowKit Go.Sort Go.Shelf
set_option maxRecDepth 100000 in
set_option maxHeartbeats 4000000 in
theorem RSort_any (w:World) (b:Nat) (A:Option Addr) (n c:Nat) (l:List Smpl) (hI:InSmp w b A n c l) (hn:n≤1000000) :
  Calls Tryz.prog 47 #[.slice A n c] w fun e w'=>∃ g A' c',e=.returned (.slice A' n c')∧∃ l',l'.Perm l∧l'.Pairwise (fun x y:Smpl=>¬ y.1 < x.1)∧Ow w' g 135 2 A' n c' (cS l')∧w.heap.size≤g∧Nw w w':=by
 have hl:=hI.len;subst hl;have HR:=hid hI.rd;have HWF:=hid hI.wf;clear hI;go_enter Tryz.func47,Tryz.ntmps47
 go_wp2;go_loopw [3,4] (fun s i wr=>∃ (k:Nat) (out:List Smpl) (bk:Nat) (Ak:Option Addr) (ck:Nat),k≤l.length∧i=.int .i64 k∧s=.slice Ak k ck∧Hid (out.length=k)∧Hid (out.Perm (l.take k))∧Hid (out.Pairwise (fun x y:Smpl=>x.1≤y.1)) ∧
  Hid (Ow wr bk 135 2 Ak k ck (cS out))∧w.heap.size≤bk∧Hid (Nw w wr)) (fun _ i _=>l.length - (intOf i).toNat)
 case atStart=>exact ⟨0,[],w.heap.size,none,0,by omega,rfl,rfl,hid rfl,hid (List.Perm.refl _),hid List.Pairwise.nil,hid (Ow.nil _ _ _ _),Nat.le_refl _,hid (Nw.refl _)⟩
 case round =>
  obtain ⟨k,out,bk,Ak,ck,hk,rfl,rfl,HL,HP,HS,HO,hbk,HN⟩:=hrel;by_cases hlt:k < l.length
  ·have hltI:(k:Int) < (l.length:Int):=by omega
   obtain ⟨o,rfl,hbr,hc0,hc1⟩:=two_at (HR.out.nw HN.out) hlt;have HX:=hid fun W (hN:Nw w W)=>two_at (HR.out.nw hN) hlt
   have HG:=hid fun (d:List Smpl) j (h:d.Perm (l.take k))=>gap_take (j:=j) hlt h
   have hwf:=HWF.out l[k] (List.getElem_mem hlt);generalize l[k]=x at *;have HW:=hid hwf;go_wp2_with (at_builtin;refine wpList_app2G E_smp rfl (.tmp 14) (.tmp 19) rfl rfl HO.out rfl rfl rfl (by omega) (by omega) ?_;intro b3 A3 c3 w3 r1 r2 r3;have R1:=hid r1;have R2:=hid r2;have R3:=hid r3;clear r1 r2 r3)
   have hN3:Nw w w3:=Kp.nw HN.out R3.out hbk hbk;have hb3:w.heap.size≤b3:=by
    rcases R2.out with h | h
    ·omega
    ·have:=HN.out.size;omega
   have hO3:Ow w3 b3 135 2 A3 (k+1) c3 (cS (gapG out k x)):=by
    have h:=R1.out;rw [gap_end out k x HL.out];unfold cS c2 at h ⊢;rw [List.flatMap_append];exact h
   have HO3:=hid hO3;have HN3:=hid hN3;obtain ⟨rfl,_⟩:=hO3.at_ (j:=0) (by omega);have HD0:Hid (∀ y∈out.drop k,x.1 < y.1):=hid (by rw [List.drop_eq_nil_of_le (by have:=HL.out;omega)];intro y hy;cases hy);clear hO3 hN3 R1 R2 R3 HO hc0 hc1
   rename World=>wo
   go_loopw [5] (fun v wr=>∃ (j:Nat) (z:Smpl),j≤k∧v=.int .i64 j∧Hid (Ow wr b3 135 2 (some ⟨b3,0,none⟩) (k+1) c3 (cS (gapG out j z)))∧Hid (∀ y∈out.drop j,x.1 < y.1)∧Hid (Nw w wr)) (fun v _=>(intOf v).toNat)
   case atStart=>exact ⟨k,x,Nat.le_refl _,rfl,HO3,HD0,HN3⟩
   case round =>
    clear HO3 HN3 HD0;obtain ⟨j,z,hj,rfl,HO,HD,HN⟩:=hrel;have hgl:=gapG_length out j z (by have:=HL.out;omega);rw [HL.out] at hgl;obtain ⟨_,e9,hbw,hx0,hx1⟩:=HX.out wr HN.out;cases e9;obtain ⟨_,hb4,v0,v1,v2,v3⟩:=two_ow (k:=j) HO.out (by omega);by_cases h0:j=0
    ·have g0:¬ (0:Int) < (j:Int):=by omega
     have g1:decide ((0:Int) < (j:Int))=false:=decide_eq_false g0;have g3:decide (0 < j)=false:=by rw [decide_eq_false_iff_not];omega
     have H0:=hid h0;clear v0 v1 v2 v3 hx0 hx1 h0;go_wp2_with fail;refine wp_region_gr (by kernel_rfl) (by kernel_rfl) ?_
     repeat (go_big_quiet_step (first | fail))
     refine wpQuiet_nil ?_;rintro _ ⟨p',rfl⟩;have HGr:=hid ((Gr.refl wr).trans (⟨p',rfl⟩:Gr wr _));generalize grow (wr.drewN p'.n) p'.os=wz at *;obtain ⟨_,_,_,hx0,hx1⟩:=HX.out wz (HN.out.trans HGr.out.nw);obtain ⟨_,hb4,y0,y1,v2,v3⟩:=two_ow (k:=j) (HO.out.nw HGr.out.nw) (by omega);obtain ⟨u0,v0⟩:∃ u,wz.cell? ⟨b3,j*2,none⟩=some u:=⟨_,y0⟩;obtain ⟨u1,v1⟩:∃ u,wz.cell? ⟨b3,j*2+1,none⟩=some u:=⟨_,y1⟩;have i1:(j:Int) < (k:Int)+1:=by omega
     clear y0 y1;go_wp2;go_roundw
     case rel =>
      refine ⟨k+1,gapG out j x,b3,some ⟨b3,0,none⟩,c3,by omega,by go_num,rfl,hid ?_,hid (HG.out out j HP.out),hid (gap_sorted HS.out ?_ (fun y hy=>by have:=HD.out y hy;omega)),hid ?_,hb3,hid ((HN.out.trans HGr.out.nw).set2 hb3 _ _)⟩
      ·rw [gapG_length out j x (by have:=HL.out;omega),HL.out]
      ·rw [H0.out];intro y hy;cases hy
      ·have h:=two_setG (k:=j) (HO.out.nw HGr.out.nw) x;rw [gapG_fill out j z x (by have:=HL.out;omega)] at h;exact h
     case measure=>simp [intOf];omega
    ·obtain ⟨i,hi⟩:∃ i,j=i+1:=⟨j - 1,by omega⟩;have g0:(0:Int) < (j:Int):=by omega
     have g1:decide ((0:Int) < (j:Int))=true:=decide_eq_true g0;have g3:decide (0 < j)=true:=by rw [decide_eq_true_iff];omega
     have hio:i < out.length:=by have:=HL.out;omega
     obtain ⟨_,_,t0,t1,_,_⟩:=two_ow (k:=i) HO.out (by omega);have e0:(gapG out j z)[i]'(by omega)=out[i]:=Option.some.inj (by rw [← List.getElem?_eq_getElem,hi,gapG_prev out i z hio]);rw [e0] at t0 t1;have HE:Hid ((gapG out j z)[i]? = some out[i]):=hid (by rw [hi];exact gapG_prev out i z hio);have HSH:=hid (gapG_shift out i z hio);have HDR:=hid (show ∀ y∈out.drop i,y=out[i]∨y∈out.drop j from fun y hy=>by rw [List.drop_eq_getElem_cons hio,List.mem_cons,← hi] at hy;exact hy);have HTK:=hid (show ∀ y∈out.take j,y=out[i]∨¬ out[i].1 < y.1 from fun y hy=>by
      rw [hi,List.take_succ_eq_append_getElem hio,List.mem_append,List.mem_singleton] at hy;rcases hy with hy | hy
      ·right
       have h:=HS.out;rw [← List.take_append_drop i out,List.pairwise_append] at h;have h2:=h.2.2 y hy out[i] (by rw [List.drop_eq_getElem_cons hio];exact List.mem_cons_self);omega
      ·exact .inl hy)
     generalize out[i]=y at *;have Hi:i+1≤j∧j≤i+1:=by omega
     have HI:=hid hi;clear hi e0;have j1:(j:Int) - 1=(i:Int):=by omega
     have j2:(i:Int) < (k:Int)+1:=by omega
     have j3:(j:Int) < (k:Int)+1:=by omega
     have q0:∀ p':Gp,(grow (wr.drewN p'.n) p'.os).cell? ⟨b3,i*2,none⟩=some (.int .i64 y.1):=cell_gr hb4 t0;have q1:∀ p':Gp,(grow (wr.drewN p'.n) p'.os).cell? ⟨b,o+k*2,none⟩=some (.int .i64 x.1):=cell_gr hbw hx0;by_cases hy:x.1 < y.1
     ·have g2:decide (x.1 < y.1)=true:=decide_eq_true hy;clear v0 v1 v2 v3 hx0 hx1 t0 t1;go_wp2_with fail;refine wp_region_gr (by kernel_rfl) (by kernel_rfl) ?_
      repeat (go_big_quiet_step (first | fail))
      refine wpQuiet_nil ?_;rintro _ ⟨p',rfl⟩;have HGr:=hid ((Gr.refl wr).trans (⟨p',rfl⟩:Gr wr _));generalize grow (wr.drewN p'.n) p'.os=wz at *;clear q0 q1;obtain ⟨_,hb4,y0,y1,v2,v3⟩:=two_ow (k:=j) (HO.out.nw HGr.out.nw) (by omega);obtain ⟨u0,v0⟩:∃ u,wz.cell? ⟨b3,j*2,none⟩=some u:=⟨_,y0⟩;obtain ⟨u1,v1⟩:∃ u,wz.cell? ⟨b3,j*2+1,none⟩=some u:=⟨_,y1⟩;obtain ⟨_,_,t0,t1,_,_⟩:=two_ow (k:=i) (HO.out.nw HGr.out.nw) (by omega);have e0:(gapG out j z)[i]'(by omega)=y:=Option.some.inj (by rw [← List.getElem?_eq_getElem,HE.out]);rw [e0] at t0 t1;clear e0;go_wp2;go_roundw
      case rel =>
       refine ⟨i,y,by omega,by go_num,hid ?_,hid (fun t ht=>?_),hid ((HN.out.trans HGr.out.nw).set2 hb3 _ _)⟩
       ·have h:=two_setG (k:=j) (HO.out.nw HGr.out.nw) y;rw [HI.out,HSH.out,← HI.out] at h;exact h
       ·rcases HDR.out t ht with rfl | ht
        ·exact hy
        ·exact HD.out t ht
      case measure=>simp [intOf];omega
     ·have g2:decide (x.1 < y.1)=false:=decide_eq_false hy;clear v0 v1 v2 v3 hx0 hx1 t0 t1;go_wp2_with fail;refine wp_region_gr (by kernel_rfl) (by kernel_rfl) ?_
      repeat (go_big_quiet_step (first | fail))
      refine wpQuiet_nil ?_;rintro _ ⟨p',rfl⟩;have HGr:=hid ((Gr.refl wr).trans (⟨p',rfl⟩:Gr wr _));generalize grow (wr.drewN p'.n) p'.os=wz at *;clear q0 q1;obtain ⟨_,_,_,hx0,hx1⟩:=HX.out wz (HN.out.trans HGr.out.nw);obtain ⟨_,hb4,y0,y1,v2,v3⟩:=two_ow (k:=j) (HO.out.nw HGr.out.nw) (by omega);obtain ⟨u0,v0⟩:∃ u,wz.cell? ⟨b3,j*2,none⟩=some u:=⟨_,y0⟩;obtain ⟨u1,v1⟩:∃ u,wz.cell? ⟨b3,j*2+1,none⟩=some u:=⟨_,y1⟩;have i1:(j:Int) < (k:Int)+1:=by omega
      clear y0 y1;go_wp2;go_roundw
      case rel =>
       refine ⟨k+1,gapG out j x,b3,some ⟨b3,0,none⟩,c3,by omega,by go_num,rfl,hid ?_,hid (HG.out out j HP.out),hid (gap_sorted HS.out ?_ (fun y hy=>by have:=HD.out y hy;omega)),hid ?_,hb3,hid ((HN.out.trans HGr.out.nw).set2 hb3 _ _)⟩
       ·rw [gapG_length out j x (by have:=HL.out;omega),HL.out]
       ·intro t ht;rcases HTK.out t ht with rfl | h<;>omega
       ·have h:=two_setG (k:=j) (HO.out.nw HGr.out.nw) x;rw [gapG_fill out j z x (by have:=HL.out;omega)] at h;exact h
      case measure=>simp [intOf];omega
  ·obtain rfl:k=l.length:=by omega
   have hP:=HP.out;rw [List.take_length] at hP;go_wp2;go_ret;exact ⟨bk,Ak,ck,rfl,out,hP,HS.out.imp (fun h=>by omega),HO.out,hbk,HN.out⟩
end
section
open Go Go.RowKit Go.Sort Go.Shelf
def RNormGot (w:World) (l:List Lab) (e:Ending) (w':World):Prop :=
 Nw w w'∧((oneAll l≠0∧e=.returned (.tuple #[.slice none 0 0,.int .i64 (oneAll l:Nat)])) ∨
  (oneAll l=0∧¬ (l.map (·.1)).Nodup∧e=.returned (.tuple #[.slice none 0 0,.int .i64 18])) ∨
  (oneAll l=0∧∃ l' g A c,l'.Perm l∧l'.Pairwise (fun x y=>LtB x.1 y.1)∧e=.returned (.tuple #[.slice A l.length c,.int .i64 0])∧Ow w' g 124 2 A l.length c (cL l')∧w.heap.size≤g))
theorem oneAll_step {l:List Lab} {k:Nat} (hk:k < l.length):oneAll (l.drop k)=if oneE l[k]≠0 then oneE l[k] else oneAll (l.drop (k+1)):=by
 rw [List.drop_eq_getElem_cons hk];rfl
theorem place1 (out:List Lab) (a:ByteArray):∃ p,p≤out.length∧(∀ y∈out.take p,LtB y.1 a)∧∀ (h:p < out.length),¬ LtB out[p].1 a:=by
 obtain ⟨p,h1,h2,h3⟩:=place (out.map (·.1)) a;rw [List.length_map] at h1;refine ⟨p,h1,fun y hy=>h2 y.1 ?_,fun h=>?_⟩
 ·rw [← List.map_take];exact List.mem_map.2 ⟨y,hy,rfl⟩
 ·have:=h3 (by rw [List.length_map];exact h)
  rwa [List.getElem_map] at this
theorem dup_take {l out:List Lab} {k p:Nat} (hk:k < l.length) (hp:out.Perm (l.take k)) (hpo:p < out.length) (he:out[p].1=l[k].1):¬ (l.map (·.1)).Nodup:=by
 intro hn;have h1:out[p]∈l.take k:=hp.mem_iff.1 (List.getElem_mem hpo);rw [← List.take_append_drop k l,List.map_append,List.nodup_append] at hn;refine hn.2.2 _ (List.mem_map.2 ⟨_,h1,rfl⟩) l[k].1 (List.mem_map.2 ⟨l[k],by rw [List.drop_eq_getElem_cons hk];exact List.mem_cons_self,rfl⟩) he
theorem gap_asc {out:List Lab} {p:Nat} {x:Lab} (h:out.Pairwise (fun x y=>LtB x.1 y.1)) (h1:∀ y∈out.take p,LtB y.1 x.1) (h2:∀ (hp:p < out.length),LtB x.1 out[p].1):(gapG out p x).Pairwise (fun x y=>LtB x.1 y.1):=by
 refine gap_sorted h h1 (fun y hy=>?_);by_cases hp:p < out.length
 ·rw [List.drop_eq_getElem_cons hp] at hy;rcases List.mem_cons.1 hy with rfl | hy
  ·exact h2 hp
  ·have h3:=h;rw [← List.take_append_drop p out,List.drop_eq_getElem_cons hp,List.pairwise_append,List.pairwise_cons] at h3;exact bl_trans _ _ _ (h2 hp) (h3.2.1.1 y hy)
 ·rw [List.drop_eq_nil_of_le (by omega)] at hy;cases hy
set_option maxRecDepth 100000 in
set_option maxHeartbeats 8000000 in
theorem RNormL_any (w:World) (b:Nat) (A:Option Addr) (n c:Nat) (l:List Lab) (hI:InLab w b A n c l) (hn:n≤1000000) :
  Calls Tryz.prog 46 #[.slice A n c] w (RNormGot w l):=by
 have hl:=hI.len;subst hl;have HR:=hid hI.rd;clear hI;go_enter Tryz.func46,Tryz.ntmps46
 go_wp2;go_loopw [5] (fun i wr=>∃ k:Nat,k≤l.length∧i=.int .i64 k∧Hid (oneAll l=oneAll (l.drop k))∧Hid (Nw w wr)) (fun i _=>l.length - (intOf i).toNat)
 case atStart=>exact ⟨0,by omega,rfl,hid rfl,hid (Nw.refl _)⟩
 case round =>
  obtain ⟨k,hk,rfl,HX,HN⟩:=hrel;by_cases hlt:k < l.length
  ·have hltI:(k:Int) < (l.length:Int):=by omega
   obtain ⟨o,rfl,hbw,hc0,hc1⟩:=two_at (HR.out.nw HN.out) hlt;have hX:=HX.out;rw [oneAll_step hlt] at hX;generalize l[k]=x at *;obtain ⟨a,d⟩:=x;dsimp only at hc0 hc1;have HS:=hid fun W=>one_any W a d
   obtain ⟨E,hE⟩:∃ E,oneE (a,d)=E:=⟨_,rfl⟩;rw [hE] at HS hX;clear hE;by_cases h0:E=0
   ·have hE1:((E:Int) != 0)=false:=by rw [bne_eq_false_iff_eq];omega
    rw [if_neg (by simpa using h0)] at hX;have HX2:=hid hX;clear hX HX h0;go_wp2_with (go_at_call 82;refine (HS.out _).mono ?_;rintro e w3 ⟨rfl,hN3⟩)
    go_roundw
    case rel=>exact ⟨k+1,by omega,by go_num,HX2,hid (HN.out.trans hN3)⟩
    case measure=>simp [intOf];omega
   ·have hE1:((E:Int) != 0)=true:=by rw [bne_iff_ne];omega
    rw [if_pos h0] at hX;have HX2:=hid hX;have HE:=hid h0;clear hX HX h0;go_wp2_with (go_at_call 82;refine (HS.out _).mono ?_;rintro e w3 ⟨rfl,hN3⟩)
    go_ret2;exact ⟨HN.out.trans hN3,.inl ⟨by rw [HX2.out];exact HE.out,by rw [HX2.out];rfl⟩⟩
  ·have hltI:¬ (k:Int) < (l.length:Int):=by omega
   have H0:Hid (oneAll l=0):=hid (by rw [HX.out,List.drop_eq_nil_of_le (by omega)];rfl);clear HX hk hlt;go_wp2
   rename World=>wf
   go_loopw [4,7] (fun s i wr=>∃ (k:Nat) (out:List Lab) (bk:Nat) (Ak:Option Addr) (ck:Nat),k≤l.length∧i=.int .i64 k∧s=.slice Ak k ck∧Hid (out.length=k)∧Hid (out.Perm (l.take k))∧Hid (out.Pairwise (fun x y=>LtB x.1 y.1)) ∧
    Hid (Ow wr bk 124 2 Ak k ck (cL out))∧w.heap.size≤bk∧Hid (Nw w wr)) (fun _ i _=>l.length - (intOf i).toNat)
   case atStart=>exact ⟨0,[],w.heap.size,none,0,by omega,rfl,rfl,hid rfl,hid (List.Perm.refl _),hid List.Pairwise.nil,hid (Ow.nil _ _ _ _),Nat.le_refl _,HN⟩
   case round =>
    clear HN hltI;obtain ⟨k,out,bk,Ak,ck,hk,rfl,rfl,HL,HP,HS,HO,hbk,HN⟩:=hrel;by_cases hlt:k < l.length
    ·have hltI:(k:Int) < (l.length:Int):=by omega
     obtain ⟨o,rfl,hbr,_,_⟩:=two_at (HR.out.nw HN.out) hlt;have HX:=hid fun W (hN:Nw w W)=>(show W.cell? ⟨b,o+k*2,none⟩=some (.string l[k].1)∧W.cell? ⟨b,o+k*2+1,none⟩=some (.string l[k].2)∧b < W.heap.size from by
      obtain ⟨o',e,h1,h2,h3⟩:=two_at (HR.out.nw hN) hlt;cases e;exact ⟨h2,h3,h1⟩)
     have HG:=hid fun (d:List Lab) j (h:d.Perm (l.take k))=>gap_take (j:=j) hlt h
     have HDP:=hid fun p (hp:p < out.length) (he:out[p].1=l[k].1)=>dup_take hlt HP.out hp he
     generalize l[k]=x at *;obtain ⟨p,hp,hpl,hpr⟩:=place1 out x.1;have HPL:=hid hpl;have HPR:=hid hpr;have hpk:p≤k:=by have:=HL.out;omega
     clear hpl hpr hp;go_wp2
     rename World=>wo
     go_loopw [8] (fun v wr=>∃ j:Nat,j≤p∧v=.int .i64 j∧Hid (Gr wo wr)) (fun v _=>p - (intOf v).toNat)
     case atStart=>exact ⟨0,Nat.zero_le _,rfl,hid (Gr.refl _)⟩
     case round =>
      obtain ⟨j,hj,rfl,Hwr⟩:=hrel;by_cases hjp:j < p
      ·have hjI:(j:Int) < (k:Int):=by omega
       have hjd:decide ((j:Int) < (k:Int))=true:=decide_eq_true hjI;have hjn:decide (j < k)=true:=by rw [decide_eq_true_iff];omega
       have hjo:j < out.length:=by have:=HL.out;omega
       obtain ⟨rfl,_⟩:=two_ow (k:=j) HO.out hjo;obtain ⟨z,hz⟩:∃ z,out[j]=z:=⟨_,rfl⟩;have HZ:=hid hz;have hB:Op.bytesLess z.1.toList x.1.toList=true:=by rw [← hz];exact HPL.out out[j] (by rw [List.mem_take_iff_getElem];exact ⟨j,by omega,rfl⟩)
       clear hz;obtain ⟨_,hb4,t0,_,_,_⟩:=two_ow (k:=j) (HO.out.nw Hwr.out.nw) (by have:=HL.out;omega);obtain ⟨x0,_,hbx⟩:=HX.out wr (HN.out.trans Hwr.out.nw);have q0:∀ p':Gp,(grow (wr.drewN p'.n) p'.os).cell? ⟨bk,j*2,none⟩=some (.string z.1):=cell_gr hb4 (HZ.out ▸ t0);have q1:∀ p':Gp,(grow (wr.drewN p'.n) p'.os).cell? ⟨b,o+k*2,none⟩=some (.string x.1):=cell_gr hbx x0;clear t0 x0 hbx hb4;go_wp2_with fail;refine wp_region_gr (by kernel_rfl) (by kernel_rfl) ?_
       repeat (go_big_quiet_step (first | fail))
       refine wpQuiet_nil ?_;rintro _ ⟨p',rfl⟩;have Hwz:=hid (Hwr.out.trans (⟨p',rfl⟩:Gr wr _));generalize grow (wr.drewN p'.n) p'.os=wz at *;go_wp2_with fail;go_roundw
       case rel=>exact ⟨j+1,by omega,by go_num,Hwz⟩
       case measure=>simp [intOf];omega
      ·obtain rfl:j=p:=by omega
       by_cases hjk:j < k
       ·have hjI:(j:Int) < (k:Int):=by omega
        have hjd:decide ((j:Int) < (k:Int))=true:=decide_eq_true hjI;have hjn:decide (j < k)=true:=by rw [decide_eq_true_iff];omega
        have hjo:j < out.length:=by have:=HL.out;omega
        obtain ⟨rfl,_⟩:=two_ow (k:=j) HO.out hjo;obtain ⟨z,hz⟩:∃ z,out[j]=z:=⟨_,rfl⟩;have HZ:=hid hz;have hB:Op.bytesLess z.1.toList x.1.toList=false:=by rw [← hz,Bool.eq_false_iff];exact HPR.out hjo
        clear hz;obtain ⟨_,hb4,t0,_,_,_⟩:=two_ow (k:=j) (HO.out.nw Hwr.out.nw) (by have:=HL.out;omega);obtain ⟨x0,_,hbx⟩:=HX.out wr (HN.out.trans Hwr.out.nw);have q0:∀ p':Gp,(grow (wr.drewN p'.n) p'.os).cell? ⟨bk,j*2,none⟩=some (.string z.1):=cell_gr hb4 (HZ.out ▸ t0);have q1:∀ p':Gp,(grow (wr.drewN p'.n) p'.os).cell? ⟨b,o+k*2,none⟩=some (.string x.1):=cell_gr hbx x0;clear t0 x0 hbx hb4;go_wp2_with fail;refine wp_region_gr (by kernel_rfl) (by kernel_rfl) ?_
        repeat (go_big_quiet_step (first | fail))
        refine wpQuiet_nil ?_;rintro _ ⟨p',rfl⟩;have Hwz:=hid (Hwr.out.trans (⟨p',rfl⟩:Gr wr _));generalize grow (wr.drewN p'.n) p'.os=wz at *;clear q0 q1;obtain ⟨_,hb4,t0,_,_,_⟩:=two_ow (k:=j) (HO.out.nw Hwz.out.nw) (by have:=HL.out;omega);obtain ⟨x0,_,hbx⟩:=HX.out wz (HN.out.trans Hwz.out.nw);have q0:∀ p':Gp,(grow (wz.drewN p'.n) p'.os).cell? ⟨bk,j*2,none⟩=some (.string z.1):=cell_gr hb4 (HZ.out ▸ t0);have q1:∀ p':Gp,(grow (wz.drewN p'.n) p'.os).cell? ⟨b,o+k*2,none⟩=some (.string x.1):=cell_gr hbx x0;clear t0 x0 hbx hb4;by_cases hxz:z.1=x.1
        ·have hE:(z.1.toList == x.1.toList)=true:=by rw [beq_iff_eq,hxz]
         have HE:=hid hxz;clear hxz;go_wp2_with fail;refine wp_region_gr (by kernel_rfl) (by kernel_rfl) ?_
         repeat (go_big_quiet_step (first | fail))
         refine wpQuiet_nil ?_;rintro _ ⟨p',rfl⟩;have Hwy:=hid (Hwz.out.trans (⟨p',rfl⟩:Gr wz _));generalize grow (wz.drewN p'.n) p'.os=wy at *;go_wp2;go_ret2;exact ⟨HN.out.trans Hwy.out.nw,.inr (.inl ⟨H0.out,HDP.out j hjo (by rw [HZ.out];exact HE.out),rfl⟩)⟩
        ·have hE:(z.1.toList == x.1.toList)=false:=by rw [beq_eq_false_iff_ne];exact fun h=>hxz (bytes_ext h)
         have HE:=hid hxz;have HLT:=hid (show LtB x.1 z.1 from by
          rcases bl_total x.1.toList z.1.toList with h | h | h
          ·exact h
          ·exact (hxz (bytes_ext h).symm).elim
          ·rw [h] at hB;cases hB)
         clear hxz;go_wp2_with fail;refine wp_region_gr (by kernel_rfl) (by kernel_rfl) ?_
         repeat (go_big_quiet_step (first | fail))
         refine wpQuiet_nil ?_;rintro _ ⟨p',rfl⟩;have Hwy:=hid (Hwz.out.trans (⟨p',rfl⟩:Gr wz _));generalize grow (wz.drewN p'.n) p'.os=wy at *;clear q0 q1;obtain ⟨x0,x1,_⟩:=HX.out wy (HN.out.trans Hwy.out.nw);have HOz:=hid (HO.out.nw Hwy.out.nw);have HNz:=hid (HN.out.trans Hwy.out.nw);go_wp2_with (at_builtin;refine wpList_app2G E_lab rfl (.tmp 66) (.tmp 71) rfl rfl HOz.out rfl rfl rfl (by omega) (by omega) ?_;intro b3 A3 c3 w3 r1 r2 r3;have R1:=hid r1;have R2:=hid r2;have R3:=hid r3;clear r1 r2 r3)
         have hN3:Nw w w3:=Kp.nw HNz.out R3.out hbk hbk;have hb3:w.heap.size≤b3:=by
          rcases R2.out with h | h
          ·omega
          ·have:=HNz.out.size;omega
         have hO3:Ow w3 b3 124 2 A3 (k+1) c3 (cL (gapG out k x)):=by
          have h:=R1.out;rw [gap_end out k x HL.out];unfold cL c2 at h ⊢;rw [List.flatMap_append];exact h
         have HO3:=hid hO3;have HN3:=hid hN3;obtain ⟨rfl,_⟩:=hO3.at_ (j:=0) (by omega);clear hO3 hN3 R1 R2 R3 HOz HNz x0 x1
         rename World=>wp
         go_loopw [9] (fun v wr=>∃ (m:Nat) (y:Lab),j≤m∧m≤k∧v=.int .i64 m∧Hid (Ow wr b3 124 2 (some ⟨b3,0,none⟩) (k+1) c3 (cL (gapG out m y)))∧Hid (Nw w wr)) (fun v _=>(intOf v).toNat)
         case atStart=>exact ⟨k,x,by omega,Nat.le_refl _,by go_num,HO3,HN3⟩
         case round =>
          clear HO3 HN3;obtain ⟨m,y,hjm,hmM,rfl,HO4,HN4⟩:=hrel;have hgl:=gapG_length out m y (by have:=HL.out;omega);rw [HL.out] at hgl;have i2:(m:Int) < (k:Int)+1:=by omega
          obtain ⟨_,hb4,y0,y1,v2,v3⟩:=two_ow (k:=m) HO4.out (by omega);obtain ⟨u0,v0⟩:∃ u,wr.cell? ⟨b3,m*2,none⟩=some u:=⟨_,y0⟩;obtain ⟨u1,v1⟩:∃ u,wr.cell? ⟨b3,m*2+1,none⟩=some u:=⟨_,y1⟩;clear y0 y1;by_cases hmj:j < m
          ·skip
           obtain ⟨i,hi⟩:∃ i,m=i+1:=⟨m - 1,by omega⟩;have hio:i < out.length:=by have:=HL.out;omega
           obtain ⟨_,_,t0,t1,_,_⟩:=two_ow (k:=i) HO4.out (by omega);have e0:(gapG out m y)[i]'(by omega)=out[i]:=Option.some.inj (by rw [← List.getElem?_eq_getElem,hi,gapG_prev out i y hio]);rw [e0] at t0 t1;have HSH:=hid (gapG_shift out i y hio);generalize out[i]=s at *;have Hi:i+1≤m∧m≤i+1:=by omega
           have HI:=hid hi;clear hi e0 hgl;have i0:(j:Int) < (m:Int):=by omega
           have i1:(m:Int) - 1=(i:Int):=by omega
           have i3:(i:Int) < (k:Int)+1:=by omega
           go_wp2;go_roundw
           case rel =>
            refine ⟨i,s,by omega,by omega,by go_num,hid ?_,hid (HN4.out.set2 hb3 _ _)⟩;have h:=two_setG (k:=m) HO4.out s;rw [HI.out,HSH.out,← HI.out] at h;exact h
           case measure=>simp [intOf];omega
          ·obtain rfl:j=m:=by omega
           have i0:¬ (j:Int) < (j:Int):=by omega
           obtain ⟨x0,x1,_⟩:=HX.out wr HN4.out;clear hgl hmj;go_wp2;go_roundw
           case rel =>
            refine ⟨k+1,gapG out j x,b3,some ⟨b3,0,none⟩,c3,by omega,by go_num,rfl,hid ?_,hid (HG.out out j HP.out),hid (gap_asc HS.out HPL.out (fun _=>by rw [HZ.out];exact HLT.out)),hid ?_,hb3,hid (HN4.out.set2 hb3 _ _)⟩
            ·rw [gapG_length out j x (by have:=HL.out;omega),HL.out]
            ·have h:=two_setG (k:=j) HO4.out x;rw [gapG_fill out j y x (by have:=HL.out;omega)] at h;exact h
           case measure=>simp [intOf];omega
       ·obtain rfl:j=k:=by omega
        have hjI:¬ (j:Int) < (j:Int):=by omega
        have hjd:decide ((j:Int) < (j:Int))=false:=decide_eq_false hjI;have hjn:decide (j < j)=false:=by rw [decide_eq_false_iff_not];omega
        go_wp2_with fail;refine wp_region_gr (by kernel_rfl) (by kernel_rfl) ?_
        repeat (go_big_quiet_step (first | fail))
        refine wpQuiet_nil ?_;rintro _ ⟨p',rfl⟩;have Hwz:=hid (Hwr.out.trans (⟨p',rfl⟩:Gr wr _));generalize grow (wr.drewN p'.n) p'.os=wz at *;go_wp2_with fail;refine wp_region_gr (by kernel_rfl) (by kernel_rfl) ?_
        repeat (go_big_quiet_step (first | fail))
        refine wpQuiet_nil ?_;rintro _ ⟨p',rfl⟩;have Hwy:=hid (Hwz.out.trans (⟨p',rfl⟩:Gr wz _));generalize grow (wz.drewN p'.n) p'.os=wy at *;obtain ⟨x0,x1,_⟩:=HX.out wy (HN.out.trans Hwy.out.nw);have HOz:=hid (HO.out.nw Hwy.out.nw);have HNz:=hid (HN.out.trans Hwy.out.nw);go_wp2_with (at_builtin;refine wpList_app2G E_lab rfl (.tmp 66) (.tmp 71) rfl rfl HOz.out rfl rfl rfl (by omega) (by omega) ?_;intro b3 A3 c3 w3 r1 r2 r3;have R1:=hid r1;have R2:=hid r2;have R3:=hid r3;clear r1 r2 r3)
        have hN3:Nw w w3:=Kp.nw HNz.out R3.out hbk hbk;have hb3:w.heap.size≤b3:=by
         rcases R2.out with h | h
         ·omega
         ·have:=HNz.out.size;omega
        have hO3:Ow w3 b3 124 2 A3 (j+1) c3 (cL (gapG out j x)):=by
         have h:=R1.out;rw [gap_end out j x HL.out];unfold cL c2 at h ⊢;rw [List.flatMap_append];exact h
        have HO3:=hid hO3;have HN3:=hid hN3;obtain ⟨rfl,_⟩:=hO3.at_ (j:=0) (by omega);clear hO3 hN3 R1 R2 R3 HOz HNz x0 x1
        rename World=>wp
        go_loopw [9] (fun v wr=>∃ (m:Nat) (y:Lab),j≤m∧m≤j∧v=.int .i64 m∧Hid (Ow wr b3 124 2 (some ⟨b3,0,none⟩) (j+1) c3 (cL (gapG out m y)))∧Hid (Nw w wr)) (fun v _=>(intOf v).toNat)
        case atStart=>exact ⟨j,x,by omega,Nat.le_refl _,by go_num,HO3,HN3⟩
        case round =>
         clear HO3 HN3;obtain ⟨m,y,hjm,hmM,rfl,HO4,HN4⟩:=hrel;have hgl:=gapG_length out m y (by have:=HL.out;omega);rw [HL.out] at hgl;have i2:(m:Int) < (j:Int)+1:=by omega
         obtain ⟨_,hb4,y0,y1,v2,v3⟩:=two_ow (k:=m) HO4.out (by omega);obtain ⟨u0,v0⟩:∃ u,wr.cell? ⟨b3,m*2,none⟩=some u:=⟨_,y0⟩;obtain ⟨u1,v1⟩:∃ u,wr.cell? ⟨b3,m*2+1,none⟩=some u:=⟨_,y1⟩;clear y0 y1;by_cases hmj:j < m
         ·exfalso;omega
         ·obtain rfl:j=m:=by omega
          have i0:¬ (j:Int) < (j:Int):=by omega
          obtain ⟨x0,x1,_⟩:=HX.out wr HN4.out;clear hgl hmj;go_wp2;go_roundw
          case rel =>
           refine ⟨j+1,gapG out j x,b3,some ⟨b3,0,none⟩,c3,by omega,by go_num,rfl,hid ?_,hid (HG.out out j HP.out),hid (gap_asc HS.out HPL.out (fun h=>by have:=HL.out;omega)),hid ?_,hb3,hid (HN4.out.set2 hb3 _ _)⟩
           ·rw [gapG_length out j x (by have:=HL.out;omega),HL.out]
           ·have h:=two_setG (k:=j) HO4.out x;rw [gapG_fill out j y x (by have:=HL.out;omega)] at h;exact h
          case measure=>simp [intOf];omega
    ·have hltI:¬ (k:Int) < (l.length:Int):=by omega
     obtain rfl:k=l.length:=by omega
     have hP:=HP.out;rw [List.take_length] at hP;go_wp2;go_ret2;exact ⟨HN.out,.inr (.inr ⟨H0.out,out,bk,Ak,ck,hP,HS.out,rfl,HO.out,hbk⟩)⟩
end
section
open Go Go.RowKit Go.Sort Go.Shelf
def SerSp (x:Val) (E:Nat) (y:Val):Prop :=
 (oneAll x.1≠0∧E=oneAll x.1) ∨
 (oneAll x.1=0∧¬ (x.1.map (·.1)).Nodup∧E=18) ∨
 (oneAll x.1=0∧y.1.Perm x.1∧y.1.Pairwise (fun a b=>LtB a.1 b.1)∧((x.2=[]∧E=21)∨(x.2≠[]∧y.2.Perm x.2∧y.2.Pairwise (fun a b:Smpl=>¬ b.1 < a.1)∧E=tmE y.2)))
def AllSp (l m:List Val):Prop:=m.length=l.length∧∀ (i:Nat) (x y:Val),l[i]? = some x→m[i]? = some y→SerSp x 0 y
theorem AllSp.nil:AllSp [] []:=⟨rfl,fun i x y h=>by simp at h⟩
theorem AllSp.snoc {l m:List Val} {x y:Val} (h:AllSp l m) (k:SerSp x 0 y):AllSp (l++[x]) (m++[y]):=by
 refine ⟨by simp [h.1],fun i a b ha hb=>?_⟩;by_cases hi:i < l.length
 ·rw [List.getElem?_append_left hi] at ha;rw [List.getElem?_append_left (by rw [h.1];exact hi)] at hb;exact h.2 i a b ha hb
 ·rw [List.getElem?_append_right (by omega)] at ha;rw [List.getElem?_append_right (by rw [h.1];omega),h.1] at hb;by_cases h0:i - l.length=0
  ·rw [h0] at ha hb;simp at ha hb;subst ha hb;exact k
  ·rw [List.getElem?_eq_none (by simp;omega)] at ha;cases ha
def ListSp (l:List Val) (E:Nat) (r:List Val):Prop :=
 (∃ (k:Nat) (x y:Val) (m:List Val),l[k]? = some x∧AllSp (l.take k) m∧SerSp x E y∧E≠0) ∨
 (∃ m,AllSp l m∧r.Perm m∧r.Pairwise (fun a b=>¬ cmpLs b.1 a.1 = -1)∧E=asVE r)
def RMGot (w:World) (l:List Val) (n:Nat) (e:Ending) (w':World):Prop :=
 Nw w w'∧∃ E r,ListSp l E r∧((E≠0∧e=.returned (.tuple #[.slice none 0 0,.int .i64 (E:Nat)])) ∨
  (E=0∧∃ g A c l',e=.returned (.tuple #[.slice A n c,.int .i64 0])∧l'.map valS=r∧l'.length=n∧Ow w' g 51 2 A n c (cR l')∧∀ s∈l',SerOk w' s∧s.labs.length≤1000000))
structure Out (w:World) (bk:Nat) (s:Ser):Prop where
 ok:SerOk w s
 bl:s.bl≠bk∧s.bl < w.heap.size
 bs:s.bs≠bk∧s.bs < w.heap.size
 sm:s.labs.length≤1000000
section
variable {w w':World} {bk b3:Nat} {s:Ser}
theorem Out.nw (h:Out w bk s) (hN:Nw w w'):Out w' bk s:=⟨h.ok.nw hN,⟨h.bl.1,Nat.lt_of_lt_of_le h.bl.2 hN.size⟩,⟨h.bs.1,Nat.lt_of_lt_of_le h.bs.2 hN.size⟩,h.sm⟩
theorem Out.kp (h:Out w bk s) (hk:Kp bk bk w w'):Out w' bk s:=⟨h.ok.kp hk h.bl.1 h.bs.1,⟨h.bl.1,Nat.lt_of_lt_of_le h.bl.2 hk.size⟩,⟨h.bs.1,Nat.lt_of_lt_of_le h.bs.2 hk.size⟩,h.sm⟩
theorem Out.app (h:Out w bk s) (hk:Kp bk bk w w') (h1:b3=bk∨w.heap.size≤b3):Out w' b3 s:=by
 have h2:=h.bl;have h3:=h.bs;have h4:=hk.size;refine ⟨h.ok.kp hk h2.1 h3.1,⟨?_,by omega⟩,⟨?_,by omega⟩,h.sm⟩
 ·rcases h1 with rfl | h1
  ·exact h2.1
  ·omega
 ·rcases h1 with rfl | h1
  ·exact h3.1
  ·omega
end
theorem ow_there {w w':World} {g n c b:Nat} {e:TypeId} {A:Option Addr} {xs:List Value} (hO:Ow w' g e 2 A n c xs) (hg:w.heap.size≤g):∃ g',Ow w' g' e 2 A n c xs∧(g'=b∨(w.heap.size≤g'∧g' < w'.heap.size)):=by
 cases A with
 | none =>
  rcases hO with ⟨_,rfl,rfl,rfl⟩ | ⟨h,_⟩
  ·exact ⟨b,Ow.nil _ _ _ _,.inl rfl⟩
  ·cases h
 | some a =>
  obtain ⟨cs,hh,_⟩:=hO.heap;exact ⟨g,hO,.inr ⟨hg,lt_of_block hh⟩⟩
theorem cmpLs_ntr {a b c:List Lab} (h1:¬ cmpLs b a = -1) (h2:¬ cmpLs c b = -1):¬ cmpLs c a = -1:=by
 intro h;rcases cmp3_Ls.inn a b with h3 | h3 | h3
 ·exact h2 (cmp3_Ls.trans _ _ _ h h3)
 ·obtain rfl:=(cmp3_Ls.zero _ _).1 h3;exact h2 h
 ·have:=cmp3_Ls.swap a b;omega
theorem cmpLs_pos {a b:List Lab}:cmpLs a b=1↔cmpLs b a = -1:=by
 have:=cmp3_Ls.swap a b;omega
set_option maxRecDepth 100000 in
set_option maxHeartbeats 8000000 in
theorem RNormM_any (w:World) (b:Nat) (A:Option Addr) (n c:Nat) (l:List Ser) (hI:InSer w b A n c l) (hs:smpSum l≤100000) (hn:n≤100000) (hsm:∀ s∈l,s.labs.length≤100000∧s.smps.length≤100000) :
  Calls Tryz.prog 19 #[.slice A n c] w (RMGot w (l.map valS) n):=by
 have HK:=hid (large_any w b A n c l hI hs hn);have hl:=hI.len;subst hl;have HR:=hid hI.rd;have HOK:=hid fun s (h:s∈l)=>And.intro (hI.ok s h) (hsm s h)
 have hVl:(l.map valS).length=l.length:=List.length_map _;have HVK:=hid fun k (h:k < l.length)=>(show (l.map valS)[k]? = some (valS l[k]) from by rw [List.getElem?_map,List.getElem?_eq_getElem h];rfl)
 generalize l.map valS=V at *;clear hI hs hsm;go_enter Tryz.func19,Tryz.ntmps19
 go_wp2_with (go_at_call 35;refine HK.out.mono ?_;rintro e w1 ⟨rfl,hw1⟩;subst hw1)
 clear HK;go_loopw [4,5] (fun s i wr=>∃ (k:Nat) (out:List Ser) (m:List Val) (bk:Nat) (Ak:Option Addr) (ck:Nat),k≤l.length∧i=.int .i64 k∧s=.slice Ak k ck∧Hid (out.length=k)∧Hid (AllSp (V.take k) m)∧Hid ((out.map valS).Perm m)∧Hid (out.Pairwise (fun a b=>¬ cmpLs b.labs a.labs = -1)) ∧
  Hid (Ow wr bk 51 2 Ak k ck (cR out))∧w.heap.size≤bk∧Hid (Ak=none∨bk < wr.heap.size)∧Hid (∀ s∈out,Out wr bk s)∧Hid (Nw w wr)) (fun _ i _=>l.length - (intOf i).toNat)
 case atStart=>exact ⟨0,[],[],w.heap.size,none,0,by omega,rfl,rfl,hid rfl,hid AllSp.nil,hid (List.Perm.refl _),hid List.Pairwise.nil,hid (Ow.nil _ _ _ _),Nat.le_refl _,hid (.inl rfl),hid (fun s h=>absurd h List.not_mem_nil),hid (Nw.refl _)⟩
 case round =>
  obtain ⟨k,out,m,bk,Ak,ck,hk,rfl,rfl,HL,HT,HP,HS,HO,hbk,HBK,HQ,HN⟩:=hrel;by_cases hlt:k < l.length
  ·have hltI:(k:Int) < (l.length:Int):=by omega
   obtain ⟨o,rfl,hbr,hc0,hc1⟩:=two_at (HR.out.nw HN.out) hlt;have hbw:b < w.heap.size:=by obtain ⟨_,_,h,_⟩:=two_at HR.out hlt;exact h
   have HX:=hid fun W (hN:Nw w W)=>(show W.cell? ⟨b,o+k*2,none⟩=some (.slice l[k].al l[k].labs.length l[k].cl)∧W.cell? ⟨b,o+k*2+1,none⟩=some (.slice l[k].as_ l[k].smps.length l[k].cs) from by
    obtain ⟨o',e,h1,h2,h3⟩:=two_at (HR.out.nw hN) hlt;cases e;exact ⟨h2,h3⟩)
   have HOx:=hid (HOK.out l[k] (List.getElem_mem hlt));have HVx:=hid (HVK.out k hlt);generalize l[k]=x at *;have hxl:=HOx.out.2.1;have hxs:=HOx.out.2.2;have HNL:=hid (RNormL_any wr x.bl x.al x.labs.length x.cl x.labs (HOx.out.1.1.nw HN.out) (by omega));go_wp2_with fail;clear hc0 hc1;refine HNL.out.mono ?_;rintro e w2 ⟨hN2,hcase⟩;clear HNL;rcases hcase with ⟨hE,rfl⟩ | ⟨hE,hD,rfl⟩ | ⟨hE,l1,g1,A1,c1,hp1,hs1,rfl,hO1,hg1⟩
   ·obtain ⟨E,hEE⟩:∃ E,oneAll x.labs=E:=⟨_,rfl⟩;rw [hEE] at hE ⊢;have HE:=hid hEE;have HE0:=hid hE;have hE1:((E:Int) != 0)=true:=by rw [bne_iff_ne];omega
    clear hEE hE;go_wp2;go_ret2;exact ⟨HN.out.trans hN2,E,[],.inl ⟨k,valS x,([],[]),m,HVx.out,HT.out,.inl ⟨by rw [show (valS x).1=x.labs from rfl,HE.out];exact HE0.out,HE.out.symm⟩,HE0.out⟩,.inl ⟨HE0.out,rfl⟩⟩
   ·have HE:=hid hE;have HD:=hid hD;clear hE hD;go_wp2;go_ret2;exact ⟨HN.out.trans hN2,18,[],.inl ⟨k,valS x,([],[]),m,HVx.out,HT.out,.inr (.inl ⟨HE.out,HD.out,rfl⟩),by decide⟩,.inl ⟨by decide,rfl⟩⟩
   ·have HE:=hid hE;have HP1:=hid hp1;have HS1:=hid hs1;have hN2':=HN.out.trans hN2;obtain ⟨d0,d1⟩:=HX.out w2 hN2';obtain ⟨bl,hO1,hbl⟩:=ow_there (b:=b) hO1 hg1;have HO1:=hid hO1;clear hE hp1 hs1 hO1 hg1;by_cases h0:x.smps.length=0
    ·have h0b:((x.smps.length:Int) == 0)=true:=by rw [beq_iff_eq];omega
     have H0:=hid (show x.smps=[] from List.eq_nil_of_length_eq_zero h0);clear h0;go_wp2;go_ret2;exact ⟨hN2',21,[],.inl ⟨k,valS x,(l1,[]),m,HVx.out,HT.out,.inr (.inr ⟨HE.out,HP1.out,HS1.out,.inl ⟨H0.out,rfl⟩⟩),by decide⟩,.inl ⟨by decide,rfl⟩⟩
    ·have h0b:((x.smps.length:Int) == 0)=false:=by rw [beq_eq_false_iff_ne];omega
     have H0:=hid (show x.smps≠[] from fun h=>h0 (by rw [h];rfl));have HSO:=hid (RSort_any w2 x.bs x.as_ x.smps.length x.cs x.smps (HOx.out.1.2.nw hN2') (by omega));clear h0;go_wp2_with fail;refine HSO.out.mono ?_;rintro e w3 ⟨g2,A2,c2',rfl,l2,hp2,hs2,hO2,hg2,hN3⟩;clear HSO d0 d1;have hl2:l2.length=x.smps.length:=hp2.length_eq;obtain ⟨bs,hO2,hbs⟩:=ow_there (b:=b) hO2 hg2;have HO2:=hid hO2;have HP2:=hid hp2;have HS2:=hid hs2;have HTM:=hid (times_any w3 bs A2 x.smps.length c2' l2 hl2.symm (by omega) hO2.rd);obtain ⟨E,hE⟩:∃ E,tmE l2=E:=⟨_,rfl⟩;rw [hE] at HTM;have HEE:=hid hE;have HSP:=hid (show SerSp (valS x) E (l1,l2) from .inr (.inr ⟨HE.out,HP1.out,HS1.out,.inr ⟨H0.out,hp2,hs2.imp (fun h=>by omega),hE.symm⟩⟩));have HN3:=hid hN3;clear hO2 hp2 hs2 hE hg2 hN3;go_wp2_with fail;refine HTM.out.mono ?_;rintro e w4 ⟨rfl,hD4⟩;have HN4:=hid (HN3.out.trans hD4.nw);have HD4:=hid hD4.nw;clear hD4 HTM;by_cases h1:E=0
     ·have h1b:((E:Int) != 0)=false:=by rw [bne_eq_false_iff_eq];omega
      rw [h1] at HSP HEE;clear h1;have hl1:l1.length=x.labs.length:=HP1.out.length_eq;have HVt:=hid (show V.take (k+1)=V.take k++[valS x] from by
       obtain ⟨h1,h2⟩:=List.getElem?_eq_some_iff.1 HVx.out;rw [List.take_succ_eq_append_getElem h1,h2])
      have hN4':=hN2'.trans HN4.out;have hsz:(w4.alloc (.cells #[.slice A1 x.labs.length c1,.slice A2 x.smps.length c2'] 51)).heap.size=w4.heap.size+1:=by simp
      have hNx:Nw w4 (w4.alloc (.cells #[.slice A1 x.labs.length c1,.slice A2 x.smps.length c2'] 51)):=(Nw.refl w4).alloc' _;have hbx0:(w4.alloc (.cells #[.slice A1 x.labs.length c1,.slice A2 x.smps.length c2'] 51)).cell? ⟨w4.heap.size,0,none⟩=some (.slice A1 x.labs.length c1):=by simp
      have hbx1:(w4.alloc (.cells #[.slice A1 x.labs.length c1,.slice A2 x.smps.length c2'] 51)).cell? ⟨w4.heap.size,1,none⟩=some (.slice A2 x.smps.length c2'):=by simp
      have hsml:=fun u (hu:u∈l1)=>HOx.out.1.1.small u (HP1.out.mem_iff.1 hu)
      have hswf:=fun u (hu:u∈l2)=>HOx.out.1.2.wf u (HP2.out.mem_iff.1 hu)
      have hNw4:Nw w3 w4:=HD4.out;have hOk4:SerOk w4 ⟨l1,l2,bl,A1,c1,bs,A2,c2'⟩:=by
       have h1:=HO1.out.nw HN4.out;have h2:=HO2.out.nw hNw4;rw [← hl1] at h1;rw [← hl2] at h2;exact ⟨⟨h1.rd,rfl,h1.nil_cap,h1.cap.1,h1.cap.2,hsml⟩,⟨h2.rd,rfl,hswf,h2.nil_cap,h2.cap.1,h2.cap.2⟩⟩
      have s2:=hN2.size;have s3:=HN3.out.size;have s4:=hNw4.size;have s5:=hN2'.size;have HYF:Hid (fR ⟨l1,l2,bl,A1,c1,bs,A2,c2'⟩=Value.slice A1 x.labs.length c1∧hR ⟨l1,l2,bl,A1,c1,bs,A2,c2'⟩=Value.slice A2 x.smps.length c2'):=hid ⟨by rw [← hl1],by rw [← hl2]⟩;obtain ⟨y,hy⟩:∃ y:Ser,y=⟨l1,l2,bl,A1,c1,bs,A2,c2'⟩:=⟨_,rfl⟩;have hyl:y.labs=l1∧y.smps=l2∧y.bl=bl∧y.bs=bs∧y.al=A1∧y.cl=c1:=by rw [hy];exact ⟨rfl,rfl,rfl,rfl,rfl,rfl⟩
      rw [← hy] at hOk4 HYF;have HYL:=hid hyl;have HSPy:Hid (SerSp (valS x) 0 (valS y)):=hid (by rw [hy];exact HSP.out);obtain ⟨n1,hn1⟩:∃ n,n=x.labs.length:=⟨_,rfl⟩;obtain ⟨n2,hn2⟩:∃ n,n=x.smps.length:=⟨_,rfl⟩;rw [← hn1,← hn2] at hsz hNx hbx0 hbx1 HYF;rw [← hn1] at hl1;obtain ⟨bx,hbx⟩:∃ o,o=Obj.cells #[.slice A1 n1 c1,.slice A2 n2 c2'] 51:=⟨_,rfl⟩;have hst:∃ bk',Ow (w4.alloc (.cells #[.slice A1 n1 c1,.slice A2 n2 c2'] 51)) bk' 51 2 Ak k ck (cR out)∧w.heap.size≤bk'∧(∀ s∈out,Out (w4.alloc (.cells #[.slice A1 n1 c1,.slice A2 n2 c2'] 51)) bk' s)∧Out (w4.alloc (.cells #[.slice A1 n1 c1,.slice A2 n2 c2'] 51)) bk' y∧(bk' < w4.heap.size∨w4.heap.size+1≤bk'):=by
       have hNr:Nw wr (w4.alloc (.cells #[.slice A1 n1 c1,.slice A2 n2 c2'] 51)):=(hN2.trans HN4.out).trans hNx;have hyx:SerOk (w4.alloc (.cells #[.slice A1 n1 c1,.slice A2 n2 c2'] 51)) y:=hOk4.nw hNx;have hyn:y.labs.length≤1000000:=by rw [hyl.1];omega
       by_cases hA:Ak=none
       ·rcases HO.out with ⟨h1,h2,h3,h4⟩ | ⟨h1,_⟩
        ·have ho:out=[]:=List.eq_nil_of_length_eq_zero (by have:=HL.out;omega);subst h1 h2 h3;refine ⟨w4.heap.size+1,(by rw [ho];exact Ow.nil _ _ _ _),by omega,(fun s hs=>absurd (ho ▸ hs) List.not_mem_nil),⟨hyx,⟨?_,?_⟩,⟨?_,?_⟩,hyn⟩,.inr (Nat.le_refl _)⟩;all_goals (first | rw [hyl.2.2.1] | rw [hyl.2.2.2.1])
         all_goals omega
        ·rw [hA] at h1;cases h1
       ·have hlt3:bk < wr.heap.size:=by rcases HBK.out with h | h;exact (hA h).elim;exact h
        refine ⟨bk,HO.out.nw hNr,hbk,fun s hs=>(HQ.out s hs).nw hNr,⟨hyx,⟨?_,?_⟩,⟨?_,?_⟩,hyn⟩,.inl (by omega)⟩;all_goals (first | rw [hyl.2.2.1] | rw [hyl.2.2.2.1])
        all_goals omega
      obtain ⟨bk',hO',hbk',hQ',hY',hfar⟩:=hst;have HO':=hid hO';have HQ':=hid hQ';have HY':=hid hY';have HBx:=hid (And.intro hbx0 hbx1);have HNx:=hid (hN4'.trans hNx);have HSZ:=hid hsz;have HL1:=hid hl1;clear hbx hO' hQ' hY' hbx0 hbx1 hOk4 hsml hswf hNw4 HO HQ HBK HOx hl1 hl2 hyl hy hsz hNx hN4' hN2' hN2 HO1 HO2 HN3 HN4 HD4 s3;rw [← hn1,← hn2];clear hn1 hn2;go_wp2_with (at_builtin;refine wpList_app2G E_ser rfl (.tmp 55) (.tmp 57) rfl rfl HO'.out (by rw [HSZ.out];rfl) rfl rfl (by omega) (by omega) ?_;intro b3 A3 c3 w5 r1 r2 r3;have R1:=hid r1;have R2:=hid r2;have R3:=hid r3;clear r1 r2 r3)
      have hN5:Nw w w5:=Kp.nw HNx.out R3.out hbk' hbk';have hb3:w.heap.size≤b3:=by
       rcases R2.out with h | h
       ·omega
       ·have:=HNx.out.size;omega
      have hO5:Ow w5 b3 51 2 A3 (k+1) c3 (cR (gapG out k y)):=by
       have h:=R1.out;rw [gap_end out k y HL.out];unfold cR c2 at h ⊢;rw [List.flatMap_append];rw [← HYF.out.1,← HYF.out.2] at h;exact h
      have HQ5:=hid fun s (hs:s∈out)=>(HQ'.out s hs).app R3.out R2.out
      have HY:=hid (HY'.out.app R3.out R2.out);have hBne:w4.heap.size≠b3∧w4.heap.size≠bk':=by
       have h2:=HSZ.out;rcases R2.out with h | h
       ·omega
       ·omega
      have HBX:=hid fun W (hK:Kp b3 b3 w5 W)=>(show W.cell? ⟨w4.heap.size,0,none⟩=some (.slice A1 n1 c1)∧W.cell? ⟨w4.heap.size,1,none⟩=some (.slice A2 n2 c2') from by
       have e1:=R3.out.block w4.heap.size (by rw [HSZ.out];omega) hBne.2 hBne.2;have e2:=hK.block w4.heap.size (by have:=R3.out.size;have:=HSZ.out;omega) hBne.1 hBne.1;exact ⟨(World.cell?_of_block (e2.trans e1)).trans HBx.out.1,(World.cell?_of_block (e2.trans e1)).trans HBx.out.2⟩)
      have HO5:=hid hO5;have HN5:=hid hN5;have HSP:=HSPy;obtain ⟨rfl,hb3w,_,_⟩:=hO5.at_ (j:=0) (by omega);have HB3:=hid hb3w;have HD0:Hid (∀ t∈out.drop k,cmpLs t.labs l1=1):=hid (by rw [List.drop_eq_nil_of_le (by have:=HL.out;omega)];intro t ht;cases ht);clear hO5 hN5 R1 R2 R3 HQ' HY' HO' HBx hb3w hBne hfar
      rename World=>wo
      go_loopw [9] (fun v wr=>∃ (j:Nat) (z:Ser),j≤k∧v=.int .i64 j∧Hid (Ow wr b3 51 2 (some ⟨b3,0,none⟩) (k+1) c3 (cR (gapG out j z)))∧Hid (∀ t∈out.drop j,cmpLs t.labs l1=1)∧Hid (Kp b3 b3 wo wr)) (fun v _=>(intOf v).toNat)
      case atStart=>exact ⟨k,y,Nat.le_refl _,rfl,HO5,HD0,hid (Kp.refl _ _ _)⟩
      case round =>
       clear HO5 HD0;obtain ⟨j,z,hj,rfl,HO,HD,HK⟩:=hrel;have hgl:=gapG_length out j z (by have:=HL.out;omega);rw [HL.out] at hgl;by_cases h0:j=0
       ·have g0:¬ (0:Int) < (j:Int):=by omega
        have g1:decide ((0:Int) < (j:Int))=false:=decide_eq_false g0;have g3:decide (0 < j)=false:=by rw [decide_eq_false_iff_not];omega
        have H00:=hid h0;clear h0;have HGr:=hid (Gr.refl wr);have HKz:=hid (HK.out.nw' HGr.out.nw);obtain ⟨x0,x1⟩:=HBX.out wr HKz.out;obtain ⟨_,hb4,y0,y1,v2,v3⟩:=two_ow (k:=j) (HO.out.nw HGr.out.nw) (by omega);obtain ⟨u0,v0⟩:∃ u,wr.cell? ⟨b3,j*2,none⟩=some u:=⟨_,y0⟩;obtain ⟨u1,v1⟩:∃ u,wr.cell? ⟨b3,j*2+1,none⟩=some u:=⟨_,y1⟩;have i1:(j:Int) < (k:Int)+1:=by omega
        clear y0 y1;have HKe:=hid ((HKz.out.setCell' (p:=⟨b3,j*2,none⟩) (.inl rfl) (.slice A1 n1 c1)).setCell' (p:=⟨b3,j*2+1,none⟩) (.inl rfl) (.slice A2 n2 c2'));go_wp2;go_roundw
        case rel =>
         refine ⟨k+1,gapG out j y,m++[valS y],b3,some ⟨b3,0,none⟩,c3,by omega,by go_num,rfl,hid ?_,hid ?_,hid ?_,hid (gap_sorted HS.out ?_ (fun t ht=>by rw [HYL.out.1,HD.out t ht];decide)),hid ?_,hb3,hid (.inr (Nat.lt_of_lt_of_le HB3.out HKe.out.size)),hid (fun s hs=>?_),hid (Kp.nw HN5.out HKe.out hb3 hb3)⟩
         ·rw [gapG_length out j y (by have:=HL.out;omega),HL.out]
         ·rw [HVt.out];exact HT.out.snoc HSP.out
         ·refine ((gap_perm out j y).map valS).trans ?_;rw [List.map_cons];exact (List.Perm.cons _ HP.out).trans (List.perm_append_singleton _ _).symm
         ·rw [H00.out];intro t ht;cases ht
         ·have h:=two_setG (k:=j) (HO.out.nw HGr.out.nw) y;rw [gapG_fill out j z y (by have:=HL.out;omega),show Value.slice y.al y.labs.length y.cl=Value.slice A1 n1 c1 from HYF.out.1,show Value.slice y.as_ y.smps.length y.cs=Value.slice A2 n2 c2' from HYF.out.2] at h;exact h
         ·rcases List.mem_cons.1 ((gap_perm out j y).mem_iff.1 hs) with rfl | hs
          ·exact HY.out.kp HKe.out
          ·exact (HQ5.out s hs).kp HKe.out
        case measure=>simp [intOf];omega
       ·obtain ⟨i,hi⟩:∃ i,j=i+1:=⟨j - 1,by omega⟩;have g0:(0:Int) < (j:Int):=by omega
        have g1:decide ((0:Int) < (j:Int))=true:=decide_eq_true g0;have g3:decide (0 < j)=true:=by rw [decide_eq_true_iff];omega
        have hio:i < out.length:=by have:=HL.out;omega
        obtain ⟨_,hb4,t0,t1,_,_⟩:=two_ow (k:=i) HO.out (by omega);have e0:(gapG out j z)[i]'(by omega)=out[i]:=Option.some.inj (by rw [← List.getElem?_eq_getElem,hi,gapG_prev out i z hio]);rw [e0] at t0 t1;have HE:Hid ((gapG out j z)[i]? = some out[i]):=hid (by rw [hi];exact gapG_prev out i z hio);have HSH:=hid (gapG_shift out i z hio);have HDR:=hid (show ∀ t∈out.drop i,t=out[i]∨t∈out.drop j from fun t ht=>by rw [List.drop_eq_getElem_cons hio,List.mem_cons,← hi] at ht;exact ht);have HTK:=hid (show ∀ t∈out.take j,t=out[i]∨¬ cmpLs out[i].labs t.labs = -1 from fun t ht=>by
         rw [hi,List.take_succ_eq_append_getElem hio,List.mem_append,List.mem_singleton] at ht;rcases ht with ht | ht
         ·right
          have h:=HS.out;rw [← List.take_append_drop i out,List.pairwise_append] at h;exact h.2.2 t ht out[i] (by rw [List.drop_eq_getElem_cons hio];exact List.mem_cons_self)
         ·exact .inl ht)
        have HQi:=hid (HQ5.out out[i] (List.getElem_mem hio));generalize out[i]=s at *;have Hi:i+1≤j∧j≤i+1:=by omega
        have HI:=hid hi;clear hi e0;have j1:(j:Int) - 1=(i:Int):=by omega
        have j2:(i:Int) < (k:Int)+1:=by omega
        have j3:(j:Int) < (k:Int)+1:=by omega
        have hsO:=HQi.out.kp HK.out;have hyO:=HY.out.kp HK.out;have hyr:=hyO.ok.1.rd;rw [HYL.out.1,HYL.out.2.2.1,HYL.out.2.2.2.2.1] at hyr;have hyn:=hyO.sm;rw [HYL.out.1,HL1.out] at hyn;have HB:=hid fun W (hN:Nw wr W)=>RCompareL_any W s.bl bl s.al A1 s.labs.length s.cl n1 c1 s.labs l1 rfl HL1.out.symm hsO.sm hyn (hsO.ok.1.rd.nw hN) (hyr.nw hN)
        obtain ⟨v,hv⟩:∃ v,cmpLs s.labs l1=v:=⟨_,rfl⟩;have hvin:=cmp3_Ls.inn s.labs l1;rw [hv] at HB hvin;have HVv:=hid hv;clear hv t1 hsO hyO hyr;by_cases hv1:v=1
        ·have g2:(0:Int) < v:=by omega
         have g4:decide ((0:Int) < v)=true:=decide_eq_true g2;have HV1:=hid hv1;clear hv1 hvin;go_wp2_with fail;refine (HB.out _ (Nw.refl _)).mono ?_;rintro e wz ⟨rfl,hD⟩;have HGr:=hid (Gr.of_dr hD);clear hD t0;obtain ⟨_,hb4,y0,y1,v2,v3⟩:=two_ow (k:=j) (HO.out.nw HGr.out.nw) (by omega);obtain ⟨u0,v0⟩:∃ u,wz.cell? ⟨b3,j*2,none⟩=some u:=⟨_,y0⟩;obtain ⟨u1,v1⟩:∃ u,wz.cell? ⟨b3,j*2+1,none⟩=some u:=⟨_,y1⟩;clear y0 y1;obtain ⟨_,_,t0,t1,_,_⟩:=two_ow (k:=i) (HO.out.nw HGr.out.nw) (by omega);have e0:(gapG out j z)[i]'(by omega)=s:=Option.some.inj (by rw [← List.getElem?_eq_getElem,HE.out]);rw [e0] at t0 t1;clear e0;have HKz:=hid (HK.out.nw' HGr.out.nw);go_wp2;go_roundw
         case rel =>
          refine ⟨i,s,by omega,by go_num,hid ?_,hid (fun t ht=>?_),hid ((HKz.out.setCell' (p:=⟨b3,j*2,none⟩) (.inl rfl) _).setCell' (p:=⟨b3,j*2+1,none⟩) (.inl rfl) _)⟩
          ·have h:=two_setG (k:=j) (HO.out.nw HGr.out.nw) s;rw [HI.out,HSH.out,← HI.out] at h;exact h
          ·rcases HDR.out t ht with rfl | ht
           ·rw [HVv.out,HV1.out]
           ·exact HD.out t ht
         case measure=>simp [intOf];omega
        ·have g2:¬ (0:Int) < v:=by omega
         have g4:decide ((0:Int) < v)=false:=decide_eq_false g2;have HV1:=hid hv1;clear hv1 hvin;go_wp2_with fail;refine (HB.out _ (Nw.refl _)).mono ?_;rintro e wz ⟨rfl,hD⟩;have HGr:=hid (Gr.of_dr hD);clear hD t0;have HKz:=hid (HK.out.nw' HGr.out.nw);obtain ⟨x0,x1⟩:=HBX.out wz HKz.out;obtain ⟨_,hb4,y0,y1,v2,v3⟩:=two_ow (k:=j) (HO.out.nw HGr.out.nw) (by omega);obtain ⟨u0,v0⟩:∃ u,wz.cell? ⟨b3,j*2,none⟩=some u:=⟨_,y0⟩;obtain ⟨u1,v1⟩:∃ u,wz.cell? ⟨b3,j*2+1,none⟩=some u:=⟨_,y1⟩;have i1:(j:Int) < (k:Int)+1:=by omega
         clear y0 y1;have HKe:=hid ((HKz.out.setCell' (p:=⟨b3,j*2,none⟩) (.inl rfl) (.slice A1 n1 c1)).setCell' (p:=⟨b3,j*2+1,none⟩) (.inl rfl) (.slice A2 n2 c2'));go_wp2;go_roundw
         case rel =>
          refine ⟨k+1,gapG out j y,m++[valS y],b3,some ⟨b3,0,none⟩,c3,by omega,by go_num,rfl,hid ?_,hid ?_,hid ?_,hid (gap_sorted HS.out ?_ (fun t ht=>by rw [HYL.out.1,HD.out t ht];decide)),hid ?_,hb3,hid (.inr (Nat.lt_of_lt_of_le HB3.out HKe.out.size)),hid (fun s hs=>?_),hid (Kp.nw HN5.out HKe.out hb3 hb3)⟩
          ·rw [gapG_length out j y (by have:=HL.out;omega),HL.out]
          ·rw [HVt.out];exact HT.out.snoc HSP.out
          ·refine ((gap_perm out j y).map valS).trans ?_;rw [List.map_cons];exact (List.Perm.cons _ HP.out).trans (List.perm_append_singleton _ _).symm
          ·have hls:¬ cmpLs l1 s.labs = -1:=by rw [← cmpLs_pos,HVv.out];exact HV1.out
           intro t ht;rw [HYL.out.1];rcases HTK.out t ht with rfl | h
           ·exact hls
           ·exact cmpLs_ntr h hls
          ·have h:=two_setG (k:=j) (HO.out.nw HGr.out.nw) y;rw [gapG_fill out j z y (by have:=HL.out;omega),show Value.slice y.al y.labs.length y.cl=Value.slice A1 n1 c1 from HYF.out.1,show Value.slice y.as_ y.smps.length y.cs=Value.slice A2 n2 c2' from HYF.out.2] at h;exact h
          ·rcases List.mem_cons.1 ((gap_perm out j y).mem_iff.1 hs) with rfl | hs
           ·exact HY.out.kp HKe.out
           ·exact (HQ5.out s hs).kp HKe.out
         case measure=>simp [intOf];omega
     ·have h1b:((E:Int) != 0)=true:=by rw [bne_iff_ne];omega
      have H1:=hid h1;clear h1;go_wp2;go_ret2;exact ⟨hN2'.trans HN4.out,E,[],.inl ⟨k,valS x,(l1,l2),m,HVx.out,HT.out,HSP.out,H1.out⟩,.inl ⟨H1.out,rfl⟩⟩
  ·have hltI:¬ (k:Int) < (l.length:Int):=by omega
   obtain ⟨N,hN1⟩:∃ N,l.length=N:=⟨_,rfl⟩;have hP:out.length=l.length:=by rw [HL.out];omega
   have hT:=HT.out;have hkl:k=l.length:=by omega
   rw [List.take_of_length_le (by omega)] at hT;have HT2:=hid hT;have hfin:ListSp V (asE out) (out.map valS):=.inr ⟨m,hT,HP.out,by rw [List.pairwise_map];exact HS.out,asE_val out⟩;obtain ⟨C,hC⟩:∃ C,asE out=C:=⟨_,rfl⟩;rw [hC] at hfin;have HF:=hid hfin;have HC:=hid hC;have HPo:=hid hP;have HKL:=hid hkl;clear hfin hC hT HT hP hkl hN1 hlt;go_wp2
   rename World=>wo
   go_loopw [11] (fun v wr=>∃ j:Nat,1≤j∧j≤k+1∧v=.int .i64 j∧Hid (C=asE (out.drop (j - 1)))∧Hid (Nw wo wr)) (fun v _=>k+1 - (intOf v).toNat)
   case atStart=>exact ⟨1,Nat.le_refl _,by omega,rfl,hid (by rw [← HC.out];rfl),hid (Nw.refl _)⟩
   case round =>
    obtain ⟨j,hj1,hj2,rfl,HX,HN2⟩:=hrel;by_cases hjk:j < k
    ·have hjI:(j:Int) < (k:Int):=by omega
     obtain ⟨i,hi⟩:∃ i,j=i+1:=⟨j - 1,by omega⟩;have hio:i < out.length:=by have:=HPo.out;have:=HKL.out;omega
     have hjo:j < out.length:=by have:=HPo.out;have:=HKL.out;omega
     have hX:=HX.out;rw [asE_step (by omega) hjo] at hX;have hei:out[j - 1]'(by omega)=out[i]:=by congr 1;omega
     rw [hei] at hX;have hsrt:=List.pairwise_iff_getElem.1 HS.out i j hio hjo (by omega);obtain ⟨_,hb4,t0,_,_,_⟩:=two_ow (k:=i) (HO.out.nw HN2.out) hio;obtain ⟨rfl,_,t2,_,_,_⟩:=two_ow (k:=j) (HO.out.nw HN2.out) hjo;have HQi:=hid (HQ.out out[i] (List.getElem_mem hio));have HQj:=hid (HQ.out out[j] (List.getElem_mem hjo));generalize out[i]=s at *;generalize out[j]=t at *;have hi1:(j:Int) - 1=(i:Int):=by omega
     have hi2:(i:Int) < (k:Int):=by omega
     have HB:=hid fun W (hN:Nw wr W)=>RCompareL_any W s.bl t.bl s.al t.al s.labs.length s.cl t.labs.length t.cl s.labs t.labs rfl rfl HQi.out.sm HQj.out.sm ((HQi.out.ok.1.rd.nw HN2.out).nw hN) ((HQj.out.ok.1.rd.nw HN2.out).nw hN)
     obtain ⟨v,hv⟩:∃ v,cmpLs s.labs t.labs=v:=⟨_,rfl⟩;have hvin:=cmp3_Ls.inn s.labs t.labs;have hv1:¬ v=1:=by rw [← hv,cmpLs_pos];exact hsrt
     rw [hv] at HB hvin hX;rw [if_neg hv1] at hX;have HXX:=hid hX;have q0:∀ p':Gp,(grow (wr.drewN p'.n) p'.os).cell? ⟨bk,i*2,none⟩=some (.slice s.al s.labs.length s.cl):=cell_gr hb4 t0;have q1:∀ p':Gp,(grow (wr.drewN p'.n) p'.os).cell? ⟨bk,j*2,none⟩=some (.slice t.al t.labs.length t.cl):=cell_gr hb4 t2;have HI:=hid hi;have Hi:i+1≤j∧j≤i+1:=by omega
     clear hv hX t0 t2 hsrt hei hi;by_cases hv0:v=0
     ·have g1:(v == 0)=true:=by rw [beq_iff_eq];exact hv0
      have HV0:=hid hv0;clear hv0 hvin hv1;go_wp2_with fail;refine wp_region_gr (by kernel_rfl) (by kernel_rfl) ?_
      repeat (go_big_quiet_step (first | (go_at_call 38;refine Calls.gr ((HB.out _ (Gr.nw ⟨_,rfl⟩)).mono fun _ _ h=>⟨h.1,Gr.of_dr h.2⟩))))
      refine wpQuiet_nil ?_;rintro _ ⟨p',rfl⟩;have HGr:=hid ((Gr.refl wr).trans (⟨p',rfl⟩:Gr wr _));generalize grow (wr.drewN p'.n) p'.os=wz at *;have hC:C=19:=by have h:=HXX.out;rw [if_pos HV0.out] at h;exact h
      go_wp2;go_ret2;exact ⟨HN.out.trans (HN2.out.trans HGr.out.nw),C,_,HF.out,.inl ⟨by rw [hC];decide,by rw [hC];rfl⟩⟩
     ·have g1:(v == 0)=false:=by rw [beq_eq_false_iff_ne];exact hv0
      have HV0:=hid hv0;clear hv0 hvin hv1;go_wp2_with fail;refine wp_region_gr (by kernel_rfl) (by kernel_rfl) ?_
      repeat (go_big_quiet_step (first | (go_at_call 38;refine Calls.gr ((HB.out _ (Gr.nw ⟨_,rfl⟩)).mono fun _ _ h=>⟨h.1,Gr.of_dr h.2⟩))))
      refine wpQuiet_nil ?_;rintro _ ⟨p',rfl⟩;have HGr:=hid ((Gr.refl wr).trans (⟨p',rfl⟩:Gr wr _));generalize grow (wr.drewN p'.n) p'.os=wz at *;go_wp2;go_roundw
      case rel=>exact ⟨j+1,by omega,by omega,by go_num,hid (by have h:=HXX.out;rw [if_neg HV0.out] at h;rw [Nat.add_sub_cancel];exact h),hid (HN2.out.trans HGr.out.nw)⟩
      case measure=>simp [intOf];omega
    ·have hjI:¬ (j:Int) < (k:Int):=by omega
     have hC0:C=0:=by rw [HX.out,asE_end (by have:=HPo.out;have:=HKL.out;omega)]
     have HC0:=hid hC0;have HF2:Hid (ListSp V 0 (out.map valS)):=hid (by rw [← hC0];exact HF.out);clear hC0;go_wp2;go_ret2;exact ⟨HN.out.trans HN2.out,0,_,HF2.out,.inr ⟨rfl,bk,Ak,ck,out,by rw [← HKL.out];rfl,rfl,HPo.out,by rw [← HKL.out];exact HO.out.nw HN2.out,fun s hs=>⟨(HQ.out s hs).ok.nw HN2.out,(HQ.out s hs).sm⟩⟩⟩
end
section
open Go Go.RowKit Go.Sort Go.Shelf
theorem oneAll_zero:∀ {l:List Lab},oneAll l=0↔∀ x∈l,oneE x=0
 | []=>by simp [oneAll]
 | x::l=>by
  show (if oneE x≠0 then oneE x else oneAll l)=0↔_
  by_cases h:oneE x=0
  ·rw [if_neg (fun n=>n h),oneAll_zero];simp [h]
  ·rw [if_pos h];simp [h]
theorem ltb_irrefl (a:ByteArray):¬ LtB a a:=fun h=>by rw [LtB,bl_irrefl] at h;cases h
theorem ltb_nodup {l:List Lab} (h:l.Pairwise fun x y=>LtB x.1 y.1):(l.map (·.1)).Nodup:=by
 rw [List.Nodup,List.pairwise_map];exact h.imp fun {a b} hl (e:a.1=b.1)=>ltb_irrefl b.1 (by rw [e] at hl;exact hl)
theorem chkF_srt:∀ (l:List Lab) (p:Lab),(∀ x∈l,oneE x=0)→(p::l).Pairwise (fun x y=>¬ LtB y.1 x.1)→(chkF (some p.1) l=0∧(p::l).Pairwise fun x y=>LtB x.1 y.1)∨(chkF (some p.1) l=18∧¬ ((p::l).map (·.1)).Nodup)
 | [],p,_,_=>.inl ⟨rfl,List.pairwise_singleton _ _⟩
 | x::l,p,h1,h2=>by
  have h3:=List.pairwise_cons.1 h2;have e:chkF (some p.1) (x::l)=if oneE x≠0 then oneE x else if cmpS p.1 x.1=0 then 18 else if cmpS p.1 x.1=1 then 16 else chkF (some x.1) l:=rfl
  rw [e,if_neg (fun n=>n (h1 x List.mem_cons_self))];rcases cmpS_in p.1 x.1 with h | h | h
  ·rw [h,if_neg (by decide),if_neg (by decide)];have hlt:LtB p.1 x.1:=cmpS_neg.1 h;rcases chkF_srt l x (fun y hy=>h1 y (List.mem_cons_of_mem _ hy)) h3.2 with h4 | h4
   ·refine .inl ⟨h4.1,List.pairwise_cons.2 ⟨fun y hy=>?_,h4.2⟩⟩;rcases List.mem_cons.1 hy with rfl | hy
    ·exact hlt
    ·exact bl_trans _ _ _ hlt ((List.pairwise_cons.1 h4.2).1 y hy)
   ·refine .inr ⟨h4.1,fun hn=>h4.2 ?_⟩;rw [List.map_cons,List.nodup_cons] at hn;exact hn.2
  ·rw [h,if_pos rfl];refine .inr ⟨rfl,fun hn=>?_⟩;rw [List.map_cons,List.nodup_cons] at hn;exact hn.1 (List.mem_map.2 ⟨x,List.mem_cons_self,(cmpS_zero.1 h).symm⟩)
  ·exact (h3.1 x List.mem_cons_self (cmpS_pos.1 h)).elim
theorem chkL_srt {l:List Lab} (h1:oneAll l=0) (h2:l.Pairwise fun x y=>¬ LtB y.1 x.1):(chkL l=0∧l.Pairwise fun x y=>LtB x.1 y.1)∨(chkL l=18∧¬ (l.map (·.1)).Nodup):=by
 cases l with
 | nil=>exact .inl ⟨rfl,List.Pairwise.nil⟩
 | cons x l =>
  have h:=oneAll_zero.1 h1;have e:chkL (x::l)=if oneE x≠0 then oneE x else chkF (some x.1) l:=rfl
  rw [e,if_neg (fun n=>n (h x List.mem_cons_self))];exact chkF_srt l x (fun y hy=>h y (List.mem_cons_of_mem _ hy)) h2
theorem tmF_srt:∀ (l:List Smpl) (p:Smpl),(p::l).Pairwise (fun x y=>¬ y.1 < x.1)→(tmF p.1 l=0∧(p::l).Pairwise fun x y=>x.1 < y.1)∨(tmF p.1 l=20∧¬ ((p::l).map (·.1)).Nodup)
 | [],p,_=>.inl ⟨rfl,List.pairwise_singleton _ _⟩
 | x::l,p,h2=>by
  have h3:=List.pairwise_cons.1 h2;have h5:=h3.1 x List.mem_cons_self;have e:tmF p.1 (x::l)=if x.1=p.1 then 20 else if x.1 < p.1 then 16 else tmF x.1 l:=rfl
  rw [e];by_cases h:x.1=p.1
  ·rw [if_pos h];refine .inr ⟨rfl,fun hn=>?_⟩;rw [List.map_cons,List.nodup_cons] at hn;exact hn.1 (List.mem_map.2 ⟨x,List.mem_cons_self,h⟩)
  ·rw [if_neg h,if_neg h5];rcases tmF_srt l x h3.2 with h4 | h4
   ·refine .inl ⟨h4.1,List.pairwise_cons.2 ⟨fun y hy=>?_,h4.2⟩⟩;rcases List.mem_cons.1 hy with rfl | hy
    ·omega
    ·have:=(List.pairwise_cons.1 h4.2).1 y hy;omega
   ·refine .inr ⟨h4.1,fun hn=>h4.2 ?_⟩;rw [List.map_cons,List.nodup_cons] at hn;exact hn.2
theorem tmE_srt {l:List Smpl} (h:l.Pairwise fun x y=>¬ y.1 < x.1):(tmE l=0∧l.Pairwise fun x y=>x.1 < y.1)∨(tmE l=20∧¬ (l.map (·.1)).Nodup):=by
 cases l with
 | nil=>exact .inl ⟨rfl,List.Pairwise.nil⟩
 | cons x l=>exact tmF_srt l x h
theorem asV_srt:∀ (l:List Val) (p:Val),(p::l).Pairwise (fun x y=>¬ cmpLs y.1 x.1 = -1)→(asV p l=0∧(p::l).Pairwise fun x y=>cmpLs x.1 y.1 = -1)∨(asV p l=19∧¬ ((p::l).map (·.1)).Nodup)
 | [],p,_=>.inl ⟨rfl,List.pairwise_singleton _ _⟩
 | x::l,p,h2=>by
  have h3:=List.pairwise_cons.1 h2;have h5:=h3.1 x List.mem_cons_self;have e:asV p (x::l)=if cmpLs p.1 x.1=0 then 19 else if cmpLs p.1 x.1=1 then 16 else asV x l:=rfl
  rw [e];by_cases h:cmpLs p.1 x.1=0
  ·rw [if_pos h];refine .inr ⟨rfl,fun hn=>?_⟩;rw [List.map_cons,List.nodup_cons] at hn;exact hn.1 (List.mem_map.2 ⟨x,List.mem_cons_self,((cmp3_Ls.zero _ _).1 h).symm⟩)
  ·have h6:¬ cmpLs p.1 x.1=1:=fun hh=>h5 (cmpLs_pos.1 hh)
   rw [if_neg h,if_neg h6];have h7:cmpLs p.1 x.1 = -1:=by rcases cmp3_Ls.inn p.1 x.1 with h8 | h8 | h8;exact h8;exact (h h8).elim;exact (h6 h8).elim
   rcases asV_srt l x h3.2 with h4 | h4
   ·refine .inl ⟨h4.1,List.pairwise_cons.2 ⟨fun y hy=>?_,h4.2⟩⟩;rcases List.mem_cons.1 hy with rfl | hy
    ·exact h7
    ·exact cmp3_Ls.trans _ _ _ h7 ((List.pairwise_cons.1 h4.2).1 y hy)
   ·refine .inr ⟨h4.1,fun hn=>h4.2 ?_⟩;rw [List.map_cons,List.nodup_cons] at hn;exact hn.2
theorem asVE_srt {l:List Val} (h:l.Pairwise fun x y=>¬ cmpLs y.1 x.1 = -1):(asVE l=0∧l.Pairwise fun x y=>cmpLs x.1 y.1 = -1)∨(asVE l=19∧¬ (l.map (·.1)).Nodup):=by
 cases l with
 | nil=>exact .inl ⟨rfl,List.Pairwise.nil⟩
 | cons x l=>exact asV_srt l x h
def SerU (x:Val) (E:Nat) (y:Val):Prop :=
 (oneAll x.1≠0∧E=oneAll x.1)∨(oneAll x.1=0∧((¬ (x.1.map (·.1)).Nodup∧E=18)∨(y.1.Perm x.1∧y.1.Pairwise (fun a b=>LtB a.1 b.1) ∧
  ((x.2=[]∧E=21)∨(x.2≠[]∧((¬ (x.2.map (·.1)).Nodup∧E=20)∨(E=0∧y.2.Perm x.2∧y.2.Pairwise (fun a b:Smpl=>a.1 < b.1))))))))
theorem sm_nodup {l:List Smpl} (h:l.Pairwise fun x y=>x.1 < y.1):(l.map (·.1)).Nodup:=by
 rw [List.Nodup,List.pairwise_map];exact h.imp fun {a b} hl e=>by rw [e] at hl;exact Int.lt_irrefl _ hl
theorem SerU.smp {x:Val} {E:Nat} {y:Val} (h2:y.2.Perm x.2) (h3:y.2.Pairwise fun a b:Smpl=>¬ b.1 < a.1) (h4:E=tmE y.2):(¬ (x.2.map (·.1)).Nodup∧E=20)∨(E=0∧y.2.Perm x.2∧y.2.Pairwise (fun a b:Smpl=>a.1 < b.1)):=by
 rcases tmE_srt h3 with h | h
 ·exact .inr ⟨h4.trans h.1,h2,h.2⟩
 ·exact .inl ⟨fun hn=>h.2 ((h2.map _).nodup_iff.2 hn),h4.trans h.1⟩
theorem SerSp.u {x:Val} {E:Nat} {y:Val} (h:SerSp x E y):SerU x E y:=by
 rcases h with h | ⟨h1,h2,h3⟩ | ⟨h1,h2,h3,h4⟩
 ·exact .inl h
 ·exact .inr ⟨h1,.inl ⟨h2,h3⟩⟩
 ·refine .inr ⟨h1,.inr ⟨h2,h3,?_⟩⟩;rcases h4 with h4 | ⟨h4,h5,h6,h7⟩
  ·exact .inl h4
  ·exact .inr ⟨h4,SerU.smp h5 h6 h7⟩
theorem SerTo.u {x:Val} {E:Nat} {y:Val} (h:SerTo x E y):SerU x E y:=by
 rcases h with h | ⟨h1,⟨h2,h3⟩,h4⟩
 ·exact .inl h
 ·refine .inr ⟨h1,?_⟩;have h1':oneAll y.1=0:=oneAll_zero.2 fun z hz=>oneAll_zero.1 h1 z (h2.mem_iff.1 hz)
  have hc:=chkL_srt h1' h3;rcases h4 with ⟨h5,h6⟩ | ⟨h5,h6,h7,h8⟩
  ·rcases hc with hc | hc
   ·exact (h5 hc.1).elim
   ·exact .inl ⟨fun hn=>hc.2 ((h2.map _).nodup_iff.2 hn),h6.trans hc.1⟩
  ·rcases hc with hc | hc
   ·refine .inr ⟨h2,hc.2,?_⟩;unfold valE at h8;rw [if_neg (fun n=>n h5)] at h8;by_cases h9:y.2.length=0
    ·rw [if_pos h9] at h8;exact .inl ⟨List.eq_nil_of_length_eq_zero (by rw [← h6.length_eq];exact h9),h8⟩
    ·rw [if_neg h9] at h8;refine .inr ⟨fun h=>h9 (by rw [h6.length_eq,h];rfl),SerU.smp h6 h7 h8⟩
   ·rw [hc.1] at h5;cases h5
theorem SerU.zero {x y:Val} (h:SerU x 0 y):y.1.Perm x.1∧y.1.Pairwise (fun a b=>LtB a.1 b.1)∧x.2≠[]∧y.2.Perm x.2∧y.2.Pairwise (fun a b:Smpl=>a.1 < b.1):=by
 rcases h with ⟨h1,h2⟩ | ⟨_,h | ⟨h1,h2,h3⟩⟩
 ·exact (h1 h2.symm).elim
 ·cases h.2
 ·rcases h3 with h3 | ⟨h3,h4 | h4⟩
  ·cases h3.2
  ·cases h4.2
  ·exact ⟨h1,h2,h3,h4.2.1,h4.2.2⟩
theorem SerU.err {x:Val} {E E':Nat} {y y':Val} (h:SerU x E y) (h':SerU x E' y'):E=E':=by
 have nd:∀ {y:Val},y.1.Perm x.1→y.1.Pairwise (fun a b=>LtB a.1 b.1)→(x.1.map (·.1)).Nodup:=fun h1 h2=>(h1.map _).nodup_iff.1 (ltb_nodup h2)
 have sd:∀ {y:Val},y.2.Perm x.2→y.2.Pairwise (fun a b:Smpl=>a.1 < b.1)→(x.2.map (·.1)).Nodup:=fun h1 h2=>(h1.map _).nodup_iff.1 (sm_nodup h2)
 rcases h with ⟨h1,h2⟩ | ⟨h1,h2⟩
 ·rcases h' with ⟨_,h4⟩ | ⟨h3,_⟩
  ·rw [h2,h4]
  ·exact (h1 h3).elim
 ·rcases h' with ⟨h3,_⟩ | ⟨_,h4⟩
  ·exact (h3 h1).elim
  ·rcases h2 with ⟨h2,e⟩ | ⟨h2,h5,h6⟩
   ·rcases h4 with ⟨_,e'⟩ | ⟨h4,h7,_⟩
    ·rw [e,e']
    ·exact (h2 (nd h4 h7)).elim
   ·rcases h4 with ⟨h4,_⟩ | ⟨_,_,h8⟩
    ·exact (h4 (nd h2 h5)).elim
    ·rcases h6 with ⟨h6,e⟩ | ⟨h6,h9⟩
     ·rcases h8 with ⟨_,e'⟩ | ⟨h8,_⟩
      ·rw [e,e']
      ·exact (h8 h6).elim
     ·rcases h8 with ⟨h8,_⟩ | ⟨_,h10⟩
      ·exact (h6 h8).elim
      ·rcases h9 with ⟨h9,e⟩ | ⟨e,h11,h12⟩
       ·rcases h10 with ⟨_,e'⟩ | ⟨_,h13,h14⟩
        ·rw [e,e']
        ·exact (h9 (sd h13 h14)).elim
       ·rcases h10 with ⟨h13,_⟩ | ⟨e',_⟩
        ·exact (h13 (sd h11 h12)).elim
        ·rw [e,e']
theorem SerU.val {x y y':Val} (h:SerU x 0 y) (h':SerU x 0 y'):y=y':=by
 obtain ⟨a1,a2,_,a3,a4⟩:=h.zero;obtain ⟨b1,b2,_,b3,b4⟩:=h'.zero;refine Prod.ext ?_ ?_
 ·exact List.Perm.eq_of_pairwise (fun a b _ _ k1 k2=>(ltb_irrefl _ (bl_trans _ _ _ k1 k2)).elim) a2 b2 (a1.trans b1.symm)
 ·exact List.Perm.eq_of_pairwise (le:=fun a b:Smpl=>a.1 < b.1) (fun a b _ _ k1 k2=>(Int.lt_irrefl _ (Int.lt_trans k1 k2)).elim) a4 b4 (a3.trans b3.symm)
def AllU (l m:List Val):Prop:=m.length=l.length∧∀ (i:Nat) (x y:Val),l[i]? = some x→m[i]? = some y→SerU x 0 y
theorem AllU.one {l m m':List Val} (h:AllU l m) (h':AllU l m'):m=m':=by
 apply List.ext_getElem?
 intro i;by_cases hi:i < l.length
 ·have e1:=List.getElem?_eq_getElem (l:=m) (i:=i) (by rw [h.1];exact hi);have e2:=List.getElem?_eq_getElem (l:=m') (i:=i) (by rw [h'.1];exact hi);have e3:=List.getElem?_eq_getElem (l:=l) (i:=i) hi;rw [e1,e2,(h.2 i _ _ e3 e1).val (h'.2 i _ _ e3 e2)]
 ·rw [List.getElem?_eq_none (by rw [h.1];omega),List.getElem?_eq_none (by rw [h'.1];omega)]
def ListU (l:List Val) (E:Nat) (r:List Val):Prop :=
 (∃ (k:Nat) (x y:Val) (m:List Val),l[k]? = some x∧AllU (l.take k) m∧SerU x E y∧E≠0) ∨
 (∃ m,AllU l m∧((¬ (m.map (·.1)).Nodup∧E=19)∨(E=0∧r.Perm m∧r.Pairwise (fun a b=>cmpLs a.1 b.1 = -1))))
theorem ListU.last {m r:List Val} {E:Nat} (h1:r.Perm m) (h2:r.Pairwise fun a b=>¬ cmpLs b.1 a.1 = -1) (h3:E=asVE r):(¬ (m.map (·.1)).Nodup∧E=19)∨(E=0∧r.Perm m∧r.Pairwise (fun a b=>cmpLs a.1 b.1 = -1)):=by
 rcases asVE_srt h2 with h | h
 ·exact .inr ⟨h3.trans h.1,h1,h.2⟩
 ·exact .inl ⟨fun hn=>h.2 ((h1.map _).nodup_iff.2 hn),h3.trans h.1⟩
theorem ListTo.u {l:List Val} {E:Nat} {r:List Val} (h:ListTo l E r):ListU l E r:=by
 rcases h with ⟨k,x,y,m,h1,h2,h3,h4⟩ | ⟨m,h1,h2,h3,h4⟩
 ·exact .inl ⟨k,x,y,m,h1,⟨h2.1,fun i a b ha hb=>(h2.2 i a b ha hb).u⟩,h3.u,h4⟩
 ·exact .inr ⟨m,⟨h1.1,fun i a b ha hb=>(h1.2 i a b ha hb).u⟩,ListU.last h2 h3 h4⟩
theorem ListSp.u {l:List Val} {E:Nat} {r:List Val} (h:ListSp l E r):ListU l E r:=by
 rcases h with ⟨k,x,y,m,h1,h2,h3,h4⟩ | ⟨m,h1,h2,h3,h4⟩
 ·exact .inl ⟨k,x,y,m,h1,⟨h2.1,fun i a b ha hb=>(h2.2 i a b ha hb).u⟩,h3.u,h4⟩
 ·exact .inr ⟨m,⟨h1.1,fun i a b ha hb=>(h1.2 i a b ha hb).u⟩,ListU.last h2 h3 h4⟩
theorem lv_nodup {l:List Val} (h:l.Pairwise fun x y=>cmpLs x.1 y.1 = -1):(l.map (·.1)).Nodup:=by
 rw [List.Nodup,List.pairwise_map];exact h.imp fun {a b} hl e=>by rw [e,(cmp3_Ls.zero _ _).2 rfl] at hl;cases hl
theorem all_no_err {l m:List Val} {k:Nat} {x y:Val} {E:Nat} (hk:l[k]? = some x) (h:SerU x E y) (hE:E≠0) {n:Nat} (hn:k < n) (ha:AllU (l.take n) m):False:=by
 have hl:k < l.length:=(List.getElem?_eq_some_iff.1 hk).1;have h1:(l.take n)[k]? = some x:=by rw [List.getElem?_take_of_lt hn];exact hk
 have h2:=List.getElem?_eq_getElem (l:=m) (i:=k) (by rw [ha.1,List.length_take];omega);exact hE (h.err (ha.2 k _ _ h1 h2))
theorem ListU.one {l:List Val} {E E':Nat} {r r':List Val} (h:ListU l E r) (h':ListU l E' r'):E=E'∧(E=0→r=r'):=by
 rcases h with ⟨k,x,y,m,h1,h2,h3,h4⟩ | ⟨m,h1,h2⟩
 ·rcases h' with ⟨k',x',y',m',h1',h2',h3',h4'⟩ | ⟨m',h1',_⟩
  ·rcases Nat.lt_trichotomy k k' with h | rfl | h
   ·exact (all_no_err h1 h3 h4 h h2').elim
   ·rw [h1] at h1';cases h1';exact ⟨h3.err h3',fun h=>(h4 h).elim⟩
   ·exact (all_no_err h1' h3' h4' h h2).elim
  ·have hl:k < l.length:=(List.getElem?_eq_some_iff.1 h1).1;exact (all_no_err h1 h3 h4 hl (by rw [List.take_length];exact h1')).elim
 ·rcases h' with ⟨k',x',y',m',h1',h2',h3',h4'⟩ | ⟨m',h1',h2'⟩
  ·have hl:k' < l.length:=(List.getElem?_eq_some_iff.1 h1').1;exact (all_no_err h1' h3' h4' hl (by rw [List.take_length];exact h1)).elim
  ·obtain rfl:=h1.one h1';rcases h2 with ⟨h2,e⟩ | ⟨e,h3,h4⟩
   ·rcases h2' with ⟨_,e'⟩ | ⟨_,h3',h4'⟩
    ·exact ⟨e.trans e'.symm,fun h=>by rw [e] at h;cases h⟩
    ·exact (h2 ((h3'.map _).nodup_iff.1 (lv_nodup h4'))).elim
   ·rcases h2' with ⟨h2',_⟩ | ⟨e',h3',h4'⟩
    ·exact (h2' ((h3.map _).nodup_iff.1 (lv_nodup h4))).elim
    ·refine ⟨e.trans e'.symm,fun _=>?_⟩;exact List.Perm.eq_of_pairwise (fun a b _ _ k1 k2=>by have:=cmp3_Ls.swap a.1 b.1;omega) h4 h4' (h3.trans h3'.symm)
structure Blk1 (l r:List Val):Prop where
 ser:∀ y∈r,valE y=0
 asc:asVE r=0
 labs:∀ y∈r,∃ x∈l,y.1.Perm x.1
 smps:∀ y∈r,∃ x∈l,y.2.Perm x.2
 sum:(r.map fun y=>y.2.length).sum=(l.map fun y=>y.2.length).sum
theorem SerU.valE {x y:Val} (h:SerU x 0 y) (h1:oneAll x.1=0):valE y=0:=by
 obtain ⟨a1,a2,a3,a4,a5⟩:=h.zero;unfold Go.Proofs.YtobfpajapgakdaaGreatDoor.valE;have h2:oneAll y.1=0:=oneAll_zero.2 fun z hz=>oneAll_zero.1 h1 z (a1.mem_iff.1 hz)
 have h3:chkL y.1=0:=by
  rcases chkL_srt h2 (a2.imp fun {a b} k1 k2=>ltb_irrefl _ (bl_trans _ _ _ k1 k2)) with h | h
  ·exact h.1
  ·exact (h.2 (ltb_nodup a2)).elim
 rw [if_neg (fun n=>n h3),if_neg (fun n=>a3 (List.eq_nil_of_length_eq_zero (by rw [← a4.length_eq];exact n)))];rcases tmE_srt (a5.imp fun {a b} k=>by omega) with h | h
 ·exact h.1
 ·exact (h.2 (sm_nodup a5)).elim
theorem SerU.one0 {x y:Val} (h:SerU x 0 y):oneAll x.1=0:=by
 rcases h with ⟨h1,h2⟩ | ⟨h1,_⟩
 ·exact (h1 h2.symm).elim
 ·exact h1
theorem sum_eq_of {l m:List Val} (h:AllU l m):(m.map fun y=>y.2.length).sum=(l.map fun y=>y.2.length).sum:=by
 congr 1
 apply List.ext_getElem?
 intro i;rw [List.getElem?_map,List.getElem?_map];by_cases hi:i < l.length
 ·have e1:=List.getElem?_eq_getElem (l:=m) (i:=i) (by rw [h.1];exact hi);have e3:=List.getElem?_eq_getElem (l:=l) (i:=i) hi;rw [e1,e3];have:=(h.2 i _ _ e3 e1).zero.2.2.2.1.length_eq;simp only [Option.map_some,this]
 ·rw [List.getElem?_eq_none (by rw [h.1];omega),List.getElem?_eq_none (by omega)]
theorem ListU.blk {l r:List Val} (h:ListU l 0 r):Blk1 l r:=by
 rcases h with ⟨k,x,y,m,h1,h2,h3,h4⟩ | ⟨m,h1,h2⟩
 ·exact (h4 rfl).elim
 ·rcases h2 with ⟨_,e⟩ | ⟨_,h3,h4⟩
  ·cases e
  ·have hm:∀ y∈r,∃ x∈l,SerU x 0 y:=fun y hy=>by
    obtain ⟨i,hi,e⟩:=List.getElem_of_mem (h3.mem_iff.1 hy);have hil:i < l.length:=by rw [← h1.1];exact hi
    exact ⟨l[i],List.getElem_mem hil,h1.2 i _ _ (List.getElem?_eq_getElem hil) (by rw [List.getElem?_eq_getElem hi,e])⟩
   refine ⟨fun y hy=>?_,?_,fun y hy=>?_,fun y hy=>?_,?_⟩
   ·obtain ⟨x,_,k⟩:=hm y hy;exact k.valE k.one0
   ·rcases asVE_srt (h4.imp fun {a b} k1 k2=>by have:=cmp3_Ls.swap a.1 b.1;omega) with h | h
    ·exact h.1
    ·exact (h.2 (lv_nodup h4)).elim
   ·obtain ⟨x,hx,k⟩:=hm y hy;exact ⟨x,hx,k.zero.1⟩
   ·obtain ⟨x,hx,k⟩:=hm y hy;exact ⟨x,hx,k.zero.2.2.2.1⟩
   ·rw [← sum_eq_of h1];exact (h3.map _).sum_nat
theorem chkB_zero:∀ (l:List Ser) (p:Ser),(∀ s∈l,serE s=0)→chkB (some p) l=asF p l
 | [],_,_=>rfl
 | x::l,p,h=>by
  rw [chkB_nxt (h x List.mem_cons_self),chkB_zero l x (fun s hs=>h s (List.mem_cons_of_mem _ hs))];rfl
theorem blkE_zero {l:List Ser} (h:∀ s∈l,serE s=0):blkE l=asE l:=by
 cases l with
 | nil=>rfl
 | cons x l =>
  show chkB none (x::l)=asF x l
  rw [chkB_fst (h x List.mem_cons_self),chkB_zero l x (fun s hs=>h s (List.mem_cons_of_mem _ hs))]
end
section
open Go Go.RowKit Go.Lib Go.Sort Go.Shelf
attribute [local go_sem] Oper.semAt_some
theorem lab_sum {l m:List Val} (h:AllU l m):(m.map fun y=>y.1.length).sum=(l.map fun y=>y.1.length).sum:=by
 congr 1
 apply List.ext_getElem?
 intro i;rw [List.getElem?_map,List.getElem?_map];by_cases hi:i < l.length
 ·have e1:=List.getElem?_eq_getElem (l:=m) (i:=i) (by rw [h.1];exact hi);have e3:=List.getElem?_eq_getElem (l:=l) (i:=i) hi;rw [e1,e3];have:=(h.2 i _ _ e3 e1).zero.1.length_eq;simp only [Option.map_some,this]
 ·rw [List.getElem?_eq_none (by rw [h.1];omega),List.getElem?_eq_none (by omega)]
theorem norm_blk {l l':List Ser} (hf:Fits l) (h:ListU (l.map valS) 0 (l'.map valS)) (hn:l'.length=l.length):Fits l'∧blkE l'=0:=by
 have hb:=h.blk;have hlab:(labsOf l').length=(labsOf l).length:=by
  rcases h with ⟨k,x,y,m,h1,h2,h3,h4⟩ | ⟨m,h1,h2⟩
  ·exact (h4 rfl).elim
  ·rcases h2 with ⟨_,e⟩ | ⟨_,h3,_⟩
   ·cases e
   ·have e1:=lab_sum h1;have e2:=(h3.map fun y:Val=>y.1.length).sum_nat;rw [← labsV_val,← labsV_val,labsV_len,labsV_len];exact e2.trans e1
 refine ⟨⟨by rw [hn];exact hf.1,?_,⟨by rw [hlab];exact hf.2.2.1,fun x hx=>?_⟩⟩,?_⟩
 ·have e:=hb.sum;rw [List.map_map,List.map_map] at e;have h1:smpSum l'=smpSum l:=e;rw [h1];exact hf.2.1
 ·obtain ⟨s,hs,hx⟩:=List.mem_flatMap.1 hx;obtain ⟨v,hv,k⟩:=hb.labs (valS s) (List.mem_map.2 ⟨s,hs,rfl⟩);obtain ⟨t,ht,rfl⟩:=List.mem_map.1 hv;exact hf.2.2.2 x (List.mem_flatMap.2 ⟨t,ht,k.mem_iff.1 hx⟩)
 ·rw [blkE_zero (fun s hs=>by rw [serE_val];exact hb.ser _ (List.mem_map.2 ⟨s,hs,rfl⟩)),asE_val];exact hb.asc
def RawR (w:World) (V:List BVal) (e:Ending) (w':World):Prop :=
 Nw w w'∧∃ (E:Nat) (r:List BVal),ListU V E r∧((E≠0∧e=.returned (.tuple #[.slice none 0 0,.int .i64 (E:Int)]))∨(E=0∧NewBE w (fileB r) e w'))
theorem fits_smp {l:List Ser} (hf:Fits l):∀ s∈l,s.labs.length≤100000∧s.smps.length≤100000:=fun s hs=>by
 have h1:=labs_le hs;have h2:=hf.2.2.1;have h3:=le_sum hs;have h4:=hf.2.1;exact ⟨by omega,by omega⟩
set_option maxRecDepth 100000 in
set_option maxHeartbeats 800000 in
theorem Raw_any (w:World) (b:Nat) (A:Option Addr) (n c:Nat) (l:List Ser) (hI:InSer w b A n c l) (hf:Fits l) (hG:Gl w) :
  Calls Tryz.prog 18 #[.slice A n c] w (RawR w (l.map valB)):=by
 have hfl:=hf.1;have hfs:=hf.2.1;have hln:=hI.len;subst hln;have HM:=hid (NormM_any w b A l.length c l hI (by omega) (by omega) (fits_smp hf));have HF:=hid hf;have HG:=hid hG;clear hI hf hG;go_enter Tryz.func18,Tryz.ntmps18
 go_wp2_with fail;refine HM.out.mono ?_;rintro e w2 ⟨hN2,E,r,hL,⟨hE,rfl⟩ | ⟨hE,g,l',rfl,hr,hln,hg,hO,hok⟩⟩
 ·have hE1:((E:Int) != 0)=true:=by rw [bne_iff_ne];omega
  have HL:=hid hL.u;clear hL HM;go_wp2;go_ret2;exact ⟨hN2,E,r,HL.out,.inl ⟨hE,rfl⟩⟩
 ·subst hE;have hU:=hL.u;rw [← hr] at hU;obtain ⟨hf2,h02⟩:=norm_blk HF.out hU hln;have HE:=hid (EncodeE_ok w2 g (some ⟨g,0,none⟩) l.length l.length l' ⟨hO.rd,hln.symm,(fun e=>by cases e),Nat.le_refl _,by omega,hok⟩ hf2 h02 (HG.out.nw hN2));have HU:=hid hU;clear hL hr hln hO hok hU hf2 h02 HM;go_wp2_with fail;refine HE.out.mono ?_;rintro e w3 ⟨b3,A3,c3,rfl,hO3,hb3,hN3⟩;go_wp2;go_ret2;exact ⟨hN2.trans hN3,0,_,HU.out,.inr ⟨rfl,b3,A3,c3,rfl,hO3,Nat.le_trans hN2.size hb3,hN2.trans hN3⟩⟩
end
section
open Go Go.RowKit Go.Lib Go.Sort Go.Shelf
attribute [local go_sem] Oper.semAt_some
theorem vint0:vint 0=[0]:=vint_small (by omega)
theorem symT_nil:symT []=[]:=by
 unfold symT;rw [show strsOf ([]:List Lab)=[] from rfl,tbl_nil];rfl
theorem sec0_nil:sec0 []=[0]:=by
 show symEnc (symT [])=_
 rw [symT_nil];show vint 0++[]=_
 rw [vint0];rfl
theorem sec1_nil:sec1 []=[0]:=by
 show vint 0++[]=_
 rw [vint0];rfl
theorem sec3_nil:sec3 []=[0]:=by
 show vint 0++[]=_
 rw [vint0];rfl
theorem datS_nil:datS []=[]:=rfl
theorem frame_len0 (id:Nat) (l:List Nat):(frame id l).length=1+(vint l.length).length+l.length+4:=by
 unfold frame lenB;rw [addCrc_length,List.length_cons,List.length_append];omega
theorem vint_one {x:Nat} (h:x < 128):(vint x).length=1:=by rw [vint_small h];rfl
theorem fileB_nil:(fileB []).length=50:=by
 unfold fileB;rw [sec0_nil,sec1_nil,datS_nil,sec3_nil,fileOf_eq];have f1:∀ id,(frame id [0]).length=7:=fun id=>by rw [frame_len0];simp [vint_one]
 have f0:∀ id,(frame id []).length=6:=fun id=>by rw [frame_len0];simp [vint_one]
 have ft:∀ id,(frame id (toc 5 12 19 25)).length=10+0:=fun id=>by
  have:(toc 5 12 19 25).length=4:=by unfold toc;simp [vint_one]
  rw [frame_len0,this,vint_one (by omega)]
 simp only [List.length_append,addCrc_length,f1,f0,ft];rfl
theorem inSer_nil (w:World):InSer w 0 none 0 0 []:=⟨Rd.nil _ _ _,rfl,fun _=>rfl,Nat.le_refl _,by omega,by simp⟩
theorem fits_nil:Fits []:=⟨by simp,by simp [smpSum],by simp [labsOf],by simp [labsOf]⟩
theorem inSer_one (w:World):InSer (w.alloc (.cells #[nilS,nilS] 51)) w.heap.size (some ⟨w.heap.size,0,none⟩) 1 1 [⟨[],[],0,none,0,0,none,0⟩]:=by
 refine ⟨(Ow.lit w 51 2 1 #[nilS,nilS] rfl (by omega)).rd,rfl,(fun e=>by cases e),Nat.le_refl _,by omega,fun s hs=>?_⟩;obtain rfl:=List.mem_singleton.1 hs;exact ⟨⟨Rd.nil _ _ _,rfl,fun _=>rfl,Nat.le_refl _,Nat.zero_le _,by simp⟩,⟨Rd.nil _ _ _,rfl,(fun z hz=>by cases hz),fun _=>rfl,Nat.le_refl _,Nat.zero_le _⟩⟩
theorem one_err {E:Nat} {r:List BVal} (h:ListU [([],[])] E r):E=21:=by
 have hu:ListU [([],[])] 21 []:=.inl ⟨0,([],[]),([],[]),[],rfl,⟨rfl,fun i x y hx=>by simp at hx⟩,.inr ⟨rfl,.inr ⟨List.Perm.refl _,List.Pairwise.nil,.inl ⟨rfl,rfl⟩⟩⟩,by omega⟩;exact (h.one hu).1
set_option maxRecDepth 100000 in
set_option maxHeartbeats 600000 in
theorem aliveE_any (w:World) (hG:Gl w):Calls Tryz.prog 10 #[] w fun e w'=>e=.returned (.bool true)∧Nw w w':=by
 have HE:Hid (∀ W,Nw w W→Calls Tryz.prog 11 #[.slice none 0 0] W fun e w'=>∃ A' c',e=.returned (.tuple #[.slice A' 50 c',.int .i64 0])∧Nw W w'):=hid fun W hN =>
  (EncodeE_ok W 0 none 0 0 [] (inSer_nil W) fits_nil rfl (hG.nw hN)).mono fun e w' ⟨b',A',c',he,_,_,hN'⟩=>⟨A',c',by rw [he,show ([]:List Ser).map valB=[] from rfl,fileB_nil],hN'⟩
 have HS:Hid (∀ W,Nw w W→Calls Tryz.prog 14 #[.slice none 0 0] W fun e w'=>∃ b0 A0 c0 A1 n1 c1 A2 c2 A3 n3 c3,e=.returned (.tuple #[.agg #[.slice A0 1 c0,.slice A1 n1 c1,.slice A2 0 c2,.slice A3 n3 c3],.int .i64 0])∧Hid (Rd w' b0 A0 (cN .u8 [0]))∧Nw W w'):=hid fun W hN =>
  (SectionsE_ok W 0 none 0 0 [] (inSer_nil W) fits_nil rfl (hG.nw hN)).mono fun e w' ⟨v,he,⟨b0,A0,c0,b1,A1,c1,b2,A2,c2,b3,A3,c3,hv,h0,_⟩,hN'⟩=>by
   rw [show ([]:List Ser).map valB=[] from rfl] at hv h0;rw [sec0_nil] at h0;have l0:(sec0 []).length=1:=by rw [sec0_nil];rfl
   have l2:(datS []).length=0:=by rw [datS_nil];rfl
   rw [l0,l2] at hv;obtain ⟨n1,hn1⟩:∃ n,(sec1 []).length=n:=⟨_,rfl⟩;obtain ⟨n3,hn3⟩:∃ n,(sec3 []).length=n:=⟨_,rfl⟩;rw [hn1,hn3] at hv;subst hv;exact ⟨b0,A0,c0,A1,n1,c1,A2,c2,A3,n3,c3,he,hid h0,hN'⟩
 have HR:Hid (∀ W,Nw w W→Calls Tryz.prog 18 #[.slice (some ⟨W.heap.size,0,none⟩) 1 1] (W.alloc (.cells #[nilS,nilS] 51)) fun e w'=>e=.returned (.tuple #[.slice none 0 0,.int .i64 21])∧Nw W w'):=hid fun W hN=>by
  have hN2:Nw W (W.alloc (.cells #[nilS,nilS] 51)):=(Nw.refl W).alloc' _;refine (Raw_any _ W.heap.size _ 1 1 _ (inSer_one W) ⟨by simp,by simp [smpSum],by simp [labsOf],by simp [labsOf]⟩ (hG.nw (hN.trans hN2))).mono ?_;rintro e w' ⟨hN',E,r,hL,h⟩;have hE:=one_err hL;subst hE;rcases h with ⟨_,rfl⟩ | ⟨h,_⟩
  ·exact ⟨rfl,hN2.trans hN'⟩
  ·cases h
 clear hG;go_enter Tryz.func10,Tryz.ntmps10
 go_wp2_with fail;refine (HE.out w (Nw.refl w)).mono ?_;rintro e w1 ⟨A1,c1,rfl,hN1⟩;have HN1:=hid hN1;clear hN1;go_wp2_with fail;refine (HS.out w1 HN1.out).mono ?_;rintro e w2 ⟨b0,A0,c0,A2,n2,c2,A3,c3,A4,n4,c4,rfl,H0,hN2⟩;have hN3:Nw w2 (w2.alloc (.cells #[.slice A0 1 c0,.slice A2 n2 c2,.slice A3 0 c3,.slice A4 n4 c4] 34)):=(Nw.refl w2).alloc' _;have hb3:=heap_alloc_new w2 (.cells #[.slice A0 1 c0,.slice A2 n2 c2,.slice A3 0 c3,.slice A4 n4 c4] 34);have HN2:=hid (HN1.out.trans hN2);have HN3:=hid hN3;have HB3:=hid hb3;clear hN2 hN3 hb3;have hs3:(w2.alloc (.cells #[.slice A0 1 c0,.slice A2 n2 c2,.slice A3 0 c3,.slice A4 n4 c4] 34)).heap.size=w2.heap.size+1:=by simp
 have hR3:=HR.out _ (HN2.out.trans HN3.out);rw [hs3] at hR3;have HR3:=hid hR3;clear hs3 hR3;go_wp2_with fail;generalize w2.alloc (.cells #[.slice A0 1 c0,.slice A2 n2 c2,.slice A3 0 c3,.slice A4 n4 c4] 34)=w3 at *;refine HR3.out.mono ?_;rintro e w4 ⟨rfl,hN4⟩;have hbk:=(hN4.block _ (lt_of_block HB3.out)).trans HB3.out;have p0:w4.cell? ⟨w2.heap.size,0,none⟩=some (.slice A0 1 c0):=cell_at (k:=0) hbk;have p2:w4.cell? ⟨w2.heap.size,2,none⟩=some (.slice A3 0 c3):=cell_at (k:=2) hbk;have HN4:=hid ((HN2.out.trans HN3.out).trans hN4);have HRd:=hid ((H0.out.nw HN3.out).nw hN4);have HBK:=hid hbk;clear hN4 hbk;go_wp2_with fail;have hn5:Nw w4 (w4.alloc (.cells #[.int .u8 0] 5)):=(Nw.refl w4).alloc' _;have hlit:Rd (w4.alloc (.cells #[.int .u8 0] 5)) w4.heap.size (some ⟨w4.heap.size,0,none⟩) (cN .u8 [0]):=(Ow.lit w4 5 1 1 #[.int .u8 0] rfl (by omega)).rd;have HBE:=hid (bytesEqual_same (w4.alloc (.cells #[.int .u8 0] 5)) b0 w4.heap.size A0 (some ⟨w4.heap.size,0,none⟩) 1 c0 1 1 [0] rfl rfl (HRd.out.nw hn5) hlit (by simp));have p2':(w4.alloc (.cells #[.int .u8 0] 5)).cell? ⟨w2.heap.size,2,none⟩=some (.slice A3 0 c3):=cell_old (a:=⟨w2.heap.size,2,none⟩) hn5 (lt_of_block HBK.out) p2;have HN5:=hid (HN4.out.trans hn5);clear hn5 hlit;refine HBE.out.mono ?_;rintro e w5 ⟨rfl,hw5⟩;subst hw5;go_wp2_with fail;go_ret;exact ⟨rfl,HN5.out⟩
end
end Go.Proofs.YtobfpajapgakdaaGreatDoor
