/- Laws that the last text builds on. -/
import Derived.Test.YticphebaflnedaaGreatDoorD10
namespace Go.Proofs.YticphebaflnedaaGreatDoor
open Go.Lib(hid)
section
open Go Go.RowKit Go.Sort Go.Shelf
section
variable {α:Type} [Inhabited α] {f h:α→Value} {w0:World} {blk:Nat} {d0:Array α}
set_option maxHeartbeats 8000000 in
set_option maxRecDepth 1000000 in
theorem symMergeR_any (cf:α→α→Int) (hO:SWO (ltOf cf)) (hcmp:CmpLays Tryz.prog 103 #[] (enc2 f h) 2 cf blk 0 d0.size w0) (eg:∀ args w,(callFunc 103 args).run Tryz.prog w=.ok (.enter 103 args) w) (R:RowK (enc2 f h) 2 w0 blk 0 d0) (N:Nat) (hN:d0.size=N) (hM:N≤1000000000000) (cap:Nat):∀ (K a m b:Nat) (d:Array α) (w:World),b - a≤K→d.size=N→SWK (enc2 f h) 2 w0 blk 0 d w→a < m→m < b→b≤N→SortedIn (ltOf cf) a m d→SortedIn (ltOf cf) m b d →
  Calls Tryz.prog 299 #[.slice (some ⟨blk,0,none⟩) N cap,.int .i64 (a:Int),.int .i64 (m:Int),.int .i64 (b:Int),.func (.func 103) #[] #[]] w fun e w'=>e=.returned (.tuple #[])∧∃ d',(PermIn a b d d'∧SortedIn (ltOf cf) a b d')∧SWK (enc2 f h) 2 w0 blk 0 d' w':=by
 intro K;induction K with
 | zero=>intro a m b d w h1 _ _ h2 h3;exfalso;omega
 | succ K ih =>
  intro a m b d w hK hs S ham hmb hb hU hV;by_cases hA1:m≤a+1
  ·exact symMergeAR_any cf hO hcmp eg R N hN hM cap a m b d w hs S ham hmb hb hU hV hA1
  ·by_cases hB1:b≤m+1
   ·exact symMergeBR_any cf hO hcmp eg R N hN hM cap a m b d w hs S ham hmb hb hU hV hA1 hB1
   ·by_cases hbig:(a+b) / 2 < m
    ·exact symMergeCR_any cf hO hcmp eg R N hN hM cap K ih a m b d w hs S ham hmb hb hU hV hA1 hB1 ((a+b) / 2) (by omega) (by omega) hK hbig
    ·exact symMergeDR_any cf hO hcmp eg R N hN hM cap K ih a m b d w hs S ham hmb hb hU hV hA1 hB1 ((a+b) / 2) (by omega) (by omega) hK hbig
set_option maxHeartbeats 8000000 in
set_option maxRecDepth 1000000 in
theorem stableGR_any (tyE:∀ w,(isAgg 80).run Tryz.prog w=.ok true w) (szE:∀ w,(Go.sizeOf 80).run Tryz.prog w=.ok 2 w) (cf:α→α→Int) (hO:SWO (ltOf cf)) (hcmp:CmpLays Tryz.prog 103 #[] (enc2 f h) 2 cf blk 0 d0.size w0) (eg:∀ args w,(callFunc 103 args).run Tryz.prog w=.ok (.enter 103 args) w) (R:RowK (enc2 f h) 2 w0 blk 0 d0) (N:Nat) (hN:d0.size=N) (hM:N≤1000000000000) (cap:Nat) (d:Array α) (w:World) (hs:d.size=N) (S:SWK (enc2 f h) 2 w0 blk 0 d w) :
  Calls Tryz.prog 246 #[.slice (some ⟨blk,0,none⟩) N cap,.int .i64 (N:Int),.func (.func 103) #[] #[]] w fun e w'=>e=.returned (.tuple #[])∧∃ d',PermIn 0 N d d'∧SortedIn (ltOf cf) 0 N d'∧SWK (enc2 f h) 2 w0 blk 0 d' w':=by
 have S0:Aside (SWK (enc2 f h) 2 w0 blk 0 d w):=S;have HIns:=hid fun (a b:Nat) (dk:Array α) (wr:World) (hz:dk.size=N) (S:SWK (enc2 f h) 2 w0 blk 0 dk wr) (hab:a≤b) (hb:b≤N) =>
  (show Calls Tryz.prog 298 #[.slice (some ⟨blk,0,none⟩) N cap,.int .i64 (a:Int),.int .i64 (b:Int),.func (.func 103) #[] #[]] wr fun e w'=>e=.returned (.tuple #[])∧∃ d',(PermIn a b dk d'∧SortedIn (ltOf cf) a b d')∧SWK (enc2 f h) 2 w0 blk 0 d' w' from by
   have hcon:=AnyQ.insertionSortCmpFunc_w Tryz.insSer 2 tyE szE (enc2 f h) cf 103 #[] blk 0 cap a b d0 dk w0 wr eg hcmp R (by omega) S hO hab (by omega) (by omega);rw [hz] at hcon;change Calls Tryz.prog 298 _ _ _ at hcon
   refine hcon.mono ?_;rintro e w' ⟨rfl,h1⟩;exact ⟨rfl,_,insertionSort_holds hO dk a b hab (by omega),h1⟩)
 have HMer:=hid (symMergeR_any cf hO hcmp eg R N hN hM cap);clear S hcmp hO eg tyE szE hN;have HS:=hid hs;clear hs;go_enter Tryz.func246,Tryz.ntmps246
 go_wp2;go_loopw [7,8] (fun s7 s8 wr=>∃ (T a:Nat) (dk:Array α),s7=.int .i64 a∧s8=.int .i64 ((a:Int)+20)∧a≤N∧Hid (a=T*20)∧Aside (SWK (enc2 f h) 2 w0 blk 0 dk wr)∧Hid (PermIn 0 N d dk)∧Hid (Upto (ltOf cf) 20 T dk)) (fun s7 _ _=>N - (intOf s7).toNat)
 case atStart=>exact ⟨0,0,d,rfl,rfl,Nat.zero_le _,hid (by omega),S0,hid (permIn_refl _ _ _),hid (Upto.zero _ _)⟩
 case round =>
  clear S0;obtain ⟨T,a,dk,rfl,rfl,haN,HT,S1,HP,HU⟩:=hrel;have hz:dk.size=N:=HP.out.1.trans HS.out;by_cases hle:a+20≤N
  ·have hlez:(a:Int)+20≤(N:Int):=by omega
   have k1:IntKind.i64.wrap ((a:Int)+20+20)=(a:Int)+20+20:=by rw [IntKind.wrap_i64];omega
   have hi:=HIns.out a (a+20) dk wr hz S1.out (by omega) hle;rw [show ((a+20:Nat):Int)=(a:Int)+20 by omega] at hi;go_wp2_with (go_at_call 298;refine hi.mono ?_;rintro e w2 ⟨rfl,d2,⟨p2,s2⟩,S2⟩)
   go_roundw
   case rel=>exact ⟨T+1,a+20,d2,by go_num,by go_num,hle,hid (by have:=HT.out;omega),S2,hid (permIn_trans _ _ _ _ _ HP.out (permIn_mono _ _ _ _ _ _ (Nat.zero_le _) hle (by have:=HS.out;omega) p2)),hid (HU.out.step HT.out rfl p2 s2)⟩
   case measure=>simp [intOf];omega
  ·have hlez:¬ (a:Int)+20≤(N:Int):=by omega
   have hi:=HIns.out a N dk wr hz S1.out haN (Nat.le_refl _);clear HIns;go_wp2_with (go_at_call 298;refine hi.mono ?_;rintro e w2 ⟨rfl,d2,⟨p2,s2⟩,S2⟩)
   have HB2:Hid (Blk (ltOf cf) 20 0 N d2):=hid (HU.out.blk HT.out (by omega) p2 s2);have HP2:=hid (permIn_trans _ _ _ _ _ HP.out (permIn_mono _ _ _ _ _ _ (Nat.zero_le _) (Nat.le_refl _) (by have:=HS.out;omega) p2));have S2':Aside (SWK (enc2 f h) 2 w0 blk 0 d2 w2):=S2;clear S2 p2 s2 HP HU HT S1 hi hz hle hlez haN
   rename World=>w1
   go_loopw [6,7,8] (fun s6 _ _ wr=>∃ (bs:Nat) (dk:Array α),s6=.int .i64 bs∧20≤bs∧bs≤2*N+20∧Aside (SWK (enc2 f h) 2 w0 blk 0 dk wr)∧Hid (PermIn 0 N d dk)∧Hid (Blk (ltOf cf) bs 0 N dk)) (fun s6 _ _ _=>N - (intOf s6).toNat)
   case atStart=>exact ⟨20,d2,rfl,Nat.le_refl _,by omega,S2',HP2,HB2⟩
   case round =>
    clear S2' HP2 HB2;obtain ⟨bs,dk,rfl,hbs,hbsN,S1,HP,HB⟩:=hrel;by_cases hlt:bs < N
    ·have hltz:(bs:Int) < (N:Int):=by omega
     have k1:IntKind.i64.wrap (2*(bs:Int))=2*(bs:Int):=by rw [IntKind.wrap_i64];omega
     have k1':IntKind.i64.wrap ((bs:Int)*2)=(bs:Int)*2:=by rw [IntKind.wrap_i64];omega
     go_wp2
     rename World=>wo
     go_loopw [7,8] (fun s7 s8 wr=>∃ (T a:Nat) (dk:Array α),s7=.int .i64 a∧s8=.int .i64 ((a:Int)+2*(bs:Int))∧a≤N∧Hid (a=T*(2*bs))∧Aside (SWK (enc2 f h) 2 w0 blk 0 dk wr)∧Hid (PermIn 0 N d dk)∧Hid (Upto (ltOf cf) (2*bs) T dk)∧Hid (Blk (ltOf cf) bs (2*T) N dk)) (fun s7 _ _=>N - (intOf s7).toNat)
     case atStart=>exact ⟨0,0,dk,rfl,by simp,Nat.zero_le _,hid (by omega),S1,HP,hid (Upto.zero _ _),HB⟩
     case round =>
      clear S1 HP HB;obtain ⟨T,a,dk,rfl,rfl,haN,HT,S1,HP,HU,HB⟩:=hrel;have hz:dk.size=N:=HP.out.1.trans HS.out;have k2:IntKind.i64.wrap ((a:Int)+(bs:Int))=(a:Int)+(bs:Int):=by rw [IntKind.wrap_i64];omega
      by_cases hle:a+2*bs≤N
      ·have hlez:(a:Int)+2*(bs:Int)≤(N:Int):=by omega
       have k3:IntKind.i64.wrap ((a:Int)+2*(bs:Int)+2*(bs:Int))=(a:Int)+2*(bs:Int)+2*(bs:Int):=by rw [IntKind.wrap_i64];omega
       have h1:=HB.out.one HT.out;have h2:=HB.out.two HT.out;rw [Nat.min_eq_left (by omega)] at h1 h2;have hi:=HMer.out _ a (a+bs) (a+2*bs) dk wr (Nat.le_refl _) hz S1.out (by omega) (by omega) hle h1 h2;rw [show ((a+bs:Nat):Int)=(a:Int)+(bs:Int) by omega,show ((a+2*bs:Nat):Int)=(a:Int)+2*(bs:Int) by omega] at hi;clear h1 h2;go_wp2_with (go_at_call 299;refine hi.mono ?_;rintro e w2 ⟨rfl,d2,⟨p2,s2⟩,S2⟩)
       go_roundw
       case rel =>
        refine ⟨T+1,a+2*bs,d2,by first | go_num | (congr 1;omega),by first | go_num | (congr 1;omega),hle,hid ?_,S2,hid (permIn_trans _ _ _ _ _ HP.out (permIn_mono _ _ _ _ _ _ (Nat.zero_le _) hle (by have:=HS.out;omega) p2)),hid (HU.out.step HT.out rfl p2 s2),hid (HB.out.step HT.out p2)⟩;rw [Nat.add_mul,Nat.one_mul,← HT.out]
       case measure=>simp [intOf];omega
      ·have hlez:¬ (a:Int)+2*(bs:Int)≤(N:Int):=by omega
       by_cases hm:a+bs < N
       ·have hmz:(a:Int)+(bs:Int) < (N:Int):=by omega
        have h1:=HB.out.one HT.out;have h2:=HB.out.two HT.out;rw [Nat.min_eq_left (by omega)] at h1;rw [Nat.min_eq_right (by omega)] at h2;have hi:=HMer.out _ a (a+bs) N dk wr (Nat.le_refl _) hz S1.out (by omega) hm (Nat.le_refl _) h1 h2;rw [show ((a+bs:Nat):Int)=(a:Int)+(bs:Int) by omega] at hi;clear h1 h2;go_wp2_with (go_at_call 299;refine hi.mono ?_;rintro e w2 ⟨rfl,d2,⟨p2,s2⟩,S2⟩)
        go_roundw
        case rel=>exact ⟨2*bs,d2,by first | go_num | (congr 1;omega),by omega,by omega,S2,hid (permIn_trans _ _ _ _ _ HP.out (permIn_mono _ _ _ _ _ _ (Nat.zero_le _) (Nat.le_refl _) (by have:=HS.out;omega) p2)),hid (HU.out.blk HT.out (by omega) p2 s2)⟩
        case measure=>simp [intOf];omega
       ·have hmz:¬ (a:Int)+(bs:Int) < (N:Int):=by omega
        have h1:=HB.out.one HT.out;rw [Nat.min_eq_right (by omega)] at h1;have H1:=hid h1;clear h1;go_wp2;go_roundw
        case rel=>exact ⟨2*bs,dk,by first | go_num | (congr 1;omega),by omega,by omega,S1,HP,hid (HU.out.blk HT.out (by omega) (permIn_refl _ _ _) H1.out)⟩
        case measure=>simp [intOf];omega
    ·have hltz:¬ (bs:Int) < (N:Int):=by omega
     go_wp2;go_end0
     exact ⟨rfl,dk,HP.out,HB.out.all (by omega),S1.out⟩
end
end
section
open Go Go.RowKit Go.Sort Go.Shelf
theorem sw_ow {α:Type} [Inhabited α] {f h:α→Value} {w w':World} {g n c:Nat} {e:TypeId} {xs:List Value} {d':Array α} (hO:Ow w g e 2 (some ⟨g,0,none⟩) n c xs) (hd:d'.size=n) (S:SWK (enc2 f h) 2 w g 0 d' w'):Ow w' g e 2 (some ⟨g,0,none⟩) n c (c2 f h d'.toList)∧Kp g g w w':=by
 obtain ⟨m,os,rfl⟩:=S;exact sort_ow hO hd os
theorem stableSA_any (w:World) (g n c:Nat) (l:List Smpl) (hn:n=l.length) (hm:n≤1000000) (hO:Ow w g 126 2 (some ⟨g,0,none⟩) n c (cS l)) :
  Calls Tryz.prog 244 #[.slice (some ⟨g,0,none⟩) n c,.int .i64 (n:Int),.func (.func 167) #[] #[]] w fun e w'=>e=.returned (.tuple #[])∧∃ l',l'.Perm l∧l'.Pairwise (fun x y=>¬ y.1 < x.1)∧Ow w' g 126 2 (some ⟨g,0,none⟩) n c (cS l')∧Kp g g w w':=by
 subst hn;have hO':Ow w g 126 2 (some ⟨g,0,none⟩) l.toArray.size c (c2 (fun z:Smpl=>.int .i64 z.1) (fun z=>.int .u64 (z.2:Int)) l.toArray.toList):=by simpa [cS] using hO
 obtain ⟨cs,hh,_⟩:=hO.heap;have hR:RowK (enc2 (fun z:Smpl=>Value.int .i64 z.1) (fun z=>.int .u64 (z.2:Int))) 2 w g 0 l.toArray:=⟨fun _=>rfl,fun x v hv=>by simp [enc2] at hv;rcases hv with rfl | rfl<;>rfl,holds_ow hO',lt_of_block hh⟩;refine (stableGS_any tyS szS (fun x y=>cmpI x.1 y.1) swo_time (cmpLaysS g _ w) egS hR l.length (by simp) (by omega) c l.toArray w (by simp) (SWK.start hR.hH)).mono ?_;rintro e w' ⟨rfl,d',hp,hs,S⟩;have hd:d'.size=l.length:=by have:=hp.1;simpa using this
 have hw:=sw_ow hO hd S;refine ⟨rfl,d'.toList,?_,?_,hw.1,hw.2⟩
 ·have:=perm_of (d:=l.toArray) (d':=d') (by simpa using hp);simpa using this
 ·refine (sorted_of hs hd.symm).imp ?_;intro x y h h2;rw [lt_time.2 h2] at h;cases h
theorem StableSA_any (w:World) (g n c:Nat) (l:List Smpl) (hn:n=l.length) (hm:n≤1000000) (hO:Ow w g 126 2 (some ⟨g,0,none⟩) n c (cS l)) :
  Calls Tryz.prog 166 #[.slice (some ⟨g,0,none⟩) n c,.func (.func 167) #[] #[]] w fun e w'=>e=.returned (.tuple #[])∧∃ l',l'.Perm l∧l'.Pairwise (fun x y=>¬ y.1 < x.1)∧Ow w' g 126 2 (some ⟨g,0,none⟩) n c (cS l')∧Kp g g w w':=by
 have HI:=hid (stableSA_any w g n c l hn hm hO);clear hO hn hm;go_enter Tryz.func166,Tryz.ntmps166
 go_wp2_with (go_at_call 244;refine HI.out.mono ?_;rintro e w1 ⟨rfl,hR⟩)
 go_end0
 exact ⟨rfl,hR⟩
theorem stableRA_any (w:World) (g n c:Nat) (l:List Ser) (hn:n=l.length) (hm:n≤1000000) (hO:Ow w g 80 2 (some ⟨g,0,none⟩) n c (cR l)) (hP:∀ s∈l,PS w g s) :
  Calls Tryz.prog 246 #[.slice (some ⟨g,0,none⟩) n c,.int .i64 (n:Int),.func (.func 103) #[] #[]] w fun e w'=>e=.returned (.tuple #[])∧∃ l',l'.Perm l∧l'.Pairwise (fun x y=>¬ cmpLs y.labs x.labs = -1)∧Ow w' g 80 2 (some ⟨g,0,none⟩) n c (cR l')∧Kp g g w w':=by
 by_cases h0:l=[]
 ·exact stableR_any w g n c l hn (by subst h0;subst hn;exact Nat.zero_lt_succ _) hO hP
 ·subst hn;obtain ⟨s0,hs0⟩:∃ s,s∈l:=by
   cases l with
   | nil=>exact (h0 rfl).elim
   | cons x l=>exact ⟨x,List.mem_cons_self⟩
  haveI:Inhabited {s:Ser // PS w g s}:=⟨⟨s0,hP s0 hs0⟩⟩
  obtain ⟨L,hL⟩:∃ L:List {s:Ser // PS w g s},L.map (·.1)=l:=⟨_,pmap_val l hP⟩;have hlen:L.length=l.length:=by rw [← hL,List.length_map]
  have hO':Ow w g 80 2 (some ⟨g,0,none⟩) L.toArray.size c (c2 (fun x:{s:Ser // PS w g s}=>fR x.1) (fun x=>hR x.1) L.toArray.toList):=by
   rw [List.size_toArray,List.toList_toArray,c2_val (f:=fR) (h:=hR) (fun x:{s:Ser // PS w g s}=>x.1) L,hL,hlen];exact hO
  obtain ⟨cs,hh,_⟩:=hO.heap;have hRw:RowK (enc2 (fun x:{s:Ser // PS w g s}=>fR x.1) (fun x=>hR x.1)) 2 w g 0 L.toArray:=⟨fun _=>rfl,fun x v hv=>by simp [enc2] at hv;rcases hv with rfl | rfl<;>rfl,holds_ow hO',lt_of_block hh⟩;refine (stableGR_any tyR szR (fun x y=>cmpLs x.1.labs y.1.labs) (cmp3_Ls.swo fun x:{s:Ser // PS w g s}=>x.1.labs) (cmpLaysR w g _ _ c _ hO (by simpa using hlen)) egR hRw l.length (by simpa using hlen) (by omega) c L.toArray w (by simpa using hlen) (SWK.start hRw.hH)).mono ?_;rintro e w' ⟨rfl,d',hp,hs,S⟩;have hd:d'.size=l.length:=by have:=hp.1;simpa [hlen] using this
  have hw:=sw_ow hO hd S;refine ⟨rfl,d'.toList.map (·.1),?_,?_,?_,hw.2⟩
  ·have:=perm_of (d:=L.toArray) (d':=d') (by simpa [hlen] using hp);rw [List.toList_toArray] at this;rw [← hL];exact this.map _
  ·rw [List.pairwise_map];refine (sorted_of hs hd.symm).imp ?_;intro x y h h2;rw [(cmp3_Ls.lt (κ:=fun x:{s:Ser // PS w g s}=>x.1.labs)).2 h2] at h;cases h
  ·have:=hw.1;rw [c2_val (f:=fR) (h:=hR) (fun x:{s:Ser // PS w g s}=>x.1)] at this;exact this
theorem StableRA_any (w:World) (g n c:Nat) (l:List Ser) (hn:n=l.length) (hm:n≤1000000) (hO:Ow w g 80 2 (some ⟨g,0,none⟩) n c (cR l)) (hP:∀ s∈l,PS w g s) :
  Calls Tryz.prog 168 #[.slice (some ⟨g,0,none⟩) n c,.func (.func 103) #[] #[]] w fun e w'=>e=.returned (.tuple #[])∧∃ l',l'.Perm l∧l'.Pairwise (fun x y=>¬ cmpLs y.labs x.labs = -1)∧Ow w' g 80 2 (some ⟨g,0,none⟩) n c (cR l')∧Kp g g w w':=by
 have HI:=hid (stableRA_any w g n c l hn hm hO hP);clear hO hn hP hm;go_enter Tryz.func168,Tryz.ntmps168
 go_wp2_with (go_at_call 246;refine HI.out.mono ?_;rintro e w1 ⟨rfl,hR⟩)
 go_end0
 exact ⟨rfl,hR⟩
end
section
open Go Go.RowKit Go.Sort Go.Shelf
abbrev Val:=List Lab × List Smpl
def valE (y:Val):Nat:=if chkL y.1≠0 then chkL y.1 else if y.2.length=0 then 21 else tmE y.2
theorem serE_val (s:Ser):serE s=valE (valS s):=rfl
def asV:Val→List Val→Nat
 | _,[]=>0
 | p,x::l=>if cmpLs p.1 x.1=0 then 19 else if cmpLs p.1 x.1=1 then 16 else asV x l
def asVE:List Val→Nat
 | []=>0
 | x::l=>asV x l
theorem asF_val:∀ (p:Ser) (l:List Ser),asF p l=asV (valS p) (l.map valS)
 | _,[]=>rfl
 | p,x::l=>by
  show (if cmpLs p.labs x.labs=0 then 19 else if cmpLs p.labs x.labs=1 then 16 else asF x l)=_
  rw [asF_val x l];rfl
theorem asE_val (l:List Ser):asE l=asVE (l.map valS):=by
 cases l with
 | nil=>rfl
 | cons x l=>exact asF_val x l
def SerTo (x:Val) (E:Nat) (y:Val):Prop :=
 (oneAll x.1≠0∧E=oneAll x.1) ∨
 (oneAll x.1=0∧InOrder y.1 x.1∧((chkL y.1≠0∧E=chkL y.1) ∨
  (chkL y.1=0∧y.2.Perm x.2∧y.2.Pairwise (fun a b:Smpl=>¬ b.1 < a.1)∧E=valE y)))
def AllTo (l m:List Val):Prop:=m.length=l.length∧∀ (i:Nat) (x y:Val),l[i]? = some x→m[i]? = some y→SerTo x 0 y
theorem AllTo.nil:AllTo [] []:=⟨rfl,fun i x y h=>by simp at h⟩
theorem AllTo.snoc {l m:List Val} {x y:Val} (h:AllTo l m) (k:SerTo x 0 y):AllTo (l++[x]) (m++[y]):=by
 refine ⟨by simp [h.1],fun i a b ha hb=>?_⟩;by_cases hi:i < l.length
 ·rw [List.getElem?_append_left hi] at ha;rw [List.getElem?_append_left (by rw [h.1];exact hi)] at hb;exact h.2 i a b ha hb
 ·rw [List.getElem?_append_right (by omega)] at ha;rw [List.getElem?_append_right (by rw [h.1];omega),h.1] at hb;by_cases h0:i - l.length=0
  ·rw [h0] at ha hb;simp at ha hb;subst ha hb;exact k
  ·rw [List.getElem?_eq_none (by simp;omega)] at ha;cases ha
def ListTo (l:List Val) (E:Nat) (r:List Val):Prop :=
 (∃ (k:Nat) (x y:Val) (m:List Val),l[k]? = some x∧AllTo (l.take k) m∧SerTo x E y∧E≠0) ∨
 (∃ m,AllTo l m∧r.Perm m∧r.Pairwise (fun a b=>¬ cmpLs b.1 a.1 = -1)∧E=asVE r)
def MGot (w:World) (l:List Val) (n:Nat) (e:Ending) (w':World):Prop :=
 Nw w w'∧∃ E r,ListTo l E r∧((E≠0∧e=.returned (.tuple #[.slice none 0 0,.int .i64 (E:Nat)])) ∨
  (E=0∧∃ g l',e=.returned (.tuple #[.slice (some ⟨g,0,none⟩) n n,.int .i64 0])∧l'.map valS=r∧l'.length=n∧w.heap.size≤g∧Ow w' g 80 2 (some ⟨g,0,none⟩) n n (cR l')∧∀ s∈l',SerOk w' s))
structure Dn (w:World) (g N:Nat) (s:Ser):Prop where
 ok:SerOk w s
 bl:N≤s.bl
 bs:s.bs < N
 ne:s.bs≠g
 small:Small s
section
variable {w w':World} {g g' N lo:Nat} {s:Ser}
theorem SerOk.kp2 (h:SerOk w s) (hk:Kp g g' w w') (h1:s.bl≠g) (h2:s.bl≠g') (h3:s.bs≠g) (h4:s.bs≠g'):SerOk w' s:=⟨h.1.kp hk h1 h2,h.2.kp hk h3 h4⟩
theorem Dn.kp (h:Dn w g N s) (hk:Kp g g' w w') (hg:g < N) (hg':g' < N) (h4:s.bs≠g'):Dn w' g N s :=
 ⟨h.ok.kp2 hk (by have:=h.bl;omega) (by have:=h.bl;omega) h.ne h4,h.bl,h.bs,h.ne,h.small⟩
end
theorem c2_set1 {α:Type} {f h:α→Value}:∀ (L:List α) (k:Nat) (z:α) (hk:k < L.length),h L[k]=h z→(c2 f h L).set (k*2) (f z)=c2 f h (L.set k z):=by
 intro L;induction L with
 | nil=>intro k z hk;simp at hk
 | cons y L ih =>
  intro k z hk he;have e:∀ (M:List α) y,c2 f h (y::M)=f y::h y::c2 f h M:=fun _ _=>rfl
  cases k with
  | zero =>
   rw [e,Nat.zero_mul,List.set_cons_zero,List.set_cons_zero,e];rw [List.getElem_cons_zero] at he;rw [he]
  | succ k =>
   rw [e,show (k+1)*2=k*2+1+1 by omega,List.set_cons_succ,List.set_cons_succ,ih k z (by simpa using hk) (by simpa using he),List.set_cons_succ,e]
theorem ow_new {w w':World} {g n c:Nat} {A:Option Addr} {l0:List Lab} {xs:List Value} (hO:Ow w' g 124 2 A n c xs) (hA:(A=none∧l0=[])∨(A=some ⟨g,0,none⟩∧w.heap.size≤g)):∃ g',w.heap.size≤g'∧Ow w' g' 124 2 A n c xs:=by
 rcases hA with ⟨rfl,_⟩ | ⟨_,h⟩
 ·rcases hO with ⟨_,rfl,rfl,rfl⟩ | ⟨h,_⟩
  ·exact ⟨w.heap.size,Nat.le_refl _,Ow.nil _ _ _ _⟩
  ·cases h
 ·exact ⟨g,h,hO⟩
set_option maxRecDepth 100000 in
set_option maxHeartbeats 3200000 in
theorem NormM_any (w:World) (b:Nat) (A:Option Addr) (n c:Nat) (l:List Ser) (hI:InSer w b A n c l) (hs:smpSum l≤100000) (hn:n≤100000) (hsm:∀ s∈l,s.labs.length≤100000∧s.smps.length≤100000) :
  Calls Tryz.prog 99 #[.slice A n c] w (MGot w (l.map valS) n):=by
 have HK:=hid (mcheck_any w b A n c l hI hs (by omega));have hl:=hI.len;subst hl;have HCL:=hid fun W (hN:Nw w W)=>Clone_any W b A l.length c l (hI.nw hN) (fun s h=>⟨by have:=(hsm s h).1;omega,by have:=(hsm s h).2;omega⟩) (by omega)
 have HSM:=hid fun x (h:x∈l.map valS)=>(show x.1.length≤100000∧x.2.length≤100000 from by obtain ⟨s,h1,rfl⟩:=List.mem_map.1 h;exact hsm s h1)
 have hVl:(l.map valS).length=l.length:=List.length_map _;generalize l.map valS=V at *;clear hI hs hsm;go_enter Tryz.func99,Tryz.ntmps99
 go_wp2_with (first
  | (go_at_call 164;refine (HCL.out _ hN1).mono ?_;rintro e w2 ⟨l',rfl,hV,hO,hC,hA,hN2⟩)
  | (go_at_call 100;refine HK.out.mono ?_;rintro e w1 ⟨rfl,hN1⟩))
 obtain ⟨g,hg⟩:∃ g,w1.heap.size=g:=⟨_,rfl⟩;rw [hg] at hO hC hA ⊢;have hll:l'.length=l.length:=by rw [← hVl,← hV,List.length_map]
 have hgw:w.heap.size≤g:=by rw [← hg];exact hN1.size
 obtain ⟨N,hN⟩:∃ N,w2.heap.size=N:=⟨_,rfl⟩;have hgN:g < N:=by
  obtain ⟨cs,hh,_⟩:=hO.heap;rw [← hN];exact lt_of_block hh
 have HNW:=hid (hN1.trans hN2);have HO0:=hid hO;have HC0:=hid hC;have HA0:=hid hA;have HV:=hid hV;have HW2:=hid hN;clear hO hC hA hV hN1 hN2 hN HK HCL;go_wp2;go_loopw [21] (fun i wr=>∃ (k:Nat) (m:List Ser),k≤l.length∧i=.int .i64 k∧m.length=k∧Hid (AllTo (V.take k) (m.map valS))∧Hid (Ow wr g 80 2 (some ⟨g,0,none⟩) l.length l.length (cR (m++l'.drop k)))∧Hid (∀ s∈m,Dn wr g N s∧∀ t∈l'.drop k,s.bs≠t.bs) ∧
  Hid (∀ s∈l'.drop k,Cl wr g s∧s.bl < N∧s.bs < N)∧Hid (Ap g (l'.drop k))∧Hid (Nw w wr)∧Hid (N≤wr.heap.size)) (fun i _=>l.length - (intOf i).toNat)
 case atStart =>
  refine ⟨0,[],by omega,rfl,rfl,hid AllTo.nil,hid (by simpa using HO0.out),hid (by simp),hid ?_,hid (by simpa using HA0.out),HNW,hid (by rw [HW2.out];exact Nat.le_refl _)⟩;intro s hs;rw [List.drop_zero] at hs;have h:=HC0.out s hs;have h1:=h.lol;have h2:=h.los;have h3:=HW2.out;exact ⟨h,by omega,by omega⟩
 case round =>
  obtain ⟨k,m,hk,rfl,hm,HT,HO,HD,HC,HA,HN,HNr⟩:=hrel;by_cases hlt:k < l.length
  ·have hltI:(k:Int) < (l.length:Int):=by omega
   have hlt':k < l'.length:=by omega
   have hOs:=fun W (hN:Nw wr W)=>Ow.ser (HO.out.nw hN) (k:=k) (by rw [List.length_append,List.length_drop];omega)
   have hdrop:=drop_cons hlt';have hx:(m++l'.drop k)[k]'(by rw [List.length_append,List.length_drop];omega)=l'[k]:=by
    rw [List.getElem_append_right (by omega)];simp [hm]
   rw [hx] at hOs;have HVk:=hid (show V[k]? = some (valS l'[k]) from by rw [← HV.out,List.getElem?_map,List.getElem?_eq_getElem hlt'];rfl);rw [hdrop] at HO HD HC HA;generalize l'[k]=x at *;obtain ⟨h0,h1⟩:=hOs wr (Nw.refl _);have HOs:=hid hOs;have hxs:=HSM.out (valS x) (List.mem_of_getElem? HVk.out);have HXC:=hid (HC.out x List.mem_cons_self);have HNL:=hid (NormL_any wr x.bl x.al x.labs.length x.cl x.labs HXC.out.1.ok.1 (by have:=hxs.1;dsimp only at this;omega));obtain ⟨h00,_⟩:=h0;obtain ⟨h10,_⟩:=h1;have hxs1:x.labs.length≤100000:=hxs.1;have hxs2:x.smps.length≤1000000:=Nat.le_trans hxs.2 (by omega);clear hOs hx hdrop hxs;go_wp2_with fail;refine HNL.out.mono ?_;rintro e w3 ⟨hN3,hcase⟩;rcases hcase with ⟨hE,rfl⟩ | ⟨hE,l1,hio,hcase⟩
   ·obtain ⟨E,hEE⟩:∃ E,oneAll x.labs=E:=⟨_,rfl⟩;rw [hEE] at hE ⊢;have HE:=hid hEE;have HE0:=hid hE;have hE1:((E:Int) != 0)=true:=by rw [bne_iff_ne];omega
    clear hEE hE;go_wp2;go_ret2;exact ⟨HN.out.trans hN3,E,[],.inl ⟨k,valS x,(x.labs,[]),_,HVk.out,HT.out,.inl ⟨by rw [HE.out];exact HE0.out,HE.out.symm⟩,HE0.out⟩,.inl ⟨HE0.out,rfl⟩⟩
   ·have HEz:=hid hE;have HIO:=hid hio;clear hE hio;rcases hcase with ⟨hC,rfl⟩ | ⟨hC,g1,A1,c1,rfl,hO1,hA1⟩
    ·obtain ⟨E,hEE⟩:∃ E,chkL l1=E:=⟨_,rfl⟩;rw [hEE] at hC ⊢;have HE:=hid hEE;have HE0:=hid hC;have hE1:((E:Int) != 0)=true:=by rw [bne_iff_ne];omega
     clear hEE hC;go_wp2;go_ret2;exact ⟨HN.out.trans hN3,E,[],.inl ⟨k,valS x,(l1,[]),_,HVk.out,HT.out,.inr ⟨HEz.out,HIO.out,.inl ⟨by rw [HE.out];exact HE0.out,HE.out.symm⟩⟩,HE0.out⟩,.inl ⟨HE0.out,rfl⟩⟩
    ·obtain ⟨bl,hbl,hO1⟩:=ow_new hO1 hA1;have hgr:=HNr.out;have hXbs:=HXC.out.2.2;have hXne:x.bs≠g:=(HA.out.2 x List.mem_cons_self).1;have hlx:l1.length=x.labs.length:=HIO.out.1.length_eq;obtain ⟨⟨t0,t1⟩,t2,t3⟩:=HOs.out _ hN3;have hO4:=(HO.out.nw hN3).set_ (k*2) (.slice A1 x.labs.length c1);have hK4:Kp g g w3 (w3.setCell ⟨g,k*2,none⟩ (.slice A1 x.labs.length c1)):=(Kp.refl g g w3).setCell' (.inl rfl) _;have hLen:=hO4.len;rw [List.length_set,show (cR _).length=2*_ from c2_length _,List.length_append,List.length_cons,List.length_drop] at hLen;have hLen2:k*2+1 < (cR (m++x::l'.drop (k+1))).length:=by
      rw [show (cR _).length=2*_ from c2_length _,List.length_append,List.length_cons,List.length_drop];omega
     have u0:(w3.setCell ⟨g,k*2,none⟩ (.slice A1 x.labs.length c1)).cell? ⟨g,k*2,none⟩=some (.slice A1 x.labs.length c1):=by
      obtain ⟨_,_,h,_⟩:=hO4.at_ (j:=k*2) (by omega);rw [h,List.getElem?_set_self (by omega)]
     have u1:(w3.setCell ⟨g,k*2,none⟩ (.slice A1 x.labs.length c1)).cell? ⟨g,k*2+1,none⟩=some (.slice x.as_ x.smps.length x.cs):=by
      obtain ⟨_,_,h,_⟩:=hO4.at_ (j:=k*2+1) (by omega);obtain ⟨_,_,h2,_⟩:=(HO.out.nw hN3).at_ (j:=k*2+1) (by omega);rw [h,List.getElem?_set_ne (by omega),← h2,t2]
     have hS4:=(HXC.out.1.smp.nw hN3).kp hK4 hXne hXne;have hL4:=hO1.kp hK4 (by omega) (by omega);have hCx:Kp g x.bs wr (w3.setCell ⟨g,k*2,none⟩ (.slice A1 x.labs.length c1)):=(hN3.kp g x.bs).setCell' (.inl rfl) _;have HS4:=hid hS4;have HL4:=hid hL4;have HO4:=hid hO4;have HCx:=hid hCx;have has:x.as_=some ⟨x.bs,0,none⟩:=HXC.out.1.as_;have HLx:=hid hlx;have HU:=hid (And.intro u0 u1);have HLen:=hid hLen;have HC0:=hid hC;have HBL:=hid hbl;have HXN:=hid hXne;rw [has] at u1;clear hS4 hL4 hO4 hCx hK4 hO1 hA1 hLen hLen2 hC hbl hlx hXne h00 h10 t2 t3 has;go_wp2_with fail;obtain ⟨w4,hw4⟩:∃ w4,w3.setCell ⟨g,k*2,none⟩ (.slice A1 x.labs.length c1)=w4:=⟨_,rfl⟩;rw [hw4] at HS4 HL4 HO4 HCx HU u0 u1 ⊢;clear hw4;have HAS:=hid HXC.out.1.as_;have hS:=HS4.out;rw [HAS.out] at hS;refine (StableSA_any w4 x.bs x.smps.length x.cs x.smps rfl hxs2 hS).mono ?_;rintro e w5 ⟨rfl,l2,hperm,hpw,hO5,hK5⟩;have hxne:=HXN.out;have hbl:=HBL.out;have hgr:=HNr.out;have hXbs:=HXC.out.2.2;have hlx:=HLx.out;have hly:l2.length=x.smps.length:=hperm.length_eq;have hg4:=HCx.out.size;have hgne:g≠x.bs:=fun h=>hxne h.symm
     have hOg:=HO4.out.kp hK5 hgne hgne;have hl5:=HL4.out.kp hK5 (by omega) (by omega);rw [← hlx] at hl5;rw [← hly] at hO5;have v0:=(World.cell?_of_block (hK5.block g (by omega) hgne hgne) (a:=⟨g,k*2,none⟩)).trans u0;have v1:=(World.cell?_of_block (hK5.block g (by omega) hgne hgne) (a:=⟨g,k*2+1,none⟩)).trans u1;have hok:SerOk w5 ⟨l1,l2,bl,A1,c1,x.bs,some ⟨x.bs,0,none⟩,x.cs⟩ :=
      ⟨⟨hl5.rd,rfl,hl5.nil_cap,hl5.cap.1,hl5.cap.2,fun y hy=>HXC.out.1.small y (HIO.out.1.mem_iff.1 hy)⟩,⟨hO5.rd,rfl,fun y hy=>HXC.out.1.wf y (hperm.mem_iff.1 hy),hO5.nil_cap,hO5.cap.1,hO5.cap.2⟩⟩
     have h22:=singleSer_any w5 ⟨l1,l2,bl,A1,c1,x.bs,some ⟨x.bs,0,none⟩,x.cs⟩ hok (by dsimp only;omega) (by dsimp only;omega);rw [serE_val] at h22;dsimp only [vSer,valS] at h22;rw [hlx,hly] at h22;obtain ⟨E,hE⟩:∃ E,valE (l1,l2)=E:=⟨_,rfl⟩;rw [hE] at h22;have HE:=hid hE;have H22:=hid h22;have HTO:=hid (show SerTo (valS x) E (l1,l2) from .inr ⟨HEz.out,HIO.out,.inr ⟨HC0.out,hperm,hpw,hE.symm⟩⟩);have HOK:=hid hok;have HOg:=hid hOg;have hK6:Kp g x.bs wr w5:=HCx.out.trans hK5 (.inr (.inl rfl)) (.inr (.inl rfl));have HK6:=hid hK6;have HLY:=hid hly;clear hS HS4 HL4 HO4 HCx HU u0 u1 hperm hpw hO5 hK5 hl5 hok h22 hE hOg hly hlx hK6 hg4 hxs2 hxs1 HOs HNL;by_cases h0:E=0
     ·have hE1:((E:Int) != 0)=false:=by rw [bne_eq_false_iff_eq];omega
      have HE0:=hid h0;clear h0;go_wp2_with (go_at_call 101;refine H22.out.mono ?_;rintro e w6 ⟨rfl,hN6⟩)
      have HN6:=hid hN6;clear hN6;go_roundw
      case rel =>
       have hbl:=HBL.out;have hgr:=HNr.out;have hxc:=HXC.out;have hxne:=HXN.out;have hk6:=HK6.out.nw' HN6.out;have hto:=HTO.out;rw [HE0.out] at hto;have hVt:V.take (k+1)=V.take k++[valS x]:=by
        have:=List.getElem?_eq_some_iff.1 HVk.out;obtain ⟨h1,h2⟩:=this;rw [List.take_succ_eq_append_getElem h1,h2]
       refine ⟨k+1,m++[⟨l1,l2,bl,A1,c1,x.bs,some ⟨x.bs,0,none⟩,x.cs⟩],by omega,by go_num,by simp [hm],hid ?_,hid ?_,hid ?_,hid ?_,hid ?_,hid (Kp.nw HN.out hk6 hgw (by have:=hxc.1.los.1;omega)),hid (Nat.le_trans hgr hk6.size)⟩
       ·rw [hVt,List.map_append];exact HT.out.snoc hto
       ·have h:=HOg.out.nw HN6.out;have hkl:k < (m++x::l'.drop (k+1)).length:=by simp;omega
        have hgx:(m++x::l'.drop (k+1))[k]=x:=by
         rw [List.getElem_append_right (by omega)];simp [hm]
        have e:=c2_set1 (f:=fR) (h:=hR) (m++x::l'.drop (k+1)) k ⟨l1,l2,bl,A1,c1,x.bs,some ⟨x.bs,0,none⟩,x.cs⟩ hkl (by rw [hgx];dsimp only [hR];rw [hxc.1.as_,HLY.out]);dsimp only [fR] at e;rw [HLx.out] at e;unfold cR at h ⊢;rw [e,List.set_append_right _ _ (by omega),hm,Nat.sub_self,List.set_cons_zero] at h;rw [List.append_assoc];exact h
       ·intro s hs;rcases List.mem_append.1 hs with hs | hs
        ·have h:=HD.out s hs;refine ⟨h.1.kp hk6 hgN hxc.2.2 (h.2 x List.mem_cons_self),fun t ht=>h.2 t (List.mem_cons_of_mem _ ht)⟩
        ·obtain rfl:=List.mem_singleton.1 hs;refine ⟨⟨HOK.out.nw HN6.out,by dsimp only;omega,hxc.2.2,hxne,⟨by dsimp only;have:=HLx.out;have:=(HSM.out (valS x) (List.mem_of_getElem? HVk.out)).1;dsimp only at this;omega,by dsimp only;have:=HLY.out;have:=(HSM.out (valS x) (List.mem_of_getElem? HVk.out)).2;dsimp only at this;omega⟩⟩,fun t ht=>?_⟩;have:=(List.pairwise_cons.1 HA.out.1).1 t ht;exact this.1
       ·intro s hs;have h:=HC.out s (List.mem_cons_of_mem _ hs);have h1:=(List.pairwise_cons.1 HA.out.1).1 s hs;have h2:=HA.out.2 s (List.mem_cons_of_mem _ hs);exact ⟨h.1.kp hk6 h2.2.1 (fun e=>h1.2.1 e.symm) h2.1 (fun e=>h1.1 e.symm),h.2⟩
       ·exact ⟨(List.pairwise_cons.1 HA.out.1).2,fun s hs=>HA.out.2 s (List.mem_cons_of_mem _ hs)⟩
      case measure=>simp [intOf];omega
     ·have hE1:((E:Int) != 0)=true:=by rw [bne_iff_ne];omega
      have HE0:=hid h0;clear h0;go_wp2_with (go_at_call 101;refine H22.out.mono ?_;rintro e w6 ⟨rfl,hN6⟩)
      go_ret2;exact ⟨Kp.nw HN.out (HK6.out.nw' hN6) hgw (by have:=HXC.out.1.los.1;omega),E,[],.inl ⟨k,valS x,(l1,l2),_,HVk.out,HT.out,HTO.out,HE0.out⟩,.inl ⟨HE0.out,rfl⟩⟩
  ·obtain rfl:k=l.length:=by omega
   have hO:=HO.out;rw [List.drop_eq_nil_of_le (by omega),List.append_nil] at hO;have hT:=HT.out;rw [List.take_of_length_le (by omega)] at hT;have HST:=hid (StableRA_any wr g l.length l.length m hm.symm (by omega) hO (fun s hs=>by
    have h:=(HD.out s hs).1;exact ⟨h.ok,by have:=h.bl;omega,h.ne,h.small.1⟩))
   have HT2:=hid hT;have HDm:=hid fun s (h:s∈m)=>(HD.out s h).1
   clear hO hT HT HO HD HC HA;go_wp2_with (go_at_call 168;refine HST.out.mono ?_;rintro e w3 ⟨rfl,l2,hperm,hpw,hO3,hK3⟩)
   have hl2:l2.length=l.length:=hperm.length_eq.trans hm;have hD3:∀ s∈l2,SerOk w3 s∧s.labs.length≤1000000:=fun s hs=>by
    have h:=HDm.out s (hperm.mem_iff.1 hs);exact ⟨h.ok.kp hK3 (by have:=h.bl;omega) h.ne,h.small.1⟩
   have HAS:=hid (ascR_any w3 g (some ⟨g,0,none⟩) l.length l.length l2 hl2.symm (by omega) hO3.rd hD3);have HN3:=hid (Kp.nw HN.out hK3 hgw hgw);have hTo:ListTo V (asE l2) (l2.map valS):=.inr ⟨_,HT2.out,hperm.map _,by rw [List.pairwise_map];exact hpw,asE_val l2⟩;have HO3:=hid hO3;have HD3:=hid fun s (h:s∈l2)=>(hD3 s h).1
   have HL2:=hid hl2;generalize asE l2=E at *;have HTo:=hid hTo;clear hperm hpw hO3 hK3 hD3 hTo hl2;by_cases h0:E=0
   ·have hE1:((E:Int) != 0)=false:=by rw [bne_eq_false_iff_eq];omega
    have HE0:=hid h0;clear h0;go_wp2_with (go_at_call 102;refine HAS.out.mono ?_;rintro e w4 ⟨rfl,hN4⟩)
    go_ret2;exact ⟨HN3.out.trans hN4,E,l2.map valS,HTo.out,.inr ⟨HE0.out,g,l2,rfl,rfl,HL2.out,hgw,HO3.out.nw hN4,fun s hs=>(HD3.out s hs).nw hN4⟩⟩
   ·have hE1:((E:Int) != 0)=true:=by rw [bne_iff_ne];omega
    have HE0:=hid h0;clear h0;go_wp2_with (go_at_call 102;refine HAS.out.mono ?_;rintro e w4 ⟨rfl,hN4⟩)
    go_ret2;exact ⟨HN3.out.trans hN4,E,l2.map valS,HTo.out,.inl ⟨HE0.out,rfl⟩⟩
end
section
open Go Go.RowKit Go.Sort Go.Shelf
section
variable {w w':World} {bk b3:Nat} {s:Ser}
end
theorem cmpLs_pos {a b:List Lab}:cmpLs a b=1↔cmpLs b a = -1:=by
 have:=cmp3_Ls.swap a b;omega
end
section
open Go Go.RowKit Go.Sort Go.Shelf
theorem oneAll_zero:∀ {l:List Lab},oneAll l=0↔∀ x∈l,oneE x=0
 | []=>by simp [oneAll]
 | x::l=>by
  show (if oneE x≠0 then oneE x else oneAll l)=0↔_
  by_cases h:oneE x=0
  ·rw [if_neg (fun n=>n h),oneAll_zero];simp [h]
  ·rw [if_pos h];simp [h]
theorem ltb_irrefl (a:ByteArray):¬ LtB a a:=fun h=>by rw [LtB,bl_irrefl] at h;cases h
theorem ltb_nodup {l:List Lab} (h:l.Pairwise fun x y=>LtB x.1 y.1):(l.map (·.1)).Nodup:=by
 rw [List.Nodup,List.pairwise_map];exact h.imp fun {a b} hl (e:a.1=b.1)=>ltb_irrefl b.1 (by rw [e] at hl;exact hl)
theorem chkF_srt:∀ (l:List Lab) (p:Lab),(∀ x∈l,oneE x=0)→(p::l).Pairwise (fun x y=>¬ LtB y.1 x.1)→(chkF (some p.1) l=0∧(p::l).Pairwise fun x y=>LtB x.1 y.1)∨(chkF (some p.1) l=18∧¬ ((p::l).map (·.1)).Nodup)
 | [],p,_,_=>.inl ⟨rfl,List.pairwise_singleton _ _⟩
 | x::l,p,h1,h2=>by
  have h3:=List.pairwise_cons.1 h2;have e:chkF (some p.1) (x::l)=if oneE x≠0 then oneE x else if cmpS p.1 x.1=0 then 18 else if cmpS p.1 x.1=1 then 16 else chkF (some x.1) l:=rfl
  rw [e,if_neg (fun n=>n (h1 x List.mem_cons_self))];rcases cmpS_in p.1 x.1 with h | h | h
  ·rw [h,if_neg (by decide),if_neg (by decide)];have hlt:LtB p.1 x.1:=cmpS_neg.1 h;rcases chkF_srt l x (fun y hy=>h1 y (List.mem_cons_of_mem _ hy)) h3.2 with h4 | h4
   ·refine .inl ⟨h4.1,List.pairwise_cons.2 ⟨fun y hy=>?_,h4.2⟩⟩;rcases List.mem_cons.1 hy with rfl | hy
    ·exact hlt
    ·exact bl_trans _ _ _ hlt ((List.pairwise_cons.1 h4.2).1 y hy)
   ·refine .inr ⟨h4.1,fun hn=>h4.2 ?_⟩;rw [List.map_cons,List.nodup_cons] at hn;exact hn.2
  ·rw [h,if_pos rfl];refine .inr ⟨rfl,fun hn=>?_⟩;rw [List.map_cons,List.nodup_cons] at hn;exact hn.1 (List.mem_map.2 ⟨x,List.mem_cons_self,(cmpS_zero.1 h).symm⟩)
  ·exact (h3.1 x List.mem_cons_self (cmpS_pos.1 h)).elim
theorem chkL_srt {l:List Lab} (h1:oneAll l=0) (h2:l.Pairwise fun x y=>¬ LtB y.1 x.1):(chkL l=0∧l.Pairwise fun x y=>LtB x.1 y.1)∨(chkL l=18∧¬ (l.map (·.1)).Nodup):=by
 cases l with
 | nil=>exact .inl ⟨rfl,List.Pairwise.nil⟩
 | cons x l =>
  have h:=oneAll_zero.1 h1;have e:chkL (x::l)=if oneE x≠0 then oneE x else chkF (some x.1) l:=rfl
  rw [e,if_neg (fun n=>n (h x List.mem_cons_self))];exact chkF_srt l x (fun y hy=>h y (List.mem_cons_of_mem _ hy)) h2
theorem tmF_srt:∀ (l:List Smpl) (p:Smpl),(p::l).Pairwise (fun x y=>¬ y.1 < x.1)→(tmF p.1 l=0∧(p::l).Pairwise fun x y=>x.1 < y.1)∨(tmF p.1 l=20∧¬ ((p::l).map (·.1)).Nodup)
 | [],p,_=>.inl ⟨rfl,List.pairwise_singleton _ _⟩
 | x::l,p,h2=>by
  have h3:=List.pairwise_cons.1 h2;have h5:=h3.1 x List.mem_cons_self;have e:tmF p.1 (x::l)=if x.1=p.1 then 20 else if x.1 < p.1 then 16 else tmF x.1 l:=rfl
  rw [e];by_cases h:x.1=p.1
  ·rw [if_pos h];refine .inr ⟨rfl,fun hn=>?_⟩;rw [List.map_cons,List.nodup_cons] at hn;exact hn.1 (List.mem_map.2 ⟨x,List.mem_cons_self,h⟩)
  ·rw [if_neg h,if_neg h5];rcases tmF_srt l x h3.2 with h4 | h4
   ·refine .inl ⟨h4.1,List.pairwise_cons.2 ⟨fun y hy=>?_,h4.2⟩⟩;rcases List.mem_cons.1 hy with rfl | hy
    ·omega
    ·have:=(List.pairwise_cons.1 h4.2).1 y hy;omega
   ·refine .inr ⟨h4.1,fun hn=>h4.2 ?_⟩;rw [List.map_cons,List.nodup_cons] at hn;exact hn.2
theorem tmE_srt {l:List Smpl} (h:l.Pairwise fun x y=>¬ y.1 < x.1):(tmE l=0∧l.Pairwise fun x y=>x.1 < y.1)∨(tmE l=20∧¬ (l.map (·.1)).Nodup):=by
 cases l with
 | nil=>exact .inl ⟨rfl,List.Pairwise.nil⟩
 | cons x l=>exact tmF_srt l x h
theorem asV_srt:∀ (l:List Val) (p:Val),(p::l).Pairwise (fun x y=>¬ cmpLs y.1 x.1 = -1)→(asV p l=0∧(p::l).Pairwise fun x y=>cmpLs x.1 y.1 = -1)∨(asV p l=19∧¬ ((p::l).map (·.1)).Nodup)
 | [],p,_=>.inl ⟨rfl,List.pairwise_singleton _ _⟩
 | x::l,p,h2=>by
  have h3:=List.pairwise_cons.1 h2;have h5:=h3.1 x List.mem_cons_self;have e:asV p (x::l)=if cmpLs p.1 x.1=0 then 19 else if cmpLs p.1 x.1=1 then 16 else asV x l:=rfl
  rw [e];by_cases h:cmpLs p.1 x.1=0
  ·rw [if_pos h];refine .inr ⟨rfl,fun hn=>?_⟩;rw [List.map_cons,List.nodup_cons] at hn;exact hn.1 (List.mem_map.2 ⟨x,List.mem_cons_self,((cmp3_Ls.zero _ _).1 h).symm⟩)
  ·have h6:¬ cmpLs p.1 x.1=1:=fun hh=>h5 (cmpLs_pos.1 hh)
   rw [if_neg h,if_neg h6];have h7:cmpLs p.1 x.1 = -1:=by rcases cmp3_Ls.inn p.1 x.1 with h8 | h8 | h8;exact h8;exact (h h8).elim;exact (h6 h8).elim
   rcases asV_srt l x h3.2 with h4 | h4
   ·refine .inl ⟨h4.1,List.pairwise_cons.2 ⟨fun y hy=>?_,h4.2⟩⟩;rcases List.mem_cons.1 hy with rfl | hy
    ·exact h7
    ·exact cmp3_Ls.trans _ _ _ h7 ((List.pairwise_cons.1 h4.2).1 y hy)
   ·refine .inr ⟨h4.1,fun hn=>h4.2 ?_⟩;rw [List.map_cons,List.nodup_cons] at hn;exact hn.2
theorem asVE_srt {l:List Val} (h:l.Pairwise fun x y=>¬ cmpLs y.1 x.1 = -1):(asVE l=0∧l.Pairwise fun x y=>cmpLs x.1 y.1 = -1)∨(asVE l=19∧¬ (l.map (·.1)).Nodup):=by
 cases l with
 | nil=>exact .inl ⟨rfl,List.Pairwise.nil⟩
 | cons x l=>exact asV_srt l x h
def SerU (x:Val) (E:Nat) (y:Val):Prop :=
 (oneAll x.1≠0∧E=oneAll x.1)∨(oneAll x.1=0∧((¬ (x.1.map (·.1)).Nodup∧E=18)∨(y.1.Perm x.1∧y.1.Pairwise (fun a b=>LtB a.1 b.1) ∧
  ((x.2=[]∧E=21)∨(x.2≠[]∧((¬ (x.2.map (·.1)).Nodup∧E=20)∨(E=0∧y.2.Perm x.2∧y.2.Pairwise (fun a b:Smpl=>a.1 < b.1))))))))
theorem sm_nodup {l:List Smpl} (h:l.Pairwise fun x y=>x.1 < y.1):(l.map (·.1)).Nodup:=by
 rw [List.Nodup,List.pairwise_map];exact h.imp fun {a b} hl e=>by rw [e] at hl;exact Int.lt_irrefl _ hl
theorem SerU.smp {x:Val} {E:Nat} {y:Val} (h2:y.2.Perm x.2) (h3:y.2.Pairwise fun a b:Smpl=>¬ b.1 < a.1) (h4:E=tmE y.2):(¬ (x.2.map (·.1)).Nodup∧E=20)∨(E=0∧y.2.Perm x.2∧y.2.Pairwise (fun a b:Smpl=>a.1 < b.1)):=by
 rcases tmE_srt h3 with h | h
 ·exact .inr ⟨h4.trans h.1,h2,h.2⟩
 ·exact .inl ⟨fun hn=>h.2 ((h2.map _).nodup_iff.2 hn),h4.trans h.1⟩
theorem SerTo.u {x:Val} {E:Nat} {y:Val} (h:SerTo x E y):SerU x E y:=by
 rcases h with h | ⟨h1,⟨h2,h3⟩,h4⟩
 ·exact .inl h
 ·refine .inr ⟨h1,?_⟩;have h1':oneAll y.1=0:=oneAll_zero.2 fun z hz=>oneAll_zero.1 h1 z (h2.mem_iff.1 hz)
  have hc:=chkL_srt h1' h3;rcases h4 with ⟨h5,h6⟩ | ⟨h5,h6,h7,h8⟩
  ·rcases hc with hc | hc
   ·exact (h5 hc.1).elim
   ·exact .inl ⟨fun hn=>hc.2 ((h2.map _).nodup_iff.2 hn),h6.trans hc.1⟩
  ·rcases hc with hc | hc
   ·refine .inr ⟨h2,hc.2,?_⟩;unfold valE at h8;rw [if_neg (fun n=>n h5)] at h8;by_cases h9:y.2.length=0
    ·rw [if_pos h9] at h8;exact .inl ⟨List.eq_nil_of_length_eq_zero (by rw [← h6.length_eq];exact h9),h8⟩
    ·rw [if_neg h9] at h8;refine .inr ⟨fun h=>h9 (by rw [h6.length_eq,h];rfl),SerU.smp h6 h7 h8⟩
   ·rw [hc.1] at h5;cases h5
theorem SerU.zero {x y:Val} (h:SerU x 0 y):y.1.Perm x.1∧y.1.Pairwise (fun a b=>LtB a.1 b.1)∧x.2≠[]∧y.2.Perm x.2∧y.2.Pairwise (fun a b:Smpl=>a.1 < b.1):=by
 rcases h with ⟨h1,h2⟩ | ⟨_,h | ⟨h1,h2,h3⟩⟩
 ·exact (h1 h2.symm).elim
 ·cases h.2
 ·rcases h3 with h3 | ⟨h3,h4 | h4⟩
  ·cases h3.2
  ·cases h4.2
  ·exact ⟨h1,h2,h3,h4.2.1,h4.2.2⟩
theorem SerU.err {x:Val} {E E':Nat} {y y':Val} (h:SerU x E y) (h':SerU x E' y'):E=E':=by
 have nd:∀ {y:Val},y.1.Perm x.1→y.1.Pairwise (fun a b=>LtB a.1 b.1)→(x.1.map (·.1)).Nodup:=fun h1 h2=>(h1.map _).nodup_iff.1 (ltb_nodup h2)
 have sd:∀ {y:Val},y.2.Perm x.2→y.2.Pairwise (fun a b:Smpl=>a.1 < b.1)→(x.2.map (·.1)).Nodup:=fun h1 h2=>(h1.map _).nodup_iff.1 (sm_nodup h2)
 rcases h with ⟨h1,h2⟩ | ⟨h1,h2⟩
 ·rcases h' with ⟨_,h4⟩ | ⟨h3,_⟩
  ·rw [h2,h4]
  ·exact (h1 h3).elim
 ·rcases h' with ⟨h3,_⟩ | ⟨_,h4⟩
  ·exact (h3 h1).elim
  ·rcases h2 with ⟨h2,e⟩ | ⟨h2,h5,h6⟩
   ·rcases h4 with ⟨_,e'⟩ | ⟨h4,h7,_⟩
    ·rw [e,e']
    ·exact (h2 (nd h4 h7)).elim
   ·rcases h4 with ⟨h4,_⟩ | ⟨_,_,h8⟩
    ·exact (h4 (nd h2 h5)).elim
    ·rcases h6 with ⟨h6,e⟩ | ⟨h6,h9⟩
     ·rcases h8 with ⟨_,e'⟩ | ⟨h8,_⟩
      ·rw [e,e']
      ·exact (h8 h6).elim
     ·rcases h8 with ⟨h8,_⟩ | ⟨_,h10⟩
      ·exact (h6 h8).elim
      ·rcases h9 with ⟨h9,e⟩ | ⟨e,h11,h12⟩
       ·rcases h10 with ⟨_,e'⟩ | ⟨_,h13,h14⟩
        ·rw [e,e']
        ·exact (h9 (sd h13 h14)).elim
       ·rcases h10 with ⟨h13,_⟩ | ⟨e',_⟩
        ·exact (h13 (sd h11 h12)).elim
        ·rw [e,e']
theorem SerU.val {x y y':Val} (h:SerU x 0 y) (h':SerU x 0 y'):y=y':=by
 obtain ⟨a1,a2,_,a3,a4⟩:=h.zero;obtain ⟨b1,b2,_,b3,b4⟩:=h'.zero;refine Prod.ext ?_ ?_
 ·exact List.Perm.eq_of_pairwise (fun a b _ _ k1 k2=>(ltb_irrefl _ (bl_trans _ _ _ k1 k2)).elim) a2 b2 (a1.trans b1.symm)
 ·exact List.Perm.eq_of_pairwise (le:=fun a b:Smpl=>a.1 < b.1) (fun a b _ _ k1 k2=>(Int.lt_irrefl _ (Int.lt_trans k1 k2)).elim) a4 b4 (a3.trans b3.symm)
def AllU (l m:List Val):Prop:=m.length=l.length∧∀ (i:Nat) (x y:Val),l[i]? = some x→m[i]? = some y→SerU x 0 y
theorem AllU.one {l m m':List Val} (h:AllU l m) (h':AllU l m'):m=m':=by
 apply List.ext_getElem?
 intro i;by_cases hi:i < l.length
 ·have e1:=List.getElem?_eq_getElem (l:=m) (i:=i) (by rw [h.1];exact hi);have e2:=List.getElem?_eq_getElem (l:=m') (i:=i) (by rw [h'.1];exact hi);have e3:=List.getElem?_eq_getElem (l:=l) (i:=i) hi;rw [e1,e2,(h.2 i _ _ e3 e1).val (h'.2 i _ _ e3 e2)]
 ·rw [List.getElem?_eq_none (by rw [h.1];omega),List.getElem?_eq_none (by rw [h'.1];omega)]
def ListU (l:List Val) (E:Nat) (r:List Val):Prop :=
 (∃ (k:Nat) (x y:Val) (m:List Val),l[k]? = some x∧AllU (l.take k) m∧SerU x E y∧E≠0) ∨
 (∃ m,AllU l m∧((¬ (m.map (·.1)).Nodup∧E=19)∨(E=0∧r.Perm m∧r.Pairwise (fun a b=>cmpLs a.1 b.1 = -1))))
theorem ListU.last {m r:List Val} {E:Nat} (h1:r.Perm m) (h2:r.Pairwise fun a b=>¬ cmpLs b.1 a.1 = -1) (h3:E=asVE r):(¬ (m.map (·.1)).Nodup∧E=19)∨(E=0∧r.Perm m∧r.Pairwise (fun a b=>cmpLs a.1 b.1 = -1)):=by
 rcases asVE_srt h2 with h | h
 ·exact .inr ⟨h3.trans h.1,h1,h.2⟩
 ·exact .inl ⟨fun hn=>h.2 ((h1.map _).nodup_iff.2 hn),h3.trans h.1⟩
theorem ListTo.u {l:List Val} {E:Nat} {r:List Val} (h:ListTo l E r):ListU l E r:=by
 rcases h with ⟨k,x,y,m,h1,h2,h3,h4⟩ | ⟨m,h1,h2,h3,h4⟩
 ·exact .inl ⟨k,x,y,m,h1,⟨h2.1,fun i a b ha hb=>(h2.2 i a b ha hb).u⟩,h3.u,h4⟩
 ·exact .inr ⟨m,⟨h1.1,fun i a b ha hb=>(h1.2 i a b ha hb).u⟩,ListU.last h2 h3 h4⟩
theorem lv_nodup {l:List Val} (h:l.Pairwise fun x y=>cmpLs x.1 y.1 = -1):(l.map (·.1)).Nodup:=by
 rw [List.Nodup,List.pairwise_map];exact h.imp fun {a b} hl e=>by rw [e,(cmp3_Ls.zero _ _).2 rfl] at hl;cases hl
theorem all_no_err {l m:List Val} {k:Nat} {x y:Val} {E:Nat} (hk:l[k]? = some x) (h:SerU x E y) (hE:E≠0) {n:Nat} (hn:k < n) (ha:AllU (l.take n) m):False:=by
 have hl:k < l.length:=(List.getElem?_eq_some_iff.1 hk).1;have h1:(l.take n)[k]? = some x:=by rw [List.getElem?_take_of_lt hn];exact hk
 have h2:=List.getElem?_eq_getElem (l:=m) (i:=k) (by rw [ha.1,List.length_take];omega);exact hE (h.err (ha.2 k _ _ h1 h2))
theorem ListU.one {l:List Val} {E E':Nat} {r r':List Val} (h:ListU l E r) (h':ListU l E' r'):E=E'∧(E=0→r=r'):=by
 rcases h with ⟨k,x,y,m,h1,h2,h3,h4⟩ | ⟨m,h1,h2⟩
 ·rcases h' with ⟨k',x',y',m',h1',h2',h3',h4'⟩ | ⟨m',h1',_⟩
  ·rcases Nat.lt_trichotomy k k' with h | rfl | h
   ·exact (all_no_err h1 h3 h4 h h2').elim
   ·rw [h1] at h1';cases h1';exact ⟨h3.err h3',fun h=>(h4 h).elim⟩
   ·exact (all_no_err h1' h3' h4' h h2).elim
  ·have hl:k < l.length:=(List.getElem?_eq_some_iff.1 h1).1;exact (all_no_err h1 h3 h4 hl (by rw [List.take_length];exact h1')).elim
 ·rcases h' with ⟨k',x',y',m',h1',h2',h3',h4'⟩ | ⟨m',h1',h2'⟩
  ·have hl:k' < l.length:=(List.getElem?_eq_some_iff.1 h1').1;exact (all_no_err h1' h3' h4' hl (by rw [List.take_length];exact h1)).elim
  ·obtain rfl:=h1.one h1';rcases h2 with ⟨h2,e⟩ | ⟨e,h3,h4⟩
   ·rcases h2' with ⟨_,e'⟩ | ⟨_,h3',h4'⟩
    ·exact ⟨e.trans e'.symm,fun h=>by rw [e] at h;cases h⟩
    ·exact (h2 ((h3'.map _).nodup_iff.1 (lv_nodup h4'))).elim
   ·rcases h2' with ⟨h2',_⟩ | ⟨e',h3',h4'⟩
    ·exact (h2' ((h3.map _).nodup_iff.1 (lv_nodup h4))).elim
    ·refine ⟨e.trans e'.symm,fun _=>?_⟩;exact List.Perm.eq_of_pairwise (fun a b _ _ k1 k2=>by have:=cmp3_Ls.swap a.1 b.1;omega) h4 h4' (h3.trans h3'.symm)
structure Blk1 (l r:List Val):Prop where
 ser:∀ y∈r,valE y=0
 asc:asVE r=0
 labs:∀ y∈r,∃ x∈l,y.1.Perm x.1
 smps:∀ y∈r,∃ x∈l,y.2.Perm x.2
 sum:(r.map fun y=>y.2.length).sum=(l.map fun y=>y.2.length).sum
theorem SerU.valE {x y:Val} (h:SerU x 0 y) (h1:oneAll x.1=0):valE y=0:=by
 obtain ⟨a1,a2,a3,a4,a5⟩:=h.zero;unfold Go.Proofs.YticphebaflnedaaGreatDoor.valE;have h2:oneAll y.1=0:=oneAll_zero.2 fun z hz=>oneAll_zero.1 h1 z (a1.mem_iff.1 hz)
 have h3:chkL y.1=0:=by
  rcases chkL_srt h2 (a2.imp fun {a b} k1 k2=>ltb_irrefl _ (bl_trans _ _ _ k1 k2)) with h | h
  ·exact h.1
  ·exact (h.2 (ltb_nodup a2)).elim
 rw [if_neg (fun n=>n h3),if_neg (fun n=>a3 (List.eq_nil_of_length_eq_zero (by rw [← a4.length_eq];exact n)))];rcases tmE_srt (a5.imp fun {a b} k=>by omega) with h | h
 ·exact h.1
 ·exact (h.2 (sm_nodup a5)).elim
theorem SerU.one0 {x y:Val} (h:SerU x 0 y):oneAll x.1=0:=by
 rcases h with ⟨h1,h2⟩ | ⟨h1,_⟩
 ·exact (h1 h2.symm).elim
 ·exact h1
theorem sum_eq_of {l m:List Val} (h:AllU l m):(m.map fun y=>y.2.length).sum=(l.map fun y=>y.2.length).sum:=by
 congr 1
 apply List.ext_getElem?
 intro i;rw [List.getElem?_map,List.getElem?_map];by_cases hi:i < l.length
 ·have e1:=List.getElem?_eq_getElem (l:=m) (i:=i) (by rw [h.1];exact hi);have e3:=List.getElem?_eq_getElem (l:=l) (i:=i) hi;rw [e1,e3];have:=(h.2 i _ _ e3 e1).zero.2.2.2.1.length_eq;simp only [Option.map_some,this]
 ·rw [List.getElem?_eq_none (by rw [h.1];omega),List.getElem?_eq_none (by omega)]
theorem ListU.blk {l r:List Val} (h:ListU l 0 r):Blk1 l r:=by
 rcases h with ⟨k,x,y,m,h1,h2,h3,h4⟩ | ⟨m,h1,h2⟩
 ·exact (h4 rfl).elim
 ·rcases h2 with ⟨_,e⟩ | ⟨_,h3,h4⟩
  ·cases e
  ·have hm:∀ y∈r,∃ x∈l,SerU x 0 y:=fun y hy=>by
    obtain ⟨i,hi,e⟩:=List.getElem_of_mem (h3.mem_iff.1 hy);have hil:i < l.length:=by rw [← h1.1];exact hi
    exact ⟨l[i],List.getElem_mem hil,h1.2 i _ _ (List.getElem?_eq_getElem hil) (by rw [List.getElem?_eq_getElem hi,e])⟩
   refine ⟨fun y hy=>?_,?_,fun y hy=>?_,fun y hy=>?_,?_⟩
   ·obtain ⟨x,_,k⟩:=hm y hy;exact k.valE k.one0
   ·rcases asVE_srt (h4.imp fun {a b} k1 k2=>by have:=cmp3_Ls.swap a.1 b.1;omega) with h | h
    ·exact h.1
    ·exact (h.2 (lv_nodup h4)).elim
   ·obtain ⟨x,hx,k⟩:=hm y hy;exact ⟨x,hx,k.zero.1⟩
   ·obtain ⟨x,hx,k⟩:=hm y hy;exact ⟨x,hx,k.zero.2.2.2.1⟩
   ·rw [← sum_eq_of h1];exact (h3.map _).sum_nat
theorem chkB_zero:∀ (l:List Ser) (p:Ser),(∀ s∈l,serE s=0)→chkB (some p) l=asF p l
 | [],_,_=>rfl
 | x::l,p,h=>by
  rw [chkB_nxt (h x List.mem_cons_self),chkB_zero l x (fun s hs=>h s (List.mem_cons_of_mem _ hs))];rfl
theorem blkE_zero {l:List Ser} (h:∀ s∈l,serE s=0):blkE l=asE l:=by
 cases l with
 | nil=>rfl
 | cons x l =>
  show chkB none (x::l)=asF x l
  rw [chkB_fst (h x List.mem_cons_self),chkB_zero l x (fun s hs=>h s (List.mem_cons_of_mem _ hs))]
end
section
open Go Go.RowKit Go.Lib Go.Sort Go.Shelf
attribute [local go_sem] Oper.semAt_some
theorem lab_sum {l m:List Val} (h:AllU l m):(m.map fun y=>y.1.length).sum=(l.map fun y=>y.1.length).sum:=by
 congr 1
 apply List.ext_getElem?
 intro i;rw [List.getElem?_map,List.getElem?_map];by_cases hi:i < l.length
 ·have e1:=List.getElem?_eq_getElem (l:=m) (i:=i) (by rw [h.1];exact hi);have e3:=List.getElem?_eq_getElem (l:=l) (i:=i) hi;rw [e1,e3];have:=(h.2 i _ _ e3 e1).zero.1.length_eq;simp only [Option.map_some,this]
 ·rw [List.getElem?_eq_none (by rw [h.1];omega),List.getElem?_eq_none (by omega)]
theorem norm_blk {l l':List Ser} (hf:Fits l) (h:ListU (l.map valS) 0 (l'.map valS)) (hn:l'.length=l.length):Fits l'∧blkE l'=0:=by
 have hb:=h.blk;have hlab:(labsOf l').length=(labsOf l).length:=by
  rcases h with ⟨k,x,y,m,h1,h2,h3,h4⟩ | ⟨m,h1,h2⟩
  ·exact (h4 rfl).elim
  ·rcases h2 with ⟨_,e⟩ | ⟨_,h3,_⟩
   ·cases e
   ·have e1:=lab_sum h1;have e2:=(h3.map fun y:Val=>y.1.length).sum_nat;rw [← labsV_val,← labsV_val,labsV_len,labsV_len];exact e2.trans e1
 refine ⟨⟨by rw [hn];exact hf.1,?_,⟨by rw [hlab];exact hf.2.2.1,fun x hx=>?_⟩⟩,?_⟩
 ·have e:=hb.sum;rw [List.map_map,List.map_map] at e;have h1:smpSum l'=smpSum l:=e;rw [h1];exact hf.2.1
 ·obtain ⟨s,hs,hx⟩:=List.mem_flatMap.1 hx;obtain ⟨v,hv,k⟩:=hb.labs (valS s) (List.mem_map.2 ⟨s,hs,rfl⟩);obtain ⟨t,ht,rfl⟩:=List.mem_map.1 hv;exact hf.2.2.2 x (List.mem_flatMap.2 ⟨t,ht,k.mem_iff.1 hx⟩)
 ·rw [blkE_zero (fun s hs=>by rw [serE_val];exact hb.ser _ (List.mem_map.2 ⟨s,hs,rfl⟩)),asE_val];exact hb.asc
def RawR (w:World) (V:List BVal) (e:Ending) (w':World):Prop :=
 Nw w w'∧∃ (E:Nat) (r:List BVal),ListU V E r∧((E≠0∧e=.returned (.tuple #[.slice none 0 0,.int .i64 (E:Int)]))∨(E=0∧NewBE w (fileB r) e w'))
theorem fits_smp {l:List Ser} (hf:Fits l):∀ s∈l,s.labs.length≤100000∧s.smps.length≤100000:=fun s hs=>by
 have h1:=labs_le hs;have h2:=hf.2.2.1;have h3:=le_sum hs;have h4:=hf.2.1;exact ⟨by omega,by omega⟩
set_option maxRecDepth 100000 in
set_option maxHeartbeats 800000 in
theorem Raw_any (w:World) (b:Nat) (A:Option Addr) (n c:Nat) (l:List Ser) (hI:InSer w b A n c l) (hf:Fits l) (hG:Gl w) :
  Calls Tryz.prog 51 #[.slice A n c] w (RawR w (l.map valB)):=by
 have hfl:=hf.1;have hfs:=hf.2.1;have hln:=hI.len;subst hln;have HM:=hid (NormM_any w b A l.length c l hI (by omega) (by omega) (fits_smp hf));have HF:=hid hf;have HG:=hid hG;clear hI hf hG;go_enter Tryz.func51,Tryz.ntmps51
 go_wp2_with fail;refine HM.out.mono ?_;rintro e w2 ⟨hN2,E,r,hL,⟨hE,rfl⟩ | ⟨hE,g,l',rfl,hr,hln,hg,hO,hok⟩⟩
 ·have hE1:((E:Int) != 0)=true:=by rw [bne_iff_ne];omega
  have HL:=hid hL.u;clear hL HM;go_wp2;go_ret2;exact ⟨hN2,E,r,HL.out,.inl ⟨hE,rfl⟩⟩
 ·subst hE;have hU:=hL.u;rw [← hr] at hU;obtain ⟨hf2,h02⟩:=norm_blk HF.out hU hln;have HE:=hid (EncodeE_ok w2 g (some ⟨g,0,none⟩) l.length l.length l' ⟨hO.rd,hln.symm,(fun e=>by cases e),Nat.le_refl _,by omega,hok⟩ hf2 h02 (HG.out.nw hN2));have HU:=hid hU;clear hL hr hln hO hok hU hf2 h02 HM;go_wp2_with fail;refine HE.out.mono ?_;rintro e w3 ⟨b3,A3,c3,rfl,hO3,hb3,hN3⟩;go_wp2;go_ret2;exact ⟨hN2.trans hN3,0,_,HU.out,.inr ⟨rfl,b3,A3,c3,rfl,hO3,Nat.le_trans hN2.size hb3,hN2.trans hN3⟩⟩
end
section
open Go Go.RowKit Go.Lib Go.Sort Go.Shelf
attribute [local go_sem] Oper.semAt_some
theorem vint0:vint 0=[0]:=vint_small (by omega)
theorem symT_nil:symT []=[]:=by
 unfold symT;rw [show strsOf ([]:List Lab)=[] from rfl,tbl_nil];rfl
theorem sec0_nil:sec0 []=[0]:=by
 show symEnc (symT [])=_
 rw [symT_nil];show vint 0++[]=_
 rw [vint0];rfl
theorem sec1_nil:sec1 []=[0]:=by
 show vint 0++[]=_
 rw [vint0];rfl
theorem sec3_nil:sec3 []=[0]:=by
 show vint 0++[]=_
 rw [vint0];rfl
theorem datS_nil:datS []=[]:=rfl
theorem frame_len0 (id:Nat) (l:List Nat):(frame id l).length=1+(vint l.length).length+l.length+4:=by
 unfold frame lenB;rw [addCrc_length,List.length_cons,List.length_append];omega
theorem vint_one {x:Nat} (h:x < 128):(vint x).length=1:=by rw [vint_small h];rfl
theorem fileB_nil:(fileB []).length=50:=by
 unfold fileB;rw [sec0_nil,sec1_nil,datS_nil,sec3_nil,fileOf_eq];have f1:∀ id,(frame id [0]).length=7:=fun id=>by rw [frame_len0];simp [vint_one]
 have f0:∀ id,(frame id []).length=6:=fun id=>by rw [frame_len0];simp [vint_one]
 have ft:∀ id,(frame id (toc 5 12 19 25)).length=10+0:=fun id=>by
  have:(toc 5 12 19 25).length=4:=by unfold toc;simp [vint_one]
  rw [frame_len0,this,vint_one (by omega)]
 simp only [List.length_append,addCrc_length,f1,f0,ft];rfl
theorem inSer_nil (w:World):InSer w 0 none 0 0 []:=⟨Rd.nil _ _ _,rfl,fun _=>rfl,Nat.le_refl _,by omega,by simp⟩
theorem fits_nil:Fits []:=⟨by simp,by simp [smpSum],by simp [labsOf],by simp [labsOf]⟩
theorem inSer_one (w:World):InSer (w.alloc (.cells #[nilS,nilS] 80)) w.heap.size (some ⟨w.heap.size,0,none⟩) 1 1 [⟨[],[],0,none,0,0,none,0⟩]:=by
 refine ⟨(Ow.lit w 80 2 1 #[nilS,nilS] rfl (by omega)).rd,rfl,(fun e=>by cases e),Nat.le_refl _,by omega,fun s hs=>?_⟩;obtain rfl:=List.mem_singleton.1 hs;exact ⟨⟨Rd.nil _ _ _,rfl,fun _=>rfl,Nat.le_refl _,Nat.zero_le _,by simp⟩,⟨Rd.nil _ _ _,rfl,(fun z hz=>by cases hz),fun _=>rfl,Nat.le_refl _,Nat.zero_le _⟩⟩
theorem one_err {E:Nat} {r:List BVal} (h:ListU [([],[])] E r):E=21:=by
 have hu:ListU [([],[])] 21 []:=.inl ⟨0,([],[]),([],[]),[],rfl,⟨rfl,fun i x y hx=>by simp at hx⟩,.inr ⟨rfl,.inr ⟨List.Perm.refl _,List.Pairwise.nil,.inl ⟨rfl,rfl⟩⟩⟩,by omega⟩;exact (h.one hu).1
set_option maxRecDepth 100000 in
set_option maxHeartbeats 600000 in
theorem aliveE_any (w:World) (hG:Gl w):Calls Tryz.prog 17 #[] w fun e w'=>e=.returned (.bool true)∧Nw w w':=by
 have HE:Hid (∀ W,Nw w W→Calls Tryz.prog 22 #[.slice none 0 0] W fun e w'=>∃ A' c',e=.returned (.tuple #[.slice A' 50 c',.int .i64 0])∧Nw W w'):=hid fun W hN =>
  (EncodeE_ok W 0 none 0 0 [] (inSer_nil W) fits_nil rfl (hG.nw hN)).mono fun e w' ⟨b',A',c',he,_,_,hN'⟩=>⟨A',c',by rw [he,show ([]:List Ser).map valB=[] from rfl,fileB_nil],hN'⟩
 have HS:Hid (∀ W,Nw w W→Calls Tryz.prog 18 #[.slice none 0 0] W fun e w'=>∃ b0 A0 c0 A1 n1 c1 A2 c2 A3 n3 c3,e=.returned (.tuple #[.agg #[.slice A0 1 c0,.slice A1 n1 c1,.slice A2 0 c2,.slice A3 n3 c3],.int .i64 0])∧Hid (Rd w' b0 A0 (cN .u8 [0]))∧Nw W w'):=hid fun W hN =>
  (SectionsE_ok W 0 none 0 0 [] (inSer_nil W) fits_nil rfl (hG.nw hN)).mono fun e w' ⟨v,he,⟨b0,A0,c0,b1,A1,c1,b2,A2,c2,b3,A3,c3,hv,h0,_⟩,hN'⟩=>by
   rw [show ([]:List Ser).map valB=[] from rfl] at hv h0;rw [sec0_nil] at h0;have l0:(sec0 []).length=1:=by rw [sec0_nil];rfl
   have l2:(datS []).length=0:=by rw [datS_nil];rfl
   rw [l0,l2] at hv;obtain ⟨n1,hn1⟩:∃ n,(sec1 []).length=n:=⟨_,rfl⟩;obtain ⟨n3,hn3⟩:∃ n,(sec3 []).length=n:=⟨_,rfl⟩;rw [hn1,hn3] at hv;subst hv;exact ⟨b0,A0,c0,A1,n1,c1,A2,c2,A3,n3,c3,he,hid h0,hN'⟩
 have HR:Hid (∀ W,Nw w W→Calls Tryz.prog 51 #[.slice (some ⟨W.heap.size,0,none⟩) 1 1] (W.alloc (.cells #[nilS,nilS] 80)) fun e w'=>e=.returned (.tuple #[.slice none 0 0,.int .i64 21])∧Nw W w'):=hid fun W hN=>by
  have hN2:Nw W (W.alloc (.cells #[nilS,nilS] 80)):=(Nw.refl W).alloc' _;refine (Raw_any _ W.heap.size _ 1 1 _ (inSer_one W) ⟨by simp,by simp [smpSum],by simp [labsOf],by simp [labsOf]⟩ (hG.nw (hN.trans hN2))).mono ?_;rintro e w' ⟨hN',E,r,hL,h⟩;have hE:=one_err hL;subst hE;rcases h with ⟨_,rfl⟩ | ⟨h,_⟩
  ·exact ⟨rfl,hN2.trans hN'⟩
  ·cases h
 clear hG;go_enter Tryz.func17,Tryz.ntmps17
 go_wp2_with fail;refine (HE.out w (Nw.refl w)).mono ?_;rintro e w1 ⟨A1,c1,rfl,hN1⟩;have HN1:=hid hN1;clear hN1;go_wp2_with fail;refine (HS.out w1 HN1.out).mono ?_;rintro e w2 ⟨b0,A0,c0,A2,n2,c2,A3,c3,A4,n4,c4,rfl,H0,hN2⟩;have hN3:Nw w2 (w2.alloc (.cells #[.slice A0 1 c0,.slice A2 n2 c2,.slice A3 0 c3,.slice A4 n4 c4] 27)):=(Nw.refl w2).alloc' _;have hb3:=heap_alloc_new w2 (.cells #[.slice A0 1 c0,.slice A2 n2 c2,.slice A3 0 c3,.slice A4 n4 c4] 27);have HN2:=hid (HN1.out.trans hN2);have HN3:=hid hN3;have HB3:=hid hb3;clear hN2 hN3 hb3;have hs3:(w2.alloc (.cells #[.slice A0 1 c0,.slice A2 n2 c2,.slice A3 0 c3,.slice A4 n4 c4] 27)).heap.size=w2.heap.size+1:=by simp
 have hR3:=HR.out _ (HN2.out.trans HN3.out);rw [hs3] at hR3;have HR3:=hid hR3;clear hs3 hR3;go_wp2_with fail;generalize w2.alloc (.cells #[.slice A0 1 c0,.slice A2 n2 c2,.slice A3 0 c3,.slice A4 n4 c4] 27)=w3 at *;refine HR3.out.mono ?_;rintro e w4 ⟨rfl,hN4⟩;have hbk:=(hN4.block _ (lt_of_block HB3.out)).trans HB3.out;have p0:w4.cell? ⟨w2.heap.size,0,none⟩=some (.slice A0 1 c0):=cell_at (k:=0) hbk;have p2:w4.cell? ⟨w2.heap.size,2,none⟩=some (.slice A3 0 c3):=cell_at (k:=2) hbk;have HN4:=hid ((HN2.out.trans HN3.out).trans hN4);have HRd:=hid ((H0.out.nw HN3.out).nw hN4);have HBK:=hid hbk;clear hN4 hbk;go_wp2_with fail;have hn5:Nw w4 (w4.alloc (.cells #[.int .u8 0] 5)):=(Nw.refl w4).alloc' _;have hlit:Rd (w4.alloc (.cells #[.int .u8 0] 5)) w4.heap.size (some ⟨w4.heap.size,0,none⟩) (cN .u8 [0]):=(Ow.lit w4 5 1 1 #[.int .u8 0] rfl (by omega)).rd;have HBE:=hid (bytesEqual_same (w4.alloc (.cells #[.int .u8 0] 5)) b0 w4.heap.size A0 (some ⟨w4.heap.size,0,none⟩) 1 c0 1 1 [0] rfl rfl (HRd.out.nw hn5) hlit (by simp));have p2':(w4.alloc (.cells #[.int .u8 0] 5)).cell? ⟨w2.heap.size,2,none⟩=some (.slice A3 0 c3):=cell_old (a:=⟨w2.heap.size,2,none⟩) hn5 (lt_of_block HBK.out) p2;have HN5:=hid (HN4.out.trans hn5);clear hn5 hlit;refine HBE.out.mono ?_;rintro e w5 ⟨rfl,hw5⟩;subst hw5;go_wp2_with fail;go_ret;exact ⟨rfl,HN5.out⟩
end
section
open Go Go.RowKit
def Pf {α:Type} (f:α→List Nat) (P:α→Prop):Prop:=∀ x y r s,P x→P y→f x++r=f y++s→x=y∧r=s
theorem Pf.list {α:Type} {f:α→List Nat} {P:α→Prop} (h:Pf f P):∀ (l m:List α) (r s:List Nat),l.length=m.length→(∀ x∈l,P x)→(∀ x∈m,P x)→l.flatMap f++r=m.flatMap f++s→l=m∧r=s
 | [],[],r,s,_,_,_,e=>⟨rfl,by simpa using e⟩
 | [],y::m,r,s,hl,_,_,_=>by simp at hl
 | x::l,[],r,s,hl,_,_,_=>by simp at hl
 | x::l,y::m,r,s,hl,h1,h2,e=>by
  rw [List.flatMap_cons,List.flatMap_cons,List.append_assoc,List.append_assoc] at e;obtain ⟨rfl,e2⟩:=h x y _ _ (h1 x List.mem_cons_self) (h2 y List.mem_cons_self) e;obtain ⟨rfl,e3⟩:=Pf.list h l m r s (by simpa using hl) (fun z hz=>h1 z (List.mem_cons_of_mem _ hz)) (fun z hz=>h2 z (List.mem_cons_of_mem _ hz)) e2;exact ⟨rfl,e3⟩
theorem pf_vint:Pf vint (· < 18446744073709551616):=fun _ _ _ _ hx hy e=>vint_inj hx hy e
theorem Pf.count {α:Type} {f:α→List Nat} {P:α→Prop} (h:Pf f P) {l m:List α} {r s:List Nat} (hl:l.length < 18446744073709551616) (hm:m.length < 18446744073709551616) (h1:∀ x∈l,P x) (h2:∀ x∈m,P x)
  (e:vint l.length++(l.flatMap f++r)=vint m.length++(m.flatMap f++s)):l=m∧r=s:=by
 obtain ⟨e1,e2⟩:=vint_inj hl hm e;exact h.list l m r s e1 h1 h2 e2
theorem pf_len:Pf lenB (fun l=>l.length < 18446744073709551616):=fun x y r s hx hy e=>by
 unfold lenB at e;rw [List.append_assoc,List.append_assoc] at e;obtain ⟨e1,e2⟩:=vint_inj hx hy e;exact List.append_inj e2 e1
theorem sB_len (a:ByteArray):(sB a).length=a.size:=by unfold sB;rw [List.length_map];rfl
theorem pf_str:Pf (fun s:ByteArray=>lenB (sB s)) (fun s=>s.size < 18446744073709551616):=fun x y r s hx hy e=>by
 obtain ⟨e1,e2⟩:=pf_len (sB x) (sB y) r s (by show (sB x).length < _;rw [sB_len];exact hx) (by show (sB y).length < _;rw [sB_len];exact hy) e;exact ⟨sB_inj e1,e2⟩
theorem symEnc_inj {t u:List ByteArray} (ht:TblOk t) (hu:TblOk u) (e:symEnc t=symEnc u):t=u:=by
 unfold symEnc at e;have ht1:=ht.1;have hu1:=hu.1;exact (pf_str.count (r:=[]) (s:=[]) (by omega) (by omega) (fun x hx=>by have:=ht.2.1 x hx;omega) (fun x hx=>by have:=hu.2.1 x hx;omega) (by simpa using e)).1
theorem pf_idx {t:List ByteArray} (ht:t.length≤1000):Pf (fun s:ByteArray=>vint (idxS t s)) (·∈t):=fun x y r s hx hy e=>by
 obtain ⟨K,e1,hk,e2⟩:=idxS_spec hx;obtain ⟨J,f1,hj,f2⟩:=idxS_spec hy;obtain ⟨h1,h2⟩:=vint_inj (by omega) (by omega) e;rw [e1,f1] at h1;subst h1;exact ⟨e2.symm.trans f2,h2⟩
theorem strsOf_len (l:List Lab):(strsOf l).length=2*l.length:=by
 induction l with
 | nil=>rfl
 | cons x l ih =>
  have e:strsOf (x::l)=x.1::x.2::strsOf l:=rfl;rw [e,List.length_cons,List.length_cons,ih,List.length_cons];omega
theorem strsOf_inj:∀ {l m:List Lab},strsOf l=strsOf m→l=m
 | [],[],_=>rfl
 | [],y::m,e=>by have:=congrArg List.length e;rw [strsOf_len,strsOf_len] at this;simp at this
 | x::l,[],e=>by have:=congrArg List.length e;rw [strsOf_len,strsOf_len] at this;simp at this
 | x::l,y::m,e=>by
  have e':x.1::x.2::strsOf l=y.1::y.2::strsOf m:=e;injection e' with h1 h2
  injection h2 with h2 h3
  rw [strsOf_inj h3,Prod.ext h1 h2]
theorem pf_rec {t:List ByteArray} (ht:t.length≤1000):Pf (recEnc1 t) (RecOk t):=fun x y r s hx hy e=>by
 unfold recEnc1 at e;obtain ⟨x1,x2⟩:=x;obtain ⟨y1,y2⟩:=y;obtain ⟨a1,a2,_,a3,a4⟩:=hx;obtain ⟨b1,b2,_,b3,b4⟩:=hy;simp only [List.append_assoc] at e a1 a2 a3 a4 b1 b2 b3 b4;obtain ⟨e1,e⟩:=vint_inj (by omega) (by omega) e;obtain ⟨e2,e⟩:=(pf_idx ht).list (strsOf x1) (strsOf y1) _ _ (by rw [strsOf_len,strsOf_len,e1]) a1 b1 e;obtain ⟨e3,e⟩:=pf_vint.count (by omega) (by omega) (fun n hn=>by have:=a4 n hn;show n < _;omega) (fun n hn=>by have:=b4 n hn;show n < _;omega) e;rw [strsOf_inj e2,e3];exact ⟨rfl,e⟩
theorem recEnc_inj {t:List ByteArray} (ht:t.length≤1000) {l m:List RecV} (hl:l.length≤1000) (hm:m.length≤1000) (h1:∀ x∈l,RecOk t x) (h2:∀ x∈m,RecOk t x) (e:recEnc t l=recEnc t m):l=m:=by
 unfold recEnc at e;exact ((pf_rec ht).count (r:=[]) (s:=[]) (by omega) (by omega) h1 h2 (by simpa using e)).1
theorem pf_frame {id:Nat}:Pf (frame id) (fun l=>l.length < 18446744073709551616):=fun x y r s hx hy e=>by
 unfold frame addCrc at e;simp only [List.cons_append,List.append_assoc] at e;injection e with _ e
 obtain ⟨rfl,e⟩:=pf_len x y _ _ hx hy e;exact ⟨rfl,List.append_cancel_left e⟩
theorem fileOf_inj {a0 a1 a2 a3 b0 b1 b2 b3:List Nat} (h0:a0.length < 18446744073709551616) (h1:a1.length < 18446744073709551616) (h2:a2.length < 18446744073709551616)
  (k0:b0.length < 18446744073709551616) (k1:b1.length < 18446744073709551616) (k2:b2.length < 18446744073709551616)
  (e:fileOf a0 a1 a2 a3=fileOf b0 b1 b2 b3):a0=b0∧a1=b1∧a2=b2:=by
 unfold fileOf addCrc file5 file4 file3 file2 file1 at e;simp only [List.append_assoc] at e;have e:=List.append_cancel_left e;obtain ⟨rfl,e⟩:=pf_frame _ _ _ _ h0 k0 e;obtain ⟨rfl,e⟩:=pf_frame _ _ _ _ h1 k1 e;obtain ⟨rfl,e⟩:=pf_frame _ _ _ _ h2 k2 e;exact ⟨rfl,rfl,rfl⟩
theorem chunkB_inj {x y:List Smpl} (h1:x≠[]) (h2:y≠[]) (hx:x.length≤120) (hy:y.length≤120) (ix:InS x) (iy:InS y) (e:chunkB x=chunkB y):x=y:=by
 have put:∀ {z:List Smpl},z≠[]→z.length≤120→InS z→cget (chunkB z)=.ok (tsOf z,vsOf z):=fun {z} h h' hi=>by
  unfold chunkB;refine cget_put _ _ (by simpa using h) (by simp) (by simpa using h') (fun t ht=>?_) (fun v hv=>?_)
  ·obtain ⟨p,hp,rfl⟩:=List.mem_map.1 ht;exact (hi p hp).1
  ·obtain ⟨p,hp,rfl⟩:=List.mem_map.1 hv;exact (hi p hp).2
 have h:=put h1 hx ix;rw [e,put h2 hy iy] at h;injection h with h
 injection h with e1 e2
 have zip:∀ z:List Smpl,(tsOf z).zip (vsOf z)=z:=fun z=>by
  induction z with
  | nil=>rfl
  | cons p z ih=>simpa using ih
 rw [← zip x,← zip y,e1,e2]
theorem flat_inj:∀ {l m:List (List Nat)} {r s:List Nat},l.map List.length=m.map List.length→l.flatten++r=m.flatten++s→l=m∧r=s
 | [],[],_,_,_,e=>⟨rfl,by simpa using e⟩
 | [],y::m,_,_,h,_=>by simp at h
 | x::l,[],_,_,h,_=>by simp at h
 | x::l,y::m,r,s,h,e=>by
  simp only [List.map_cons,List.cons.injEq] at h;simp only [List.flatten_cons,List.append_assoc] at e;obtain ⟨h1,h2⟩:=h;obtain ⟨e1,e2⟩:=List.append_inj e h1;obtain ⟨e3,e4⟩:=flat_inj h2 e2;rw [e1,e3];exact ⟨rfl,e4⟩
theorem map_inj_on {α β:Type} {f:α→β}:∀ {l m:List α},(∀ x∈l,∀ y∈m,f x=f y→x=y)→l.map f=m.map f→l=m
 | [],[],_,_=>rfl
 | [],y::m,_,e=>by simp at e
 | x::l,[],_,e=>by simp at e
 | x::l,y::m,h,e=>by
  simp only [List.map_cons,List.cons.injEq] at e;rw [h x List.mem_cons_self y List.mem_cons_self e.1,map_inj_on (fun a ha b hb=>h a (List.mem_cons_of_mem _ ha) b (List.mem_cons_of_mem _ hb)) e.2]
theorem chunksL_inj {x y:List Smpl} (ix:InS x) (iy:InS y) (e:chunksL x=chunksL y):x=y:=by
 have:partsL x=partsL y:=map_inj_on (fun a ha b hb h=>by
  have h1:=partsL_mem ha;have h2:=partsL_mem hb;exact chunkB_inj (List.length_pos_iff.1 h1.1) (List.length_pos_iff.1 h2.1) h1.2.1 h2.2.1 (ix.part ha) (iy.part hb) h) e
 rw [← partsL_flat x,← partsL_flat y,this]
theorem datS_inj:∀ {l m:List BVal} {r s:List Nat},(∀ x∈l,InS x.2)→(∀ x∈m,InS x.2)→l.map recV=m.map recV→datS l++r=datS m++s→l=m
 | [],[],_,_,_,_,_,_=>rfl
 | [],y::m,_,_,_,_,h,_=>by simp at h
 | x::l,[],_,_,_,_,h,_=>by simp at h
 | x::l,y::m,r,s,h1,h2,h,e=>by
  simp only [List.map_cons,List.cons.injEq] at h;obtain ⟨h,h'⟩:=h;injection h with ha hb
  unfold datS at e;simp only [List.flatMap_cons,List.append_assoc] at e;obtain ⟨e1,e2⟩:=flat_inj hb e;rw [datS_inj (fun z hz=>h1 z (List.mem_cons_of_mem _ hz)) (fun z hz=>h2 z (List.mem_cons_of_mem _ hz)) h' e2,Prod.ext ha (chunksL_inj (h1 x List.mem_cons_self) (h2 y List.mem_cons_self) e1)]
theorem fileB_inj {a b:List BVal} (ha:BlkV a) (hb:BlkV b) (fa:FewV a) (fb:FewV b) (e:fileB a=fileB b):a=b:=by
 obtain ⟨_,_,_,_,sa0,sa1,sa2,_⟩:=secs_ok ha fa;obtain ⟨_,_,_,_,sb0,sb1,sb2,_⟩:=secs_ok hb fb;unfold fileB at e;obtain ⟨e0,e1,e2⟩:=fileOf_inj (by omega) (by omega) (by omega) (by omega) (by omega) (by omega) e;have ta:=ha.tbl fa;have hT:symT (labsV a)=symT (labsV b):=symEnc_inj ta (hb.tbl fb) e0;have na:=fa.n;have nb:=fb.n;have hr:a.map recV=b.map recV:=by
  refine recEnc_inj (t:=symT (labsV a)) ta.1 (by rw [List.length_map];omega) (by rw [List.length_map];omega) (fun x hx=>?_) (fun x hx=>?_) ?_
  ·obtain ⟨v,hv,rfl⟩:=List.mem_map.1 hx;exact ha.rc fa hv
  ·obtain ⟨v,hv,rfl⟩:=List.mem_map.1 hx;rw [hT];exact hb.rc fb hv
  ·have e1':recEnc (symT (labsV a)) (a.map recV)=recEnc (symT (labsV b)) (b.map recV):=e1;rw [e1',hT]
 exact datS_inj (r:=[]) (s:=[]) ha.ok hb.ok hr (by rw [e2])
end
end Go.Proofs.YticphebaflnedaaGreatDoor
