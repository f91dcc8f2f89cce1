/- Laws that the last text builds on. -/
import Derived.Test.YticphebaflnedaaGreatDoorD9
namespace Go.Proofs.YticphebaflnedaaGreatDoor
open Go.Lib(hid)
section
open Go Go.RowKit Go.Sort Go.Shelf
section
variable {α:Type} [Inhabited α] {f h:α→Value} {w0:World} {blk:Nat} {d0:Array α}
set_option maxHeartbeats 8000000 in
set_option maxRecDepth 1000000 in
theorem symMergeCS_any (cf:α→α→Int) (hO:SWO (ltOf cf)) (hcmp:CmpLays Tryz.prog 167 #[] (enc2 f h) 2 cf blk 0 d0.size w0) (eg:∀ args w,(callFunc 167 args).run Tryz.prog w=.ok (.enter 167 args) w) (R:RowK (enc2 f h) 2 w0 blk 0 d0) (N:Nat) (hN:d0.size=N) (hM:N≤1000000000000) (cap:Nat) (K:Nat) (ih:∀ (a m b:Nat) (d:Array α) (w:World),b - a≤K→d.size=N→SWK (enc2 f h) 2 w0 blk 0 d w→a < m→m < b→b≤N→SortedIn (ltOf cf) a m d→SortedIn (ltOf cf) m b d→Calls Tryz.prog 296 #[.slice (some ⟨blk,0,none⟩) N cap,.int .i64 (a:Int),.int .i64 (m:Int),.int .i64 (b:Int),.func (.func 167) #[] #[]] w fun e w'=>e=.returned (.tuple #[])∧∃ d',(PermIn a b d d'∧SortedIn (ltOf cf) a b d')∧SWK (enc2 f h) 2 w0 blk 0 d' w') (a m b:Nat) (d:Array α) (w:World) (hs:d.size=N) (S:SWK (enc2 f h) 2 w0 blk 0 d w) (ham:a < m) (hmb:m < b) (hb:b≤N) (hU:SortedIn (ltOf cf) a m d) (hV:SortedIn (ltOf cf) m b d) (hA1:¬ m≤a+1) (hB1:¬ b≤m+1) (mid:Nat) (m1:2*mid≤a+b) (m2:a+b < 2*mid+2) (hK:b - a≤K+1) (hbig:mid < m) :
  Calls Tryz.prog 296 #[.slice (some ⟨blk,0,none⟩) N cap,.int .i64 (a:Int),.int .i64 (m:Int),.int .i64 (b:Int),.func (.func 167) #[] #[]] w fun e w'=>e=.returned (.tuple #[])∧∃ d',(PermIn a b d d'∧SortedIn (ltOf cf) a b d')∧SWK (enc2 f h) 2 w0 blk 0 d' w':=by
 have HIH:=hid ih;clear ih;have S0:Aside (SWK (enc2 f h) 2 w0 blk 0 d w):=S;have HN:=hid hN;have HC:Aside _:=hcmp;have HOr:=hid hO;have HU:=hid hU;have HV:=hid hV;clear S hN hcmp hO hU hV;have mixed:Tryz.prog.follows .mixedOrders=true:=by kernel_rfl
 have hN0:d.size=d0.size:=by rw [HN.out,hs]
 have k1:IntKind.i64.wrap ((m:Int) - (a:Int))=(m:Int) - (a:Int):=by rw [IntKind.wrap_i64];omega
 have k2:IntKind.i64.wrap ((b:Int) - (m:Int))=(b:Int) - (m:Int):=by rw [IntKind.wrap_i64];omega
 have _:=ham;have _:=hmb;have g1:(((m:Int) - (a:Int)) == 1)=false:=by rw [beq_eq_false_iff_ne];omega
 have g2:(((b:Int) - (m:Int)) == 1)=false:=by rw [beq_eq_false_iff_ne];omega
 have m3:((a:Int)+(b:Int)) / 2=(mid:Int):=by omega
 have m4:IntKind.i64.wrap ((a:Int)+(b:Int))=(a:Int)+(b:Int):=by rw [IntKind.wrap_i64];omega
 have m5:IntKind.u64.wrap ((a:Int)+(b:Int))=(a:Int)+(b:Int):=by rw [IntKind.wrap_u64];omega
 have m6:IntKind.i64.wrap ((mid:Int)+(m:Int))=(mid:Int)+(m:Int):=by rw [IntKind.wrap_i64];omega
 have m7:IntKind.i64.wrap ((mid:Int)+(m:Int) - 1)=(mid:Int)+(m:Int) - 1:=by rw [IntKind.wrap_i64];omega
 have hbz:(mid:Int) < (m:Int):=by omega
 have m8:IntKind.i64.wrap ((mid:Int)+(m:Int) - (b:Int))=(mid:Int)+(m:Int) - (b:Int):=by rw [IntKind.wrap_i64];omega
 obtain ⟨lo,hlo⟩:∃ lo,lo=mid+m - b:=⟨_,rfl⟩;have l1:lo+b=mid+m:=by omega
 clear hlo;go_enter Tryz.func296,Tryz.ntmps296
 go_wp2;go_loopw [20,21] (fun s20 s21 wr=>∃ (i j:Nat),s20=.int .i64 i∧s21=.int .i64 j∧lo≤i∧i≤j∧j≤mid∧Aside (SWK (enc2 f h) 2 w0 blk 0 d wr)∧Hid (i=lo∨(lo < i∧ltOf cf d[mid+m - i]! d[i - 1]! = false))∧Hid (j=mid∨ltOf cf d[mid+m - 1 - j]! d[j]! = true)) (fun s20 s21 _=>(intOf s21).toNat - (intOf s20).toNat)
 case atStart=>exact ⟨lo,mid,by first | rfl | (congr 1;omega),rfl,Nat.le_refl _,by omega,Nat.le_refl _,S0,hid (.inl rfl),hid (.inl rfl)⟩
 case round =>
  clear S0 k1 k2 g1 g2 m3 m4 m5 m6 m7 hbz m8;obtain ⟨i,j,rfl,rfl,hi,hij,hj,S1,HI,HJ⟩:=hrel;by_cases hlt:i < j
  ·have hltz:(i:Int) < (j:Int):=by omega
   obtain ⟨q,hq⟩:∃ q,(i+j) / 2=q:=⟨_,rfl⟩;have q1:2*q≤i+j:=by omega
   have q2:i+j < 2*q+2:=by omega
   have k3:IntKind.i64.wrap ((i:Int)+(j:Int))=(i:Int)+(j:Int):=by rw [IntKind.wrap_i64];omega
   have k4:IntKind.u64.wrap ((i:Int)+(j:Int))=(i:Int)+(j:Int):=by rw [IntKind.wrap_u64];omega
   have k5:((i:Int)+(j:Int)) / 2=(q:Int):=by omega
   clear hq;obtain ⟨p,hp⟩:∃ p,p=mid+m - 1 - q:=⟨_,rfl⟩;have p1:p+q+1=mid+m:=by omega
   have p2:(mid:Int)+(m:Int) - 1 - (q:Int)=(p:Int):=by omega
   have p3:IntKind.i64.wrap ((mid:Int)+(m:Int) - 1 - (q:Int))=(p:Int):=by rw [IntKind.wrap_i64];omega
   cases hlv:ltOf cf d[p]! d[q]! with
   | false =>
    have HL:=hid (show ltOf cf d[mid+m - (q+1)]! d[q+1 - 1]! = false by rw [Nat.add_sub_cancel,show mid+m - (q+1)=p by omega];exact hlv);clear hp;have ea:((p:Int):Int).toNat=p:=by omega
    have pa:(0:Int)≤(p:Int):=by omega
    have ba:(p:Int) < (N:Int):=by omega
    have ra:IntKind.i64.wrap ((p:Int))=(p:Int):=by rw [IntKind.wrap_i64];omega
    have ec:((q:Int):Int).toNat=q:=by omega
    have pc:(0:Int)≤(q:Int):=by omega
    have bc:(q:Int) < (N:Int):=by omega
    have rc:IntKind.i64.wrap ((q:Int))=(q:Int):=by rw [IntKind.wrap_i64];omega
    obtain ⟨X,hX⟩:∃ x,x=d[p]!:=⟨_,rfl⟩;obtain ⟨Y,hY⟩:∃ x,x=d[q]!:=⟨_,rfl⟩;have xa:=fun n os=>(at2 (S1.out.grown n os) R (by omega) (p) (by omega)).1
    have xb:=fun n os=>(at2 (S1.out.grown n os) R (by omega) (p) (by omega)).2.1
    have ya:=fun n os=>(at2 (S1.out.grown n os) R (by omega) (q) (by omega)).1
    have yb:=fun n os=>(at2 (S1.out.grown n os) R (by omega) (q) (by omega)).2.1
    rw [← hX] at xa xb;rw [← hY] at ya yb;have hc:=S1.out.cmp HC.out (by omega) X Y;simp only [enc2,Array.append_empty] at hc;have hv:¬ cf X Y < 0:=by rw [hX,hY];exact of_decide_eq_false hlv
    have hd:decide (cf X Y < 0)=false:=decide_eq_false hv;clear hX hY hlv;generalize f X=va at xa hc;generalize h X=vb at xb hc;generalize f Y=vc at ya hc;generalize h Y=vd at yb hc;generalize cf X Y=cv at hc hv hd;go_wp2_with fail
    go_quiet_grown (first | (go_at_fn 167;refine Calls.grown_of (hc _ _)))
    have S2:Aside (SWK (enc2 f h) 2 w0 blk 0 d (grow (wr.drewN nq) osq)):=S1.out.grown nq osq;clear xa xb ya yb hc S1;generalize grow (wr.drewN nq) osq=w2 at S2 ⊢;clear nq osq hv hd ea pa ba ra ec pc bc rc;go_wp2;go_roundw
    case rel=>exact ⟨q+1,j,by go_num,rfl,by omega,by omega,hj,S2,hid (.inr ⟨by omega,HL.out⟩),HJ⟩
    case measure=>simp [intOf];omega
   | true =>
    have HL:=hid (show ltOf cf d[mid+m - 1 - q]! d[q]! = true by rw [← hp];exact hlv);clear hp;have ea:((p:Int):Int).toNat=p:=by omega
    have pa:(0:Int)≤(p:Int):=by omega
    have ba:(p:Int) < (N:Int):=by omega
    have ra:IntKind.i64.wrap ((p:Int))=(p:Int):=by rw [IntKind.wrap_i64];omega
    have ec:((q:Int):Int).toNat=q:=by omega
    have pc:(0:Int)≤(q:Int):=by omega
    have bc:(q:Int) < (N:Int):=by omega
    have rc:IntKind.i64.wrap ((q:Int))=(q:Int):=by rw [IntKind.wrap_i64];omega
    obtain ⟨X,hX⟩:∃ x,x=d[p]!:=⟨_,rfl⟩;obtain ⟨Y,hY⟩:∃ x,x=d[q]!:=⟨_,rfl⟩;have xa:=fun n os=>(at2 (S1.out.grown n os) R (by omega) (p) (by omega)).1
    have xb:=fun n os=>(at2 (S1.out.grown n os) R (by omega) (p) (by omega)).2.1
    have ya:=fun n os=>(at2 (S1.out.grown n os) R (by omega) (q) (by omega)).1
    have yb:=fun n os=>(at2 (S1.out.grown n os) R (by omega) (q) (by omega)).2.1
    rw [← hX] at xa xb;rw [← hY] at ya yb;have hc:=S1.out.cmp HC.out (by omega) X Y;simp only [enc2,Array.append_empty] at hc;have hv:cf X Y < 0:=by rw [hX,hY];exact of_decide_eq_true hlv
    have hd:decide (cf X Y < 0)=true:=decide_eq_true hv;clear hX hY hlv;generalize f X=va at xa hc;generalize h X=vb at xb hc;generalize f Y=vc at ya hc;generalize h Y=vd at yb hc;generalize cf X Y=cv at hc hv hd;go_wp2_with fail
    go_quiet_grown (first | (go_at_fn 167;refine Calls.grown_of (hc _ _)))
    have S2:Aside (SWK (enc2 f h) 2 w0 blk 0 d (grow (wr.drewN nq) osq)):=S1.out.grown nq osq;clear xa xb ya yb hc S1;generalize grow (wr.drewN nq) osq=w2 at S2 ⊢;clear nq osq hv hd ea pa ba ra ec pc bc rc;go_wp2;go_roundw
    case rel=>exact ⟨i,q,rfl,rfl,hi,by omega,by omega,S2,HI,hid (.inr HL.out)⟩
    case measure=>simp [intOf];omega
  ·have hltz:¬ (i:Int) < (j:Int):=by omega
   obtain ⟨s,hs1⟩:∃ s,s=i:=⟨_,rfl⟩;obtain rfl:i=j:=by omega
   rw [← hs1] at HI HJ hi hj hltz ⊢;clear hs1 hlt hij;obtain ⟨e,he⟩:∃ e,e=mid+m - s:=⟨_,rfl⟩;have n1:e+s=mid+m:=by omega
   have n2:(mid:Int)+(m:Int) - (s:Int)=(e:Int):=by omega
   have n3:IntKind.i64.wrap ((mid:Int)+(m:Int) - (s:Int))=(e:Int):=by rw [IntKind.wrap_i64];omega
   have HA:Hid (s=a∨e=b∨ltOf cf d[e]! d[s - 1]! = false):=hid (by
    rcases HI.out with h1 | ⟨_,h1⟩
    ·exact .inr (.inl (by omega))
    ·exact .inr (.inr (by rw [he];exact h1)))
   have HB:Hid (s=m∨e=m∨ltOf cf d[s]! d[e - 1]! = false):=hid (by
    rcases HJ.out with h1 | h1
    ·exact .inr (.inl (by omega))
    ·exact .inr (.inr (HOr.out.asymmA (by rw [show e - 1=mid+m - 1 - s by omega];exact h1))))
   clear he HI HJ;by_cases x1:s < m
   ·by_cases x2:m < e
    ·by_cases x3:a < s
     ·by_cases x4:e < b
      ·skip
       have z1:(s:Int) < (m:Int):=by omega
       have z2:(m:Int) < (e:Int):=by omega
       have z3:(a:Int) < (s:Int):=by omega
       have z4:(s:Int) < (mid:Int):=by omega
       have z5:(mid:Int) < (e:Int):=by omega
       have z6:(e:Int) < (b:Int):=by omega
       have hrot:=rotateS_any R N HN.out hM 167 s m e cap d wr hs S1.out (by omega) (by omega) (by omega);go_wp2_with (go_at_call 328;refine hrot.mono ?_;rintro e w2 ⟨rfl,d1,hR,S2⟩)
       replace S2:Aside _:=S2
       have HRo:=hid hR;have z7:d1.size=N:=hR.perm.1.trans hs;have hP:=rot_parts HU.out HV.out (by omega) (by omega) (by omega) (by omega) hR;have hm:mid=s+(e - m):=by omega
       rw [← hm] at hP;have hl:=HIH.out a s mid d1 w2 (by omega) z7 S2.out (by omega) (by omega) (by omega) hP.1 hP.2.1;have HP:=hid hP;clear hP hR hm;go_wp2_with (go_at_call_has 296 (Value.int IntKind.i64 (a:Int));refine hl.mono ?_;rintro e w3 ⟨rfl,d2,⟨p2,s2⟩,S3⟩)
       replace S3:Aside _:=S3
       have z8:d2.size=N:=p2.1.trans z7;have P2:=hid (And.intro p2 s2);have hq3:=SortedIn.same HP.out.2.2.1 p2 (.inr (Nat.le_refl _));have hq4:=SortedIn.same HP.out.2.2.2 p2 (.inr (by omega));clear p2 s2;have hl2:=HIH.out mid e b d2 w3 (by omega) z8 S3.out (by omega) (by omega) (by omega) hq3 hq4;clear hq3 hq4;go_wp2_with (go_at_call 296;refine hl2.mono ?_;rintro e w4 ⟨rfl,d3,⟨p3,s3⟩,S4⟩)
       go_end0
       have S4:Aside _:=S4;exact ⟨rfl,d3,mer_of HU.out HV.out (by omega) (by omega) (by omega) (by omega) HRo.out HOr.out (by omega) HA.out HB.out (by omega) P2.out.1 P2.out.2 p3 s3,S4.out⟩
      ·skip
       have z1:(s:Int) < (m:Int):=by omega
       have z2:(m:Int) < (e:Int):=by omega
       have z3:(a:Int) < (s:Int):=by omega
       have z4:(s:Int) < (mid:Int):=by omega
       have z5:(mid:Int) < (e:Int):=by omega
       have z6:¬ (e:Int) < (b:Int):=by omega
       have hrot:=rotateS_any R N HN.out hM 167 s m e cap d wr hs S1.out (by omega) (by omega) (by omega);go_wp2_with (go_at_call 328;refine hrot.mono ?_;rintro e w2 ⟨rfl,d1,hR,S2⟩)
       replace S2:Aside _:=S2
       have HRo:=hid hR;have z7:d1.size=N:=hR.perm.1.trans hs;have hP:=rot_parts HU.out HV.out (by omega) (by omega) (by omega) (by omega) hR;have hm:mid=s+(e - m):=by omega
       rw [← hm] at hP;have hl:=HIH.out a s mid d1 w2 (by omega) z7 S2.out (by omega) (by omega) (by omega) hP.1 hP.2.1;have HP:=hid hP;clear hP hR hm;go_wp2_with (go_at_call_has 296 (Value.int IntKind.i64 (a:Int));refine hl.mono ?_;rintro e w3 ⟨rfl,d2,⟨p2,s2⟩,S3⟩)
       replace S3:Aside _:=S3
       have z8:d2.size=N:=p2.1.trans z7;have P2:=hid (And.intro p2 s2);have hq3:=SortedIn.same HP.out.2.2.1 p2 (.inr (Nat.le_refl _));have hq4:=SortedIn.same HP.out.2.2.2 p2 (.inr (by omega));clear p2 s2;have s3:SortedIn (ltOf cf) mid b d2:=by
        have e1:b=e:=by omega
        rw [e1];exact hq3
       clear hq3 hq4;go_wp2;go_end0
       exact ⟨rfl,d2,mer_of HU.out HV.out (by omega) (by omega) (by omega) (by omega) HRo.out HOr.out (by omega) HA.out HB.out (by omega) P2.out.1 P2.out.2 (permIn_refl _ _ _) s3,S3.out⟩
     ·by_cases x4:e < b
      ·skip
       have z1:(s:Int) < (m:Int):=by omega
       have z2:(m:Int) < (e:Int):=by omega
       have z3:¬ (a:Int) < (s:Int):=by omega
       have z4:(s:Int) < (mid:Int):=by omega
       have z5:(mid:Int) < (e:Int):=by omega
       have z6:(e:Int) < (b:Int):=by omega
       have hrot:=rotateS_any R N HN.out hM 167 s m e cap d wr hs S1.out (by omega) (by omega) (by omega);go_wp2_with (go_at_call 328;refine hrot.mono ?_;rintro e w2 ⟨rfl,d1,hR,S2⟩)
       replace S2:Aside _:=S2
       have HRo:=hid hR;have z7:d1.size=N:=hR.perm.1.trans hs;have hP:=rot_parts HU.out HV.out (by omega) (by omega) (by omega) (by omega) hR;have hm:mid=s+(e - m):=by omega
       rw [← hm] at hP;have s2:SortedIn (ltOf cf) a mid d1:=by
        have h:=hP.2.1;have e1:a=s:=by omega
        rw [← e1] at h;exact h
       have HP:=hid hP;clear hP hR hm;have p2:=permIn_refl d1 a mid;have S3:=S2;obtain ⟨w3,hw3⟩:∃ w3,w2=w3:=⟨_,rfl⟩;rw [hw3] at S3 ⊢;clear hw3;obtain ⟨d2,hd2⟩:∃ d2,d2=d1:=⟨_,rfl⟩;rw [← hd2] at S3 s2;replace p2:PermIn a mid d1 d2:=by rw [hd2];exact p2
       clear hd2;go_wp2_with fail;have z8:d2.size=N:=p2.1.trans z7;have P2:=hid (And.intro p2 s2);have hq3:=SortedIn.same HP.out.2.2.1 p2 (.inr (Nat.le_refl _));have hq4:=SortedIn.same HP.out.2.2.2 p2 (.inr (by omega));clear p2 s2;have hl2:=HIH.out mid e b d2 w3 (by omega) z8 S3.out (by omega) (by omega) (by omega) hq3 hq4;clear hq3 hq4;go_wp2_with (go_at_call 296;refine hl2.mono ?_;rintro e w4 ⟨rfl,d3,⟨p3,s3⟩,S4⟩)
       go_end0
       have S4:Aside _:=S4;exact ⟨rfl,d3,mer_of HU.out HV.out (by omega) (by omega) (by omega) (by omega) HRo.out HOr.out (by omega) HA.out HB.out (by omega) P2.out.1 P2.out.2 p3 s3,S4.out⟩
      ·skip
       have z1:(s:Int) < (m:Int):=by omega
       have z2:(m:Int) < (e:Int):=by omega
       have z3:¬ (a:Int) < (s:Int):=by omega
       have z4:(s:Int) < (mid:Int):=by omega
       have z5:(mid:Int) < (e:Int):=by omega
       have z6:¬ (e:Int) < (b:Int):=by omega
       have hrot:=rotateS_any R N HN.out hM 167 s m e cap d wr hs S1.out (by omega) (by omega) (by omega);go_wp2_with (go_at_call 328;refine hrot.mono ?_;rintro e w2 ⟨rfl,d1,hR,S2⟩)
       replace S2:Aside _:=S2
       have HRo:=hid hR;have z7:d1.size=N:=hR.perm.1.trans hs;have hP:=rot_parts HU.out HV.out (by omega) (by omega) (by omega) (by omega) hR;have hm:mid=s+(e - m):=by omega
       rw [← hm] at hP;have s2:SortedIn (ltOf cf) a mid d1:=by
        have h:=hP.2.1;have e1:a=s:=by omega
        rw [← e1] at h;exact h
       have HP:=hid hP;clear hP hR hm;have p2:=permIn_refl d1 a mid;have S3:=S2;obtain ⟨w3,hw3⟩:∃ w3,w2=w3:=⟨_,rfl⟩;rw [hw3] at S3 ⊢;clear hw3;obtain ⟨d2,hd2⟩:∃ d2,d2=d1:=⟨_,rfl⟩;rw [← hd2] at S3 s2;replace p2:PermIn a mid d1 d2:=by rw [hd2];exact p2
       clear hd2;go_wp2_with fail;have z8:d2.size=N:=p2.1.trans z7;have P2:=hid (And.intro p2 s2);have hq3:=SortedIn.same HP.out.2.2.1 p2 (.inr (Nat.le_refl _));have hq4:=SortedIn.same HP.out.2.2.2 p2 (.inr (by omega));clear p2 s2;have s3:SortedIn (ltOf cf) mid b d2:=by
        have e1:b=e:=by omega
        rw [e1];exact hq3
       clear hq3 hq4;go_wp2;go_end0
       exact ⟨rfl,d2,mer_of HU.out HV.out (by omega) (by omega) (by omega) (by omega) HRo.out HOr.out (by omega) HA.out HB.out (by omega) P2.out.1 P2.out.2 (permIn_refl _ _ _) s3,S3.out⟩
    ·skip
     have x3:a < s:=by omega
     have x4:e < b:=by omega
     have z1:(s:Int) < (m:Int):=by omega
     have z2:¬ (m:Int) < (e:Int):=by omega
     have z3:(a:Int) < (s:Int):=by omega
     have z4:¬ (s:Int) < (mid:Int):=by omega
     have z5:(mid:Int) < (e:Int):=by omega
     have z6:(e:Int) < (b:Int):=by omega
     go_wp2_with fail;have hR:Rot d s m e d:=Rot.none (by omega) (by omega) (by omega);have S2:=S1;obtain ⟨w2,hw2⟩:∃ w2,wr=w2:=⟨_,rfl⟩;rw [hw2] at S2 ⊢;clear hw2;obtain ⟨d1,hd1⟩:∃ d1,d=d1:=⟨_,rfl⟩;rw [hd1] at S2;replace hR:Rot d s m e d1:=by rw [← hd1];exact hR
     clear hd1;have HRo:=hid hR;have z7:d1.size=N:=hR.perm.1.trans hs;have hP:=rot_parts HU.out HV.out (by omega) (by omega) (by omega) (by omega) hR;have hm:mid=s+(e - m):=by omega
     rw [← hm] at hP;have s2:SortedIn (ltOf cf) a mid d1:=by
      have h:=hP.1;have e1:s=mid:=by omega
      rw [e1] at h;exact h
     have HP:=hid hP;clear hP hR hm;have p2:=permIn_refl d1 a mid;have S3:=S2;obtain ⟨w3,hw3⟩:∃ w3,w2=w3:=⟨_,rfl⟩;rw [hw3] at S3 ⊢;clear hw3;obtain ⟨d2,hd2⟩:∃ d2,d2=d1:=⟨_,rfl⟩;rw [← hd2] at S3 s2;replace p2:PermIn a mid d1 d2:=by rw [hd2];exact p2
     clear hd2;go_wp2_with fail;have z8:d2.size=N:=p2.1.trans z7;have P2:=hid (And.intro p2 s2);have hq3:=SortedIn.same HP.out.2.2.1 p2 (.inr (Nat.le_refl _));have hq4:=SortedIn.same HP.out.2.2.2 p2 (.inr (by omega));clear p2 s2;have hl2:=HIH.out mid e b d2 w3 (by omega) z8 S3.out (by omega) (by omega) (by omega) hq3 hq4;clear hq3 hq4;go_wp2_with (go_at_call 296;refine hl2.mono ?_;rintro e w4 ⟨rfl,d3,⟨p3,s3⟩,S4⟩)
     go_end0
     have S4:Aside _:=S4;exact ⟨rfl,d3,mer_of HU.out HV.out (by omega) (by omega) (by omega) (by omega) HRo.out HOr.out (by omega) HA.out HB.out (by omega) P2.out.1 P2.out.2 p3 s3,S4.out⟩
   ·exfalso;omega
end
end
section
open Go Go.RowKit Go.Sort Go.Shelf
section
variable {α:Type} [Inhabited α] {f h:α→Value} {w0:World} {blk:Nat} {d0:Array α}
set_option maxHeartbeats 8000000 in
set_option maxRecDepth 1000000 in
theorem symMergeDS_any (cf:α→α→Int) (hO:SWO (ltOf cf)) (hcmp:CmpLays Tryz.prog 167 #[] (enc2 f h) 2 cf blk 0 d0.size w0) (eg:∀ args w,(callFunc 167 args).run Tryz.prog w=.ok (.enter 167 args) w) (R:RowK (enc2 f h) 2 w0 blk 0 d0) (N:Nat) (hN:d0.size=N) (hM:N≤1000000000000) (cap:Nat) (K:Nat) (ih:∀ (a m b:Nat) (d:Array α) (w:World),b - a≤K→d.size=N→SWK (enc2 f h) 2 w0 blk 0 d w→a < m→m < b→b≤N→SortedIn (ltOf cf) a m d→SortedIn (ltOf cf) m b d→Calls Tryz.prog 296 #[.slice (some ⟨blk,0,none⟩) N cap,.int .i64 (a:Int),.int .i64 (m:Int),.int .i64 (b:Int),.func (.func 167) #[] #[]] w fun e w'=>e=.returned (.tuple #[])∧∃ d',(PermIn a b d d'∧SortedIn (ltOf cf) a b d')∧SWK (enc2 f h) 2 w0 blk 0 d' w') (a m b:Nat) (d:Array α) (w:World) (hs:d.size=N) (S:SWK (enc2 f h) 2 w0 blk 0 d w) (ham:a < m) (hmb:m < b) (hb:b≤N) (hU:SortedIn (ltOf cf) a m d) (hV:SortedIn (ltOf cf) m b d) (hA1:¬ m≤a+1) (hB1:¬ b≤m+1) (mid:Nat) (m1:2*mid≤a+b) (m2:a+b < 2*mid+2) (hK:b - a≤K+1) (hbig:¬ mid < m) :
  Calls Tryz.prog 296 #[.slice (some ⟨blk,0,none⟩) N cap,.int .i64 (a:Int),.int .i64 (m:Int),.int .i64 (b:Int),.func (.func 167) #[] #[]] w fun e w'=>e=.returned (.tuple #[])∧∃ d',(PermIn a b d d'∧SortedIn (ltOf cf) a b d')∧SWK (enc2 f h) 2 w0 blk 0 d' w':=by
 have HIH:=hid ih;clear ih;have S0:Aside (SWK (enc2 f h) 2 w0 blk 0 d w):=S;have HN:=hid hN;have HC:Aside _:=hcmp;have HOr:=hid hO;have HU:=hid hU;have HV:=hid hV;clear S hN hcmp hO hU hV;have mixed:Tryz.prog.follows .mixedOrders=true:=by kernel_rfl
 have hN0:d.size=d0.size:=by rw [HN.out,hs]
 have k1:IntKind.i64.wrap ((m:Int) - (a:Int))=(m:Int) - (a:Int):=by rw [IntKind.wrap_i64];omega
 have k2:IntKind.i64.wrap ((b:Int) - (m:Int))=(b:Int) - (m:Int):=by rw [IntKind.wrap_i64];omega
 have _:=ham;have _:=hmb;have g1:(((m:Int) - (a:Int)) == 1)=false:=by rw [beq_eq_false_iff_ne];omega
 have g2:(((b:Int) - (m:Int)) == 1)=false:=by rw [beq_eq_false_iff_ne];omega
 have m3:((a:Int)+(b:Int)) / 2=(mid:Int):=by omega
 have m4:IntKind.i64.wrap ((a:Int)+(b:Int))=(a:Int)+(b:Int):=by rw [IntKind.wrap_i64];omega
 have m5:IntKind.u64.wrap ((a:Int)+(b:Int))=(a:Int)+(b:Int):=by rw [IntKind.wrap_u64];omega
 have m6:IntKind.i64.wrap ((mid:Int)+(m:Int))=(mid:Int)+(m:Int):=by rw [IntKind.wrap_i64];omega
 have m7:IntKind.i64.wrap ((mid:Int)+(m:Int) - 1)=(mid:Int)+(m:Int) - 1:=by rw [IntKind.wrap_i64];omega
 have hbz:¬ (mid:Int) < (m:Int):=by omega
 go_enter Tryz.func296,Tryz.ntmps296
 go_wp2;go_loopw [20,21] (fun s20 s21 wr=>∃ (i j:Nat),s20=.int .i64 i∧s21=.int .i64 j∧a≤i∧i≤j∧j≤m∧Aside (SWK (enc2 f h) 2 w0 blk 0 d wr)∧Hid (i=a∨(a < i∧ltOf cf d[mid+m - i]! d[i - 1]! = false))∧Hid (j=m∨ltOf cf d[mid+m - 1 - j]! d[j]! = true)) (fun s20 s21 _=>(intOf s21).toNat - (intOf s20).toNat)
 case atStart=>exact ⟨a,m,by first | rfl | (congr 1;omega),rfl,Nat.le_refl _,by omega,Nat.le_refl _,S0,hid (.inl rfl),hid (.inl rfl)⟩
 case round =>
  clear S0 k1 k2 g1 g2 m3 m4 m5 m6 m7 hbz;obtain ⟨i,j,rfl,rfl,hi,hij,hj,S1,HI,HJ⟩:=hrel;by_cases hlt:i < j
  ·have hltz:(i:Int) < (j:Int):=by omega
   obtain ⟨q,hq⟩:∃ q,(i+j) / 2=q:=⟨_,rfl⟩;have q1:2*q≤i+j:=by omega
   have q2:i+j < 2*q+2:=by omega
   have k3:IntKind.i64.wrap ((i:Int)+(j:Int))=(i:Int)+(j:Int):=by rw [IntKind.wrap_i64];omega
   have k4:IntKind.u64.wrap ((i:Int)+(j:Int))=(i:Int)+(j:Int):=by rw [IntKind.wrap_u64];omega
   have k5:((i:Int)+(j:Int)) / 2=(q:Int):=by omega
   clear hq;obtain ⟨p,hp⟩:∃ p,p=mid+m - 1 - q:=⟨_,rfl⟩;have p1:p+q+1=mid+m:=by omega
   have p2:(mid:Int)+(m:Int) - 1 - (q:Int)=(p:Int):=by omega
   have p3:IntKind.i64.wrap ((mid:Int)+(m:Int) - 1 - (q:Int))=(p:Int):=by rw [IntKind.wrap_i64];omega
   cases hlv:ltOf cf d[p]! d[q]! with
   | false =>
    have HL:=hid (show ltOf cf d[mid+m - (q+1)]! d[q+1 - 1]! = false by rw [Nat.add_sub_cancel,show mid+m - (q+1)=p by omega];exact hlv);clear hp;have ea:((p:Int):Int).toNat=p:=by omega
    have pa:(0:Int)≤(p:Int):=by omega
    have ba:(p:Int) < (N:Int):=by omega
    have ra:IntKind.i64.wrap ((p:Int))=(p:Int):=by rw [IntKind.wrap_i64];omega
    have ec:((q:Int):Int).toNat=q:=by omega
    have pc:(0:Int)≤(q:Int):=by omega
    have bc:(q:Int) < (N:Int):=by omega
    have rc:IntKind.i64.wrap ((q:Int))=(q:Int):=by rw [IntKind.wrap_i64];omega
    obtain ⟨X,hX⟩:∃ x,x=d[p]!:=⟨_,rfl⟩;obtain ⟨Y,hY⟩:∃ x,x=d[q]!:=⟨_,rfl⟩;have xa:=fun n os=>(at2 (S1.out.grown n os) R (by omega) (p) (by omega)).1
    have xb:=fun n os=>(at2 (S1.out.grown n os) R (by omega) (p) (by omega)).2.1
    have ya:=fun n os=>(at2 (S1.out.grown n os) R (by omega) (q) (by omega)).1
    have yb:=fun n os=>(at2 (S1.out.grown n os) R (by omega) (q) (by omega)).2.1
    rw [← hX] at xa xb;rw [← hY] at ya yb;have hc:=S1.out.cmp HC.out (by omega) X Y;simp only [enc2,Array.append_empty] at hc;have hv:¬ cf X Y < 0:=by rw [hX,hY];exact of_decide_eq_false hlv
    have hd:decide (cf X Y < 0)=false:=decide_eq_false hv;clear hX hY hlv;generalize f X=va at xa hc;generalize h X=vb at xb hc;generalize f Y=vc at ya hc;generalize h Y=vd at yb hc;generalize cf X Y=cv at hc hv hd;go_wp2_with fail
    go_quiet_grown (first | (go_at_fn 167;refine Calls.grown_of (hc _ _)))
    have S2:Aside (SWK (enc2 f h) 2 w0 blk 0 d (grow (wr.drewN nq) osq)):=S1.out.grown nq osq;clear xa xb ya yb hc S1;generalize grow (wr.drewN nq) osq=w2 at S2 ⊢;clear nq osq hv hd ea pa ba ra ec pc bc rc;go_wp2;go_roundw
    case rel=>exact ⟨q+1,j,by go_num,rfl,by omega,by omega,hj,S2,hid (.inr ⟨by omega,HL.out⟩),HJ⟩
    case measure=>simp [intOf];omega
   | true =>
    have HL:=hid (show ltOf cf d[mid+m - 1 - q]! d[q]! = true by rw [← hp];exact hlv);clear hp;have ea:((p:Int):Int).toNat=p:=by omega
    have pa:(0:Int)≤(p:Int):=by omega
    have ba:(p:Int) < (N:Int):=by omega
    have ra:IntKind.i64.wrap ((p:Int))=(p:Int):=by rw [IntKind.wrap_i64];omega
    have ec:((q:Int):Int).toNat=q:=by omega
    have pc:(0:Int)≤(q:Int):=by omega
    have bc:(q:Int) < (N:Int):=by omega
    have rc:IntKind.i64.wrap ((q:Int))=(q:Int):=by rw [IntKind.wrap_i64];omega
    obtain ⟨X,hX⟩:∃ x,x=d[p]!:=⟨_,rfl⟩;obtain ⟨Y,hY⟩:∃ x,x=d[q]!:=⟨_,rfl⟩;have xa:=fun n os=>(at2 (S1.out.grown n os) R (by omega) (p) (by omega)).1
    have xb:=fun n os=>(at2 (S1.out.grown n os) R (by omega) (p) (by omega)).2.1
    have ya:=fun n os=>(at2 (S1.out.grown n os) R (by omega) (q) (by omega)).1
    have yb:=fun n os=>(at2 (S1.out.grown n os) R (by omega) (q) (by omega)).2.1
    rw [← hX] at xa xb;rw [← hY] at ya yb;have hc:=S1.out.cmp HC.out (by omega) X Y;simp only [enc2,Array.append_empty] at hc;have hv:cf X Y < 0:=by rw [hX,hY];exact of_decide_eq_true hlv
    have hd:decide (cf X Y < 0)=true:=decide_eq_true hv;clear hX hY hlv;generalize f X=va at xa hc;generalize h X=vb at xb hc;generalize f Y=vc at ya hc;generalize h Y=vd at yb hc;generalize cf X Y=cv at hc hv hd;go_wp2_with fail
    go_quiet_grown (first | (go_at_fn 167;refine Calls.grown_of (hc _ _)))
    have S2:Aside (SWK (enc2 f h) 2 w0 blk 0 d (grow (wr.drewN nq) osq)):=S1.out.grown nq osq;clear xa xb ya yb hc S1;generalize grow (wr.drewN nq) osq=w2 at S2 ⊢;clear nq osq hv hd ea pa ba ra ec pc bc rc;go_wp2;go_roundw
    case rel=>exact ⟨i,q,rfl,rfl,hi,by omega,by omega,S2,HI,hid (.inr HL.out)⟩
    case measure=>simp [intOf];omega
  ·have hltz:¬ (i:Int) < (j:Int):=by omega
   obtain ⟨s,hs1⟩:∃ s,s=i:=⟨_,rfl⟩;obtain rfl:i=j:=by omega
   rw [← hs1] at HI HJ hi hj hltz ⊢;clear hs1 hlt hij;obtain ⟨e,he⟩:∃ e,e=mid+m - s:=⟨_,rfl⟩;have n1:e+s=mid+m:=by omega
   have n2:(mid:Int)+(m:Int) - (s:Int)=(e:Int):=by omega
   have n3:IntKind.i64.wrap ((mid:Int)+(m:Int) - (s:Int))=(e:Int):=by rw [IntKind.wrap_i64];omega
   have HA:Hid (s=a∨e=b∨ltOf cf d[e]! d[s - 1]! = false):=hid (by
    rcases HI.out with h1 | ⟨_,h1⟩
    ·exact .inl h1
    ·exact .inr (.inr (by rw [he];exact h1)))
   have HB:Hid (s=m∨e=m∨ltOf cf d[s]! d[e - 1]! = false):=hid (by
    rcases HJ.out with h1 | h1
    ·exact .inl h1
    ·exact .inr (.inr (HOr.out.asymmA (by rw [show e - 1=mid+m - 1 - s by omega];exact h1))))
   clear he HI HJ;by_cases x1:s < m
   ·by_cases x2:m < e
    ·by_cases x3:a < s
     ·by_cases x4:e < b
      ·skip
       have z1:(s:Int) < (m:Int):=by omega
       have z2:(m:Int) < (e:Int):=by omega
       have z3:(a:Int) < (s:Int):=by omega
       have z4:(s:Int) < (mid:Int):=by omega
       have z5:(mid:Int) < (e:Int):=by omega
       have z6:(e:Int) < (b:Int):=by omega
       have hrot:=rotateS_any R N HN.out hM 167 s m e cap d wr hs S1.out (by omega) (by omega) (by omega);go_wp2_with (go_at_call 328;refine hrot.mono ?_;rintro e w2 ⟨rfl,d1,hR,S2⟩)
       replace S2:Aside _:=S2
       have HRo:=hid hR;have z7:d1.size=N:=hR.perm.1.trans hs;have hP:=rot_parts HU.out HV.out (by omega) (by omega) (by omega) (by omega) hR;have hm:mid=s+(e - m):=by omega
       rw [← hm] at hP;have hl:=HIH.out a s mid d1 w2 (by omega) z7 S2.out (by omega) (by omega) (by omega) hP.1 hP.2.1;have HP:=hid hP;clear hP hR hm;go_wp2_with (go_at_call_has 296 (Value.int IntKind.i64 (a:Int));refine hl.mono ?_;rintro e w3 ⟨rfl,d2,⟨p2,s2⟩,S3⟩)
       replace S3:Aside _:=S3
       have z8:d2.size=N:=p2.1.trans z7;have P2:=hid (And.intro p2 s2);have hq3:=SortedIn.same HP.out.2.2.1 p2 (.inr (Nat.le_refl _));have hq4:=SortedIn.same HP.out.2.2.2 p2 (.inr (by omega));clear p2 s2;have hl2:=HIH.out mid e b d2 w3 (by omega) z8 S3.out (by omega) (by omega) (by omega) hq3 hq4;clear hq3 hq4;go_wp2_with (go_at_call 296;refine hl2.mono ?_;rintro e w4 ⟨rfl,d3,⟨p3,s3⟩,S4⟩)
       go_end0
       have S4:Aside _:=S4;exact ⟨rfl,d3,mer_of HU.out HV.out (by omega) (by omega) (by omega) (by omega) HRo.out HOr.out (by omega) HA.out HB.out (by omega) P2.out.1 P2.out.2 p3 s3,S4.out⟩
      ·skip
       have z1:(s:Int) < (m:Int):=by omega
       have z2:(m:Int) < (e:Int):=by omega
       have z3:(a:Int) < (s:Int):=by omega
       have z4:(s:Int) < (mid:Int):=by omega
       have z5:(mid:Int) < (e:Int):=by omega
       have z6:¬ (e:Int) < (b:Int):=by omega
       have hrot:=rotateS_any R N HN.out hM 167 s m e cap d wr hs S1.out (by omega) (by omega) (by omega);go_wp2_with (go_at_call 328;refine hrot.mono ?_;rintro e w2 ⟨rfl,d1,hR,S2⟩)
       replace S2:Aside _:=S2
       have HRo:=hid hR;have z7:d1.size=N:=hR.perm.1.trans hs;have hP:=rot_parts HU.out HV.out (by omega) (by omega) (by omega) (by omega) hR;have hm:mid=s+(e - m):=by omega
       rw [← hm] at hP;have hl:=HIH.out a s mid d1 w2 (by omega) z7 S2.out (by omega) (by omega) (by omega) hP.1 hP.2.1;have HP:=hid hP;clear hP hR hm;go_wp2_with (go_at_call_has 296 (Value.int IntKind.i64 (a:Int));refine hl.mono ?_;rintro e w3 ⟨rfl,d2,⟨p2,s2⟩,S3⟩)
       replace S3:Aside _:=S3
       have z8:d2.size=N:=p2.1.trans z7;have P2:=hid (And.intro p2 s2);have hq3:=SortedIn.same HP.out.2.2.1 p2 (.inr (Nat.le_refl _));have hq4:=SortedIn.same HP.out.2.2.2 p2 (.inr (by omega));clear p2 s2;have s3:SortedIn (ltOf cf) mid b d2:=by
        have e1:b=e:=by omega
        rw [e1];exact hq3
       clear hq3 hq4;go_wp2;go_end0
       exact ⟨rfl,d2,mer_of HU.out HV.out (by omega) (by omega) (by omega) (by omega) HRo.out HOr.out (by omega) HA.out HB.out (by omega) P2.out.1 P2.out.2 (permIn_refl _ _ _) s3,S3.out⟩
     ·by_cases x4:e < b
      ·skip
       have z1:(s:Int) < (m:Int):=by omega
       have z2:(m:Int) < (e:Int):=by omega
       have z3:¬ (a:Int) < (s:Int):=by omega
       have z4:(s:Int) < (mid:Int):=by omega
       have z5:(mid:Int) < (e:Int):=by omega
       have z6:(e:Int) < (b:Int):=by omega
       have hrot:=rotateS_any R N HN.out hM 167 s m e cap d wr hs S1.out (by omega) (by omega) (by omega);go_wp2_with (go_at_call 328;refine hrot.mono ?_;rintro e w2 ⟨rfl,d1,hR,S2⟩)
       replace S2:Aside _:=S2
       have HRo:=hid hR;have z7:d1.size=N:=hR.perm.1.trans hs;have hP:=rot_parts HU.out HV.out (by omega) (by omega) (by omega) (by omega) hR;have hm:mid=s+(e - m):=by omega
       rw [← hm] at hP;have s2:SortedIn (ltOf cf) a mid d1:=by
        have h:=hP.2.1;have e1:a=s:=by omega
        rw [← e1] at h;exact h
       have HP:=hid hP;clear hP hR hm;have p2:=permIn_refl d1 a mid;have S3:=S2;obtain ⟨w3,hw3⟩:∃ w3,w2=w3:=⟨_,rfl⟩;rw [hw3] at S3 ⊢;clear hw3;obtain ⟨d2,hd2⟩:∃ d2,d2=d1:=⟨_,rfl⟩;rw [← hd2] at S3 s2;replace p2:PermIn a mid d1 d2:=by rw [hd2];exact p2
       clear hd2;go_wp2_with fail;have z8:d2.size=N:=p2.1.trans z7;have P2:=hid (And.intro p2 s2);have hq3:=SortedIn.same HP.out.2.2.1 p2 (.inr (Nat.le_refl _));have hq4:=SortedIn.same HP.out.2.2.2 p2 (.inr (by omega));clear p2 s2;have hl2:=HIH.out mid e b d2 w3 (by omega) z8 S3.out (by omega) (by omega) (by omega) hq3 hq4;clear hq3 hq4;go_wp2_with (go_at_call 296;refine hl2.mono ?_;rintro e w4 ⟨rfl,d3,⟨p3,s3⟩,S4⟩)
       go_end0
       have S4:Aside _:=S4;exact ⟨rfl,d3,mer_of HU.out HV.out (by omega) (by omega) (by omega) (by omega) HRo.out HOr.out (by omega) HA.out HB.out (by omega) P2.out.1 P2.out.2 p3 s3,S4.out⟩
      ·skip
       have z1:(s:Int) < (m:Int):=by omega
       have z2:(m:Int) < (e:Int):=by omega
       have z3:¬ (a:Int) < (s:Int):=by omega
       have z4:(s:Int) < (mid:Int):=by omega
       have z5:(mid:Int) < (e:Int):=by omega
       have z6:¬ (e:Int) < (b:Int):=by omega
       have hrot:=rotateS_any R N HN.out hM 167 s m e cap d wr hs S1.out (by omega) (by omega) (by omega);go_wp2_with (go_at_call 328;refine hrot.mono ?_;rintro e w2 ⟨rfl,d1,hR,S2⟩)
       replace S2:Aside _:=S2
       have HRo:=hid hR;have z7:d1.size=N:=hR.perm.1.trans hs;have hP:=rot_parts HU.out HV.out (by omega) (by omega) (by omega) (by omega) hR;have hm:mid=s+(e - m):=by omega
       rw [← hm] at hP;have s2:SortedIn (ltOf cf) a mid d1:=by
        have h:=hP.2.1;have e1:a=s:=by omega
        rw [← e1] at h;exact h
       have HP:=hid hP;clear hP hR hm;have p2:=permIn_refl d1 a mid;have S3:=S2;obtain ⟨w3,hw3⟩:∃ w3,w2=w3:=⟨_,rfl⟩;rw [hw3] at S3 ⊢;clear hw3;obtain ⟨d2,hd2⟩:∃ d2,d2=d1:=⟨_,rfl⟩;rw [← hd2] at S3 s2;replace p2:PermIn a mid d1 d2:=by rw [hd2];exact p2
       clear hd2;go_wp2_with fail;have z8:d2.size=N:=p2.1.trans z7;have P2:=hid (And.intro p2 s2);have hq3:=SortedIn.same HP.out.2.2.1 p2 (.inr (Nat.le_refl _));have hq4:=SortedIn.same HP.out.2.2.2 p2 (.inr (by omega));clear p2 s2;have s3:SortedIn (ltOf cf) mid b d2:=by
        have e1:b=e:=by omega
        rw [e1];exact hq3
       clear hq3 hq4;go_wp2;go_end0
       exact ⟨rfl,d2,mer_of HU.out HV.out (by omega) (by omega) (by omega) (by omega) HRo.out HOr.out (by omega) HA.out HB.out (by omega) P2.out.1 P2.out.2 (permIn_refl _ _ _) s3,S3.out⟩
    ·exfalso;omega
   ·skip
    have x3:a < s:=by omega
    have x4:e < b:=by omega
    by_cases x2:m < e
    ·skip
     have z1:¬ (s:Int) < (m:Int):=by omega
     have z2:(m:Int) < (e:Int):=by omega
     have z3:(a:Int) < (s:Int):=by omega
     have z4:(s:Int) < (mid:Int):=by omega
     have z5:¬ (mid:Int) < (e:Int):=by omega
     have z6:(e:Int) < (b:Int):=by omega
     go_wp2_with fail;have hR:Rot d s m e d:=Rot.none (by omega) (by omega) (by omega);have S2:=S1;obtain ⟨w2,hw2⟩:∃ w2,wr=w2:=⟨_,rfl⟩;rw [hw2] at S2 ⊢;clear hw2;obtain ⟨d1,hd1⟩:∃ d1,d=d1:=⟨_,rfl⟩;rw [hd1] at S2;replace hR:Rot d s m e d1:=by rw [← hd1];exact hR
     clear hd1;have HRo:=hid hR;have z7:d1.size=N:=hR.perm.1.trans hs;have hP:=rot_parts HU.out HV.out (by omega) (by omega) (by omega) (by omega) hR;have hm:mid=s+(e - m):=by omega
     rw [← hm] at hP;have hl:=HIH.out a s mid d1 w2 (by omega) z7 S2.out (by omega) (by omega) (by omega) hP.1 hP.2.1;have HP:=hid hP;clear hP hR hm;go_wp2_with (go_at_call_has 296 (Value.int IntKind.i64 (a:Int));refine hl.mono ?_;rintro e w3 ⟨rfl,d2,⟨p2,s2⟩,S3⟩)
     replace S3:Aside _:=S3
     have z8:d2.size=N:=p2.1.trans z7;have P2:=hid (And.intro p2 s2);have hq3:=SortedIn.same HP.out.2.2.1 p2 (.inr (Nat.le_refl _));have hq4:=SortedIn.same HP.out.2.2.2 p2 (.inr (by omega));clear p2 s2;have s3:SortedIn (ltOf cf) mid b d2:=by
      have e1:e=mid:=by omega
      rw [← e1];exact hq4
     clear hq3 hq4;go_wp2;go_end0
     exact ⟨rfl,d2,mer_of HU.out HV.out (by omega) (by omega) (by omega) (by omega) HRo.out HOr.out (by omega) HA.out HB.out (by omega) P2.out.1 P2.out.2 (permIn_refl _ _ _) s3,S3.out⟩
    ·skip
     have z1:¬ (s:Int) < (m:Int):=by omega
     have z2:¬ (m:Int) < (e:Int):=by omega
     have z3:(a:Int) < (s:Int):=by omega
     have z4:¬ (s:Int) < (mid:Int):=by omega
     have z5:¬ (mid:Int) < (e:Int):=by omega
     have z6:(e:Int) < (b:Int):=by omega
     go_wp2_with fail;have hR:Rot d s m e d:=Rot.none (by omega) (by omega) (by omega);have S2:=S1;obtain ⟨w2,hw2⟩:∃ w2,wr=w2:=⟨_,rfl⟩;rw [hw2] at S2 ⊢;clear hw2;obtain ⟨d1,hd1⟩:∃ d1,d=d1:=⟨_,rfl⟩;rw [hd1] at S2;replace hR:Rot d s m e d1:=by rw [← hd1];exact hR
     clear hd1;have HRo:=hid hR;have z7:d1.size=N:=hR.perm.1.trans hs;have hP:=rot_parts HU.out HV.out (by omega) (by omega) (by omega) (by omega) hR;have hm:mid=s+(e - m):=by omega
     rw [← hm] at hP;have s2:SortedIn (ltOf cf) a mid d1:=by
      have h:=hP.1;have e1:s=mid:=by omega
      rw [e1] at h;exact h
     have HP:=hid hP;clear hP hR hm;have p2:=permIn_refl d1 a mid;have S3:=S2;obtain ⟨w3,hw3⟩:∃ w3,w2=w3:=⟨_,rfl⟩;rw [hw3] at S3 ⊢;clear hw3;obtain ⟨d2,hd2⟩:∃ d2,d2=d1:=⟨_,rfl⟩;rw [← hd2] at S3 s2;replace p2:PermIn a mid d1 d2:=by rw [hd2];exact p2
     clear hd2;go_wp2_with fail;have z8:d2.size=N:=p2.1.trans z7;have P2:=hid (And.intro p2 s2);have hq3:=SortedIn.same HP.out.2.2.1 p2 (.inr (Nat.le_refl _));have hq4:=SortedIn.same HP.out.2.2.2 p2 (.inr (by omega));clear p2 s2;have s3:SortedIn (ltOf cf) mid b d2:=by
      have e1:e=mid:=by omega
      rw [← e1];exact hq4
     clear hq3 hq4;go_wp2;go_end0
     exact ⟨rfl,d2,mer_of HU.out HV.out (by omega) (by omega) (by omega) (by omega) HRo.out HOr.out (by omega) HA.out HB.out (by omega) P2.out.1 P2.out.2 (permIn_refl _ _ _) s3,S3.out⟩
end
end
section
open Go Go.RowKit Go.Sort Go.Shelf
section
variable {α:Type} [Inhabited α] {f h:α→Value} {w0:World} {blk:Nat} {d0:Array α}
set_option maxHeartbeats 8000000 in
set_option maxRecDepth 1000000 in
theorem symMergeS_any (cf:α→α→Int) (hO:SWO (ltOf cf)) (hcmp:CmpLays Tryz.prog 167 #[] (enc2 f h) 2 cf blk 0 d0.size w0) (eg:∀ args w,(callFunc 167 args).run Tryz.prog w=.ok (.enter 167 args) w) (R:RowK (enc2 f h) 2 w0 blk 0 d0) (N:Nat) (hN:d0.size=N) (hM:N≤1000000000000) (cap:Nat):∀ (K a m b:Nat) (d:Array α) (w:World),b - a≤K→d.size=N→SWK (enc2 f h) 2 w0 blk 0 d w→a < m→m < b→b≤N→SortedIn (ltOf cf) a m d→SortedIn (ltOf cf) m b d →
  Calls Tryz.prog 296 #[.slice (some ⟨blk,0,none⟩) N cap,.int .i64 (a:Int),.int .i64 (m:Int),.int .i64 (b:Int),.func (.func 167) #[] #[]] w fun e w'=>e=.returned (.tuple #[])∧∃ d',(PermIn a b d d'∧SortedIn (ltOf cf) a b d')∧SWK (enc2 f h) 2 w0 blk 0 d' w':=by
 intro K;induction K with
 | zero=>intro a m b d w h1 _ _ h2 h3;exfalso;omega
 | succ K ih =>
  intro a m b d w hK hs S ham hmb hb hU hV;by_cases hA1:m≤a+1
  ·exact symMergeAS_any cf hO hcmp eg R N hN hM cap a m b d w hs S ham hmb hb hU hV hA1
  ·by_cases hB1:b≤m+1
   ·exact symMergeBS_any cf hO hcmp eg R N hN hM cap a m b d w hs S ham hmb hb hU hV hA1 hB1
   ·by_cases hbig:(a+b) / 2 < m
    ·exact symMergeCS_any cf hO hcmp eg R N hN hM cap K ih a m b d w hs S ham hmb hb hU hV hA1 hB1 ((a+b) / 2) (by omega) (by omega) hK hbig
    ·exact symMergeDS_any cf hO hcmp eg R N hN hM cap K ih a m b d w hs S ham hmb hb hU hV hA1 hB1 ((a+b) / 2) (by omega) (by omega) hK hbig
set_option maxHeartbeats 8000000 in
set_option maxRecDepth 1000000 in
theorem stableGS_any (tyE:∀ w,(isAgg 126).run Tryz.prog w=.ok true w) (szE:∀ w,(Go.sizeOf 126).run Tryz.prog w=.ok 2 w) (cf:α→α→Int) (hO:SWO (ltOf cf)) (hcmp:CmpLays Tryz.prog 167 #[] (enc2 f h) 2 cf blk 0 d0.size w0) (eg:∀ args w,(callFunc 167 args).run Tryz.prog w=.ok (.enter 167 args) w) (R:RowK (enc2 f h) 2 w0 blk 0 d0) (N:Nat) (hN:d0.size=N) (hM:N≤1000000000000) (cap:Nat) (d:Array α) (w:World) (hs:d.size=N) (S:SWK (enc2 f h) 2 w0 blk 0 d w) :
  Calls Tryz.prog 244 #[.slice (some ⟨blk,0,none⟩) N cap,.int .i64 (N:Int),.func (.func 167) #[] #[]] w fun e w'=>e=.returned (.tuple #[])∧∃ d',PermIn 0 N d d'∧SortedIn (ltOf cf) 0 N d'∧SWK (enc2 f h) 2 w0 blk 0 d' w':=by
 have S0:Aside (SWK (enc2 f h) 2 w0 blk 0 d w):=S;have HIns:=hid fun (a b:Nat) (dk:Array α) (wr:World) (hz:dk.size=N) (S:SWK (enc2 f h) 2 w0 blk 0 dk wr) (hab:a≤b) (hb:b≤N) =>
  (show Calls Tryz.prog 295 #[.slice (some ⟨blk,0,none⟩) N cap,.int .i64 (a:Int),.int .i64 (b:Int),.func (.func 167) #[] #[]] wr fun e w'=>e=.returned (.tuple #[])∧∃ d',(PermIn a b dk d'∧SortedIn (ltOf cf) a b d')∧SWK (enc2 f h) 2 w0 blk 0 d' w' from by
   have hcon:=AnyQ.insertionSortCmpFunc_w Tryz.insSmp 2 tyE szE (enc2 f h) cf 167 #[] blk 0 cap a b d0 dk w0 wr eg hcmp R (by omega) S hO hab (by omega) (by omega);rw [hz] at hcon;change Calls Tryz.prog 295 _ _ _ at hcon
   refine hcon.mono ?_;rintro e w' ⟨rfl,h1⟩;exact ⟨rfl,_,insertionSort_holds hO dk a b hab (by omega),h1⟩)
 have HMer:=hid (symMergeS_any cf hO hcmp eg R N hN hM cap);clear S hcmp hO eg tyE szE hN;have HS:=hid hs;clear hs;go_enter Tryz.func244,Tryz.ntmps244
 go_wp2;go_loopw [7,8] (fun s7 s8 wr=>∃ (T a:Nat) (dk:Array α),s7=.int .i64 a∧s8=.int .i64 ((a:Int)+20)∧a≤N∧Hid (a=T*20)∧Aside (SWK (enc2 f h) 2 w0 blk 0 dk wr)∧Hid (PermIn 0 N d dk)∧Hid (Upto (ltOf cf) 20 T dk)) (fun s7 _ _=>N - (intOf s7).toNat)
 case atStart=>exact ⟨0,0,d,rfl,rfl,Nat.zero_le _,hid (by omega),S0,hid (permIn_refl _ _ _),hid (Upto.zero _ _)⟩
 case round =>
  clear S0;obtain ⟨T,a,dk,rfl,rfl,haN,HT,S1,HP,HU⟩:=hrel;have hz:dk.size=N:=HP.out.1.trans HS.out;by_cases hle:a+20≤N
  ·have hlez:(a:Int)+20≤(N:Int):=by omega
   have k1:IntKind.i64.wrap ((a:Int)+20+20)=(a:Int)+20+20:=by rw [IntKind.wrap_i64];omega
   have hi:=HIns.out a (a+20) dk wr hz S1.out (by omega) hle;rw [show ((a+20:Nat):Int)=(a:Int)+20 by omega] at hi;go_wp2_with (go_at_call 295;refine hi.mono ?_;rintro e w2 ⟨rfl,d2,⟨p2,s2⟩,S2⟩)
   go_roundw
   case rel=>exact ⟨T+1,a+20,d2,by go_num,by go_num,hle,hid (by have:=HT.out;omega),S2,hid (permIn_trans _ _ _ _ _ HP.out (permIn_mono _ _ _ _ _ _ (Nat.zero_le _) hle (by have:=HS.out;omega) p2)),hid (HU.out.step HT.out rfl p2 s2)⟩
   case measure=>simp [intOf];omega
  ·have hlez:¬ (a:Int)+20≤(N:Int):=by omega
   have hi:=HIns.out a N dk wr hz S1.out haN (Nat.le_refl _);clear HIns;go_wp2_with (go_at_call 295;refine hi.mono ?_;rintro e w2 ⟨rfl,d2,⟨p2,s2⟩,S2⟩)
   have HB2:Hid (Blk (ltOf cf) 20 0 N d2):=hid (HU.out.blk HT.out (by omega) p2 s2);have HP2:=hid (permIn_trans _ _ _ _ _ HP.out (permIn_mono _ _ _ _ _ _ (Nat.zero_le _) (Nat.le_refl _) (by have:=HS.out;omega) p2));have S2':Aside (SWK (enc2 f h) 2 w0 blk 0 d2 w2):=S2;clear S2 p2 s2 HP HU HT S1 hi hz hle hlez haN
   rename World=>w1
   go_loopw [6,7,8] (fun s6 _ _ wr=>∃ (bs:Nat) (dk:Array α),s6=.int .i64 bs∧20≤bs∧bs≤2*N+20∧Aside (SWK (enc2 f h) 2 w0 blk 0 dk wr)∧Hid (PermIn 0 N d dk)∧Hid (Blk (ltOf cf) bs 0 N dk)) (fun s6 _ _ _=>N - (intOf s6).toNat)
   case atStart=>exact ⟨20,d2,rfl,Nat.le_refl _,by omega,S2',HP2,HB2⟩
   case round =>
    clear S2' HP2 HB2;obtain ⟨bs,dk,rfl,hbs,hbsN,S1,HP,HB⟩:=hrel;by_cases hlt:bs < N
    ·have hltz:(bs:Int) < (N:Int):=by omega
     have k1:IntKind.i64.wrap (2*(bs:Int))=2*(bs:Int):=by rw [IntKind.wrap_i64];omega
     have k1':IntKind.i64.wrap ((bs:Int)*2)=(bs:Int)*2:=by rw [IntKind.wrap_i64];omega
     go_wp2
     rename World=>wo
     go_loopw [7,8] (fun s7 s8 wr=>∃ (T a:Nat) (dk:Array α),s7=.int .i64 a∧s8=.int .i64 ((a:Int)+2*(bs:Int))∧a≤N∧Hid (a=T*(2*bs))∧Aside (SWK (enc2 f h) 2 w0 blk 0 dk wr)∧Hid (PermIn 0 N d dk)∧Hid (Upto (ltOf cf) (2*bs) T dk)∧Hid (Blk (ltOf cf) bs (2*T) N dk)) (fun s7 _ _=>N - (intOf s7).toNat)
     case atStart=>exact ⟨0,0,dk,rfl,by simp,Nat.zero_le _,hid (by omega),S1,HP,hid (Upto.zero _ _),HB⟩
     case round =>
      clear S1 HP HB;obtain ⟨T,a,dk,rfl,rfl,haN,HT,S1,HP,HU,HB⟩:=hrel;have hz:dk.size=N:=HP.out.1.trans HS.out;have k2:IntKind.i64.wrap ((a:Int)+(bs:Int))=(a:Int)+(bs:Int):=by rw [IntKind.wrap_i64];omega
      by_cases hle:a+2*bs≤N
      ·have hlez:(a:Int)+2*(bs:Int)≤(N:Int):=by omega
       have k3:IntKind.i64.wrap ((a:Int)+2*(bs:Int)+2*(bs:Int))=(a:Int)+2*(bs:Int)+2*(bs:Int):=by rw [IntKind.wrap_i64];omega
       have h1:=HB.out.one HT.out;have h2:=HB.out.two HT.out;rw [Nat.min_eq_left (by omega)] at h1 h2;have hi:=HMer.out _ a (a+bs) (a+2*bs) dk wr (Nat.le_refl _) hz S1.out (by omega) (by omega) hle h1 h2;rw [show ((a+bs:Nat):Int)=(a:Int)+(bs:Int) by omega,show ((a+2*bs:Nat):Int)=(a:Int)+2*(bs:Int) by omega] at hi;clear h1 h2;go_wp2_with (go_at_call 296;refine hi.mono ?_;rintro e w2 ⟨rfl,d2,⟨p2,s2⟩,S2⟩)
       go_roundw
       case rel =>
        refine ⟨T+1,a+2*bs,d2,by first | go_num | (congr 1;omega),by first | go_num | (congr 1;omega),hle,hid ?_,S2,hid (permIn_trans _ _ _ _ _ HP.out (permIn_mono _ _ _ _ _ _ (Nat.zero_le _) hle (by have:=HS.out;omega) p2)),hid (HU.out.step HT.out rfl p2 s2),hid (HB.out.step HT.out p2)⟩;rw [Nat.add_mul,Nat.one_mul,← HT.out]
       case measure=>simp [intOf];omega
      ·have hlez:¬ (a:Int)+2*(bs:Int)≤(N:Int):=by omega
       by_cases hm:a+bs < N
       ·have hmz:(a:Int)+(bs:Int) < (N:Int):=by omega
        have h1:=HB.out.one HT.out;have h2:=HB.out.two HT.out;rw [Nat.min_eq_left (by omega)] at h1;rw [Nat.min_eq_right (by omega)] at h2;have hi:=HMer.out _ a (a+bs) N dk wr (Nat.le_refl _) hz S1.out (by omega) hm (Nat.le_refl _) h1 h2;rw [show ((a+bs:Nat):Int)=(a:Int)+(bs:Int) by omega] at hi;clear h1 h2;go_wp2_with (go_at_call 296;refine hi.mono ?_;rintro e w2 ⟨rfl,d2,⟨p2,s2⟩,S2⟩)
        go_roundw
        case rel=>exact ⟨2*bs,d2,by first | go_num | (congr 1;omega),by omega,by omega,S2,hid (permIn_trans _ _ _ _ _ HP.out (permIn_mono _ _ _ _ _ _ (Nat.zero_le _) (Nat.le_refl _) (by have:=HS.out;omega) p2)),hid (HU.out.blk HT.out (by omega) p2 s2)⟩
        case measure=>simp [intOf];omega
       ·have hmz:¬ (a:Int)+(bs:Int) < (N:Int):=by omega
        have h1:=HB.out.one HT.out;rw [Nat.min_eq_right (by omega)] at h1;have H1:=hid h1;clear h1;go_wp2;go_roundw
        case rel=>exact ⟨2*bs,dk,by first | go_num | (congr 1;omega),by omega,by omega,S1,HP,hid (HU.out.blk HT.out (by omega) (permIn_refl _ _ _) H1.out)⟩
        case measure=>simp [intOf];omega
    ·have hltz:¬ (bs:Int) < (N:Int):=by omega
     go_wp2;go_end0
     exact ⟨rfl,dk,HP.out,HB.out.all (by omega),S1.out⟩
end
end
section
open Go Go.RowKit Go.Sort Go.Shelf
section
variable {α:Type} [Inhabited α] {f h:α→Value} {w0:World} {blk:Nat} {d0:Array α}
set_option maxHeartbeats 4000000 in
set_option maxRecDepth 1000000 in
theorem swapRangeR_any (R:RowK (enc2 f h) 2 w0 blk 0 d0) (N:Nat) (hN:d0.size=N) (hM:N≤1000000000000) (g:Nat) (a b n cap:Nat) (d:Array α) (w:World) (hs:d.size=N) (S:SWK (enc2 f h) 2 w0 blk 0 d w) (hab:a+n≤b) (hb:b+n≤N) :
  Calls Tryz.prog 348 #[.slice (some ⟨blk,0,none⟩) N cap,.int .i64 (a:Int),.int .i64 (b:Int),.int .i64 (n:Int),.func (.func g) #[] #[]] w fun e w'=>e=.returned (.tuple #[])∧∃ d',Exch d a b n d'∧SWK (enc2 f h) 2 w0 blk 0 d' w':=by
 have S0:Aside (SWK (enc2 f h) 2 w0 blk 0 d w):=S;have HN:=hid hN;have mixed:Tryz.prog.follows .mixedOrders=true:=by kernel_rfl
 clear S hN;go_enter Tryz.func348,Tryz.ntmps348
 go_wp2;go_loopw [10] (fun s10 wr=>∃ (i:Nat) (dk:Array α),s10=.int .i64 i∧i≤n∧dk.size=N∧Aside (SWK (enc2 f h) 2 w0 blk 0 dk wr)∧Hid (Exch d a b i dk)) (fun s10 _=>n - (intOf s10).toNat)
 case atStart=>exact ⟨0,d,by go_num,by omega,hs,S0,hid (Exch.zero d a b)⟩
 case round =>
  clear S0;obtain ⟨i,dk,rfl,hi,hds,S1,HE⟩:=hrel;by_cases hlt:i < n
  ·have hltz:(i:Int) < (n:Int):=by omega
   have hN0:dk.size=d0.size:=by rw [HN.out,hds]
   go_wp2_with fail;have ea:((a:Int)+(i:Int):Int).toNat=a+i:=by omega
   have pa:(0:Int)≤(a:Int)+(i:Int):=by omega
   have ba:(a:Int)+(i:Int) < (N:Int):=by omega
   have ra:IntKind.i64.wrap ((a:Int)+(i:Int))=(a:Int)+(i:Int):=by rw [IntKind.wrap_i64];omega
   have ec:((b:Int)+(i:Int):Int).toNat=b+i:=by omega
   have pc:(0:Int)≤(b:Int)+(i:Int):=by omega
   have bc:(b:Int)+(i:Int) < (N:Int):=by omega
   have rc:IntKind.i64.wrap ((b:Int)+(i:Int))=(b:Int)+(i:Int):=by rw [IntKind.wrap_i64];omega
   have S2:Aside (SWK (enc2 f h) 2 w0 blk 0 (swp dk (a+i) (b+i)) ((wr.setCells blk (0+(a+i)*2) (enc2 f h dk[b+i]!)).setCells blk (0+(b+i)*2) (enc2 f h dk[a+i]!)).drew):=(S1.out.swap R.hk R.hblk (a+i) (b+i) (by omega) (by omega)).drew;rw [Nat.zero_add,Nat.zero_add,set2,set2] at S2;obtain ⟨xa,xb,xc,xd⟩:=at2 S1.out R (by omega) (a+i) (by omega);obtain ⟨ya,yb,yc,yd⟩:=at2 S1.out R (by omega) (b+i) (by omega);have oa:=one2a R dk[a+i]!;have ob:=one2b R dk[a+i]!;have oc:=one2a R dk[b+i]!;have od:=one2b R dk[b+i]!;generalize f dk[a+i]! = va at S2 xa oa;generalize h dk[a+i]! = vb at S2 xb ob;generalize f dk[b+i]! = vc at S2 ya oc;generalize h dk[b+i]! = vd at S2 yb od;have n1:¬ (a+i)*2=(b+i)*2:=by omega
   have n2:¬ (a+i)*2=(b+i)*2+1:=by omega
   have n3:¬ (a+i)*2+1=(b+i)*2:=by omega
   have n4:¬ (a+i)*2+1=(b+i)*2+1:=by omega
   have n5:¬ (b+i)*2=(a+i)*2:=by omega
   have n6:¬ (b+i)*2=(a+i)*2+1:=by omega
   have n7:¬ (b+i)*2+1=(a+i)*2:=by omega
   have n8:¬ (b+i)*2+1=(a+i)*2+1:=by omega
   have wc:∀ a m w,(store a vc m).run Tryz.prog w=stored Tryz.prog w a vc m:=fun a m w=>run_store _ w a _ m oc
   have wd:∀ a m w,(store a vd m).run Tryz.prog w=stored Tryz.prog w a vd m:=fun a m w=>run_store _ w a _ m od
   have wa:∀ a m w,(store a va m).run Tryz.prog w=stored Tryz.prog w a va m:=fun a m w=>run_store _ w a _ m oa
   have wb:∀ a m w,(store a vb m).run Tryz.prog w=stored Tryz.prog w a vb m:=fun a m w=>run_store _ w a _ m ob
   clear S1;go_wp2_with fail
   go_big_region_o
   clear wa wb wc wd xa xb xc xd ya yb yc yd oa ob oc od n1 n2 n3 n4 n5 n6 n7 n8 ea pa ba ra ec pc bc rc;generalize ((((wr.setCell ⟨blk,(a+i)*2,none⟩ vc).setCell ⟨blk,(a+i)*2+1,none⟩ vd).setCell ⟨blk,(b+i)*2,none⟩ va).setCell ⟨blk,(b+i)*2+1,none⟩ vb).drew=w2 at S2 ⊢;go_wp2;go_roundw
   case measure=>simp [intOf];omega
   case rel=>exact ⟨i+1,swp dk (a+i) (b+i),by go_num,by omega,by rw [size_swp];exact hds,S2,hid (HE.out.step hab hlt (by omega))⟩
  ·have hltz:¬ (i:Int) < (n:Int):=by omega
   obtain rfl:i=n:=by omega
   go_wp2;go_end0
   exact ⟨rfl,dk,HE.out,S1.out⟩
set_option maxHeartbeats 4000000 in
set_option maxRecDepth 1000000 in
theorem rotateR_any (R:RowK (enc2 f h) 2 w0 blk 0 d0) (N:Nat) (hN:d0.size=N) (hM:N≤1000000000000) (g:Nat) (a m b cap:Nat) (d:Array α) (w:World) (hs:d.size=N) (S:SWK (enc2 f h) 2 w0 blk 0 d w) (ham:a < m) (hmb:m < b) (hb:b≤N) :
  Calls Tryz.prog 329 #[.slice (some ⟨blk,0,none⟩) N cap,.int .i64 (a:Int),.int .i64 (m:Int),.int .i64 (b:Int),.func (.func g) #[] #[]] w fun e w'=>e=.returned (.tuple #[])∧∃ d',Rot d a m b d'∧SWK (enc2 f h) 2 w0 blk 0 d' w':=by
 have S0:Aside (SWK (enc2 f h) 2 w0 blk 0 d w):=S;have HN:=hid hN;have HS:=hid hs;clear S hN hs;have k1:IntKind.i64.wrap ((m:Int) - (a:Int))=(m:Int) - (a:Int):=by rw [IntKind.wrap_i64];omega
 have k2:IntKind.i64.wrap ((b:Int) - (m:Int))=(b:Int) - (m:Int):=by rw [IntKind.wrap_i64];omega
 go_enter Tryz.func329,Tryz.ntmps329
 go_wp2;go_loopw [10,11] (fun s10 s11 wr=>∃ (i j:Nat) (dk:Array α),s10=.int .i64 i∧s11=.int .i64 j∧1≤i∧i≤m - a∧1≤j∧j≤b - m∧Aside (SWK (enc2 f h) 2 w0 blk 0 dk wr)∧Hid (PermIn a b d dk)∧Hid (∀ p,rot dk (m - i) m (m+j) p=rot d a m b p)) (fun s10 s11 _=>(intOf s10).toNat+(intOf s11).toNat)
 case atStart =>
  refine ⟨m - a,b - m,d,by congr 1;omega,by congr 1;omega,by omega,by omega,by omega,by omega,S0,hid (permIn_refl _ _ _),hid fun p=>?_⟩;rw [show m - (m - a)=a by omega,show m+(b - m)=b by omega]
 case round =>
  clear S0 k1 k2;obtain ⟨i,j,dk,rfl,rfl,hi1,hi2,hj1,hj2,S1,HP,HR⟩:=hrel;have hds:dk.size=N:=HP.out.1.trans HS.out;have k1:IntKind.i64.wrap ((m:Int) - (i:Int))=(m:Int) - (i:Int):=by rw [IntKind.wrap_i64];omega
  have c1:((m - i:Nat):Int)=(m:Int) - (i:Int):=by omega
  rcases Nat.lt_trichotomy i j with hij | hij | hij
  ·have g1:((i:Int) != (j:Int))=true:=by rw [bne_iff_ne];omega
   have g2:¬ (j:Int) < (i:Int):=by omega
   have k2:IntKind.i64.wrap ((m:Int)+(j:Int))=(m:Int)+(j:Int):=by rw [IntKind.wrap_i64];omega
   have k3:IntKind.i64.wrap ((m:Int)+(j:Int) - (i:Int))=(m:Int)+(j:Int) - (i:Int):=by rw [IntKind.wrap_i64];omega
   have k4:IntKind.i64.wrap ((j:Int) - (i:Int))=(j:Int) - (i:Int):=by rw [IntKind.wrap_i64];omega
   have hc:=swapRangeR_any R N HN.out hM g (m - i) (m+j - i) i cap dk wr hds S1.out (by omega) (by omega);rw [c1,show ((m+j - i:Nat):Int)=(m:Int)+(j:Int) - (i:Int) by omega] at hc;clear c1;go_wp2_with (go_at_call 348;refine hc.mono ?_;rintro e w1 ⟨rfl,d',hE,S2⟩)
   go_roundw
   case rel=>exact ⟨i,j - i,d',rfl,by congr 1;omega,hi1,hi2,by omega,by omega,S2,hid (permIn_trans _ _ _ _ _ HP.out (hE.perm a b (by omega) (by omega) (by omega))),hid fun p=>(rot_lt hE hij (by omega) p).trans (HR.out p)⟩
   case measure=>simp [intOf];omega
  ·subst hij;have g1:((i:Int) != (i:Int))=false:=by rw [bne_eq_false_iff_eq]
   have hc:=swapRangeR_any R N HN.out hM g (m - i) m i cap dk wr hds S1.out (by omega) (by omega);rw [c1] at hc;clear c1;go_wp2_with (go_at_call 348;refine hc.mono ?_;rintro e w1 ⟨rfl,d',hE,S2⟩)
   go_end0
   exact ⟨rfl,d',⟨permIn_trans _ _ _ _ _ HP.out (hE.perm a b (by omega) (by omega) (by omega)),fun p=>((Rot.last hE (by omega) (by omega)).at_ p).trans (HR.out p)⟩,S2⟩
  ·have g1:((i:Int) != (j:Int))=true:=by rw [bne_iff_ne];omega
   have g2:(j:Int) < (i:Int):=by omega
   have k4:IntKind.i64.wrap ((i:Int) - (j:Int))=(i:Int) - (j:Int):=by rw [IntKind.wrap_i64];omega
   have hc:=swapRangeR_any R N HN.out hM g (m - i) m j cap dk wr hds S1.out (by omega) (by omega);rw [c1] at hc;clear c1;go_wp2_with (go_at_call 348;refine hc.mono ?_;rintro e w1 ⟨rfl,d',hE,S2⟩)
   go_roundw
   case rel=>exact ⟨i - j,j,d',by congr 1;omega,rfl,by omega,by omega,hj1,hj2,S2,hid (permIn_trans _ _ _ _ _ HP.out (hE.perm a b (by omega) (by omega) (by omega))),hid fun p=>(rot_gt hE hij (by omega) p).trans (HR.out p)⟩
   case measure=>simp [intOf];omega
end
end
section
open Go Go.RowKit Go.Sort Go.Shelf
section
variable {α:Type} [Inhabited α] {f h:α→Value} {w0:World} {blk:Nat} {d0:Array α}
set_option maxHeartbeats 8000000 in
set_option maxRecDepth 1000000 in
theorem symMergeAR_any (cf:α→α→Int) (hO:SWO (ltOf cf)) (hcmp:CmpLays Tryz.prog 103 #[] (enc2 f h) 2 cf blk 0 d0.size w0) (eg:∀ args w,(callFunc 103 args).run Tryz.prog w=.ok (.enter 103 args) w) (R:RowK (enc2 f h) 2 w0 blk 0 d0) (N:Nat) (hN:d0.size=N) (hM:N≤1000000000000) (cap:Nat) (a m b:Nat) (d:Array α) (w:World) (hs:d.size=N) (S:SWK (enc2 f h) 2 w0 blk 0 d w) (ham:a < m) (hmb:m < b) (hb:b≤N) (hU:SortedIn (ltOf cf) a m d) (hV:SortedIn (ltOf cf) m b d) (hA1:m≤a+1) :
  Calls Tryz.prog 299 #[.slice (some ⟨blk,0,none⟩) N cap,.int .i64 (a:Int),.int .i64 (m:Int),.int .i64 (b:Int),.func (.func 103) #[] #[]] w fun e w'=>e=.returned (.tuple #[])∧∃ d',(PermIn a b d d'∧SortedIn (ltOf cf) a b d')∧SWK (enc2 f h) 2 w0 blk 0 d' w':=by
 have S0:Aside (SWK (enc2 f h) 2 w0 blk 0 d w):=S;have HN:=hid hN;have HC:Aside _:=hcmp;have HOr:=hid hO;have HU:=hid hU;have HV:=hid hV;clear S hN hcmp hO hU hV;have mixed:Tryz.prog.follows .mixedOrders=true:=by kernel_rfl
 have hN0:d.size=d0.size:=by rw [HN.out,hs]
 have k1:IntKind.i64.wrap ((m:Int) - (a:Int))=(m:Int) - (a:Int):=by rw [IntKind.wrap_i64];omega
 have k2:IntKind.i64.wrap ((b:Int) - (m:Int))=(b:Int) - (m:Int):=by rw [IntKind.wrap_i64];omega
 have g1:(((m:Int) - (a:Int)) == 1)=true:=by rw [beq_iff_eq];omega
 go_enter Tryz.func299,Tryz.ntmps299
 go_wp2;go_loopw [10,11] (fun s10 s11 wr=>∃ (i j:Nat),s10=.int .i64 i∧s11=.int .i64 j∧m≤i∧i≤j∧j≤b∧Aside (SWK (enc2 f h) 2 w0 blk 0 d wr)∧Hid (i=m∨ltOf cf d[i - 1]! d[a]! = true)∧Hid (j=b∨ltOf cf d[j]! d[a]! = false)) (fun s10 s11 _=>(intOf s11).toNat - (intOf s10).toNat)
 case atStart=>exact ⟨m,b,rfl,rfl,Nat.le_refl _,by omega,Nat.le_refl _,S0,hid (.inl rfl),hid (.inl rfl)⟩
 case round =>
  clear S0 k1 k2 g1;obtain ⟨i,j,rfl,rfl,hi,hij,hj,S1,HI,HJ⟩:=hrel;by_cases hlt:i < j
  ·have hltz:(i:Int) < (j:Int):=by omega
   obtain ⟨q,hq⟩:∃ q,(i+j) / 2=q:=⟨_,rfl⟩;have q1:2*q≤i+j:=by omega
   have q2:i+j < 2*q+2:=by omega
   have k3:IntKind.i64.wrap ((i:Int)+(j:Int))=(i:Int)+(j:Int):=by rw [IntKind.wrap_i64];omega
   have k4:IntKind.u64.wrap ((i:Int)+(j:Int))=(i:Int)+(j:Int):=by rw [IntKind.wrap_u64];omega
   have k5:((i:Int)+(j:Int)) / 2=(q:Int):=by omega
   clear hq;cases hlv:ltOf cf d[q]! d[a]! with
   | true =>
    have HL:=hid hlv;have ea:((q:Int):Int).toNat=q:=by omega
    have pa:(0:Int)≤(q:Int):=by omega
    have ba:(q:Int) < (N:Int):=by omega
    have ra:IntKind.i64.wrap ((q:Int))=(q:Int):=by rw [IntKind.wrap_i64];omega
    have ec:((a:Int):Int).toNat=a:=by omega
    have pc:(0:Int)≤(a:Int):=by omega
    have bc:(a:Int) < (N:Int):=by omega
    have rc:IntKind.i64.wrap ((a:Int))=(a:Int):=by rw [IntKind.wrap_i64];omega
    obtain ⟨X,hX⟩:∃ x,x=d[q]!:=⟨_,rfl⟩;obtain ⟨Y,hY⟩:∃ x,x=d[a]!:=⟨_,rfl⟩;have xa:=fun n os=>(at2 (S1.out.grown n os) R (by omega) (q) (by omega)).1
    have xb:=fun n os=>(at2 (S1.out.grown n os) R (by omega) (q) (by omega)).2.1
    have ya:=fun n os=>(at2 (S1.out.grown n os) R (by omega) (a) (by omega)).1
    have yb:=fun n os=>(at2 (S1.out.grown n os) R (by omega) (a) (by omega)).2.1
    rw [← hX] at xa xb;rw [← hY] at ya yb;have hc:=S1.out.cmp HC.out (by omega) X Y;simp only [enc2,Array.append_empty] at hc;have hv:cf X Y < 0:=by rw [hX,hY];exact of_decide_eq_true hlv
    have hd:decide (cf X Y < 0)=true:=decide_eq_true hv;clear hX hY hlv;generalize f X=va at xa hc;generalize h X=vb at xb hc;generalize f Y=vc at ya hc;generalize h Y=vd at yb hc;generalize cf X Y=cv at hc hv hd;go_wp2_with fail
    go_quiet_grown (first | (go_at_fn 103;refine Calls.grown_of (hc _ _)))
    have S2:Aside (SWK (enc2 f h) 2 w0 blk 0 d (grow (wr.drewN nq) osq)):=S1.out.grown nq osq;clear xa xb ya yb hc S1;generalize grow (wr.drewN nq) osq=w2 at S2 ⊢;clear nq osq hv hd ea pa ba ra ec pc bc rc;go_wp2;go_roundw
    case rel=>exact ⟨q+1,j,by go_num,rfl,by omega,by omega,hj,S2,hid (.inr (by rw [Nat.add_sub_cancel];exact HL.out)),HJ⟩
    case measure=>simp [intOf];omega
   | false =>
    have HL:=hid hlv;have ea:((q:Int):Int).toNat=q:=by omega
    have pa:(0:Int)≤(q:Int):=by omega
    have ba:(q:Int) < (N:Int):=by omega
    have ra:IntKind.i64.wrap ((q:Int))=(q:Int):=by rw [IntKind.wrap_i64];omega
    have ec:((a:Int):Int).toNat=a:=by omega
    have pc:(0:Int)≤(a:Int):=by omega
    have bc:(a:Int) < (N:Int):=by omega
    have rc:IntKind.i64.wrap ((a:Int))=(a:Int):=by rw [IntKind.wrap_i64];omega
    obtain ⟨X,hX⟩:∃ x,x=d[q]!:=⟨_,rfl⟩;obtain ⟨Y,hY⟩:∃ x,x=d[a]!:=⟨_,rfl⟩;have xa:=fun n os=>(at2 (S1.out.grown n os) R (by omega) (q) (by omega)).1
    have xb:=fun n os=>(at2 (S1.out.grown n os) R (by omega) (q) (by omega)).2.1
    have ya:=fun n os=>(at2 (S1.out.grown n os) R (by omega) (a) (by omega)).1
    have yb:=fun n os=>(at2 (S1.out.grown n os) R (by omega) (a) (by omega)).2.1
    rw [← hX] at xa xb;rw [← hY] at ya yb;have hc:=S1.out.cmp HC.out (by omega) X Y;simp only [enc2,Array.append_empty] at hc;have hv:¬ cf X Y < 0:=by rw [hX,hY];exact of_decide_eq_false hlv
    have hd:decide (cf X Y < 0)=false:=decide_eq_false hv;clear hX hY hlv;generalize f X=va at xa hc;generalize h X=vb at xb hc;generalize f Y=vc at ya hc;generalize h Y=vd at yb hc;generalize cf X Y=cv at hc hv hd;go_wp2_with fail
    go_quiet_grown (first | (go_at_fn 103;refine Calls.grown_of (hc _ _)))
    have S2:Aside (SWK (enc2 f h) 2 w0 blk 0 d (grow (wr.drewN nq) osq)):=S1.out.grown nq osq;clear xa xb ya yb hc S1;generalize grow (wr.drewN nq) osq=w2 at S2 ⊢;clear nq osq hv hd ea pa ba ra ec pc bc rc;go_wp2;go_roundw
    case rel=>exact ⟨i,q,rfl,rfl,hi,by omega,by omega,S2,HI,hid (.inr HL.out)⟩
    case measure=>simp [intOf];omega
  ·have hltz:¬ (i:Int) < (j:Int):=by omega
   obtain rfl:i=j:=by omega
   go_wp2
   rename World=>wo
   go_loopw [13] (fun s13 wr=>∃ (k:Nat) (dk:Array α),s13=.int .i64 k∧a≤k∧k+1≤i∧dk.size=N∧Aside (SWK (enc2 f h) 2 w0 blk 0 dk wr)∧Hid (Rot d a (a+1) (k+1) dk)) (fun s13 _=>i - (intOf s13).toNat)
   case atStart=>exact ⟨a,d,rfl,Nat.le_refl _,by omega,hs,S1,hid (Rot.none (.inr rfl) (by omega) (Nat.le_refl _))⟩
   case round =>
    clear S1;obtain ⟨k,dk,rfl,hk,hki,hds,S1,HR⟩:=hrel;have k5:IntKind.i64.wrap ((i:Int) - 1)=(i:Int) - 1:=by rw [IntKind.wrap_i64];omega
    have hN0:dk.size=d0.size:=by rw [HN.out,hds]
    by_cases hlt2:k+1 < i
    ·have hltz2:(k:Int) < (i:Int) - 1:=by omega
     go_wp2_with fail;have ea:((k:Int):Int).toNat=k:=by omega
     have pa:(0:Int)≤(k:Int):=by omega
     have ba:(k:Int) < (N:Int):=by omega
     have ra:IntKind.i64.wrap ((k:Int))=(k:Int):=by rw [IntKind.wrap_i64];omega
     have ec:((k:Int)+1:Int).toNat=k+1:=by omega
     have pc:(0:Int)≤(k:Int)+1:=by omega
     have bc:(k:Int)+1 < (N:Int):=by omega
     have rc:IntKind.i64.wrap ((k:Int)+1)=(k:Int)+1:=by rw [IntKind.wrap_i64];omega
     have S2:Aside (SWK (enc2 f h) 2 w0 blk 0 (swp dk (k) (k+1)) ((wr.setCells blk (0+(k)*2) (enc2 f h dk[k+1]!)).setCells blk (0+(k+1)*2) (enc2 f h dk[k]!)).drew):=(S1.out.swap R.hk R.hblk (k) (k+1) (by omega) (by omega)).drew;rw [Nat.zero_add,Nat.zero_add,set2,set2] at S2;obtain ⟨xa,xb,xc,xd⟩:=at2 S1.out R (by omega) (k) (by omega);obtain ⟨ya,yb,yc,yd⟩:=at2 S1.out R (by omega) (k+1) (by omega);have oa:=one2a R dk[k]!;have ob:=one2b R dk[k]!;have oc:=one2a R dk[k+1]!;have od:=one2b R dk[k+1]!;generalize f dk[k]! = va at S2 xa oa;generalize h dk[k]! = vb at S2 xb ob;generalize f dk[k+1]! = vc at S2 ya oc;generalize h dk[k+1]! = vd at S2 yb od;have n1:¬ (k)*2=(k+1)*2:=by omega
     have n2:¬ (k)*2=(k+1)*2+1:=by omega
     have n3:¬ (k)*2+1=(k+1)*2:=by omega
     have n4:¬ (k)*2+1=(k+1)*2+1:=by omega
     have n5:¬ (k+1)*2=(k)*2:=by omega
     have n6:¬ (k+1)*2=(k)*2+1:=by omega
     have n7:¬ (k+1)*2+1=(k)*2:=by omega
     have n8:¬ (k+1)*2+1=(k)*2+1:=by omega
     have wc:∀ a m w,(store a vc m).run Tryz.prog w=stored Tryz.prog w a vc m:=fun a m w=>run_store _ w a _ m oc
     have wd:∀ a m w,(store a vd m).run Tryz.prog w=stored Tryz.prog w a vd m:=fun a m w=>run_store _ w a _ m od
     have wa:∀ a m w,(store a va m).run Tryz.prog w=stored Tryz.prog w a va m:=fun a m w=>run_store _ w a _ m oa
     have wb:∀ a m w,(store a vb m).run Tryz.prog w=stored Tryz.prog w a vb m:=fun a m w=>run_store _ w a _ m ob
     clear S1;go_wp2_with fail
     go_big_region_o
     clear wa wb wc wd xa xb xc xd ya yb yc yd oa ob oc od n1 n2 n3 n4 n5 n6 n7 n8 ea pa ba ra ec pc bc rc;generalize ((((wr.setCell ⟨blk,(k)*2,none⟩ vc).setCell ⟨blk,(k)*2+1,none⟩ vd).setCell ⟨blk,(k+1)*2,none⟩ va).setCell ⟨blk,(k+1)*2+1,none⟩ vb).drew=w2 at S2 ⊢;go_wp2;go_roundw
     case rel=>exact ⟨k+1,swp dk k (k+1),by go_num,by omega,by omega,by rw [size_swp];exact hds,S2,hid (HR.out.up hk (by omega))⟩
     case measure=>simp [intOf];omega
    ·have hltz2:¬ (k:Int) < (i:Int) - 1:=by omega
     go_wp2
     (try simp only [Exit.inBlock,Exit.then]);refine bodyPost_ret (results_none rfl _ _ _) rfl ?_
     have hR:=HR.out;have e1:k+1=i:=by omega
     have enc2':m=a+1:=by omega
     rw [e1] at hR;refine ⟨rfl,dk,mer_up HOr.out (by rw [← enc2'];exact HV.out) (by omega) hj (by omega) ?_ HJ.out hR,S1.out⟩;rcases HI.out with h1 | h1
     ·exact .inl (by omega)
     ·exact .inr h1
set_option maxHeartbeats 8000000 in
set_option maxRecDepth 1000000 in
theorem symMergeBR_any (cf:α→α→Int) (hO:SWO (ltOf cf)) (hcmp:CmpLays Tryz.prog 103 #[] (enc2 f h) 2 cf blk 0 d0.size w0) (eg:∀ args w,(callFunc 103 args).run Tryz.prog w=.ok (.enter 103 args) w) (R:RowK (enc2 f h) 2 w0 blk 0 d0) (N:Nat) (hN:d0.size=N) (hM:N≤1000000000000) (cap:Nat) (a m b:Nat) (d:Array α) (w:World) (hs:d.size=N) (S:SWK (enc2 f h) 2 w0 blk 0 d w) (ham:a < m) (hmb:m < b) (hb:b≤N) (hU:SortedIn (ltOf cf) a m d) (hV:SortedIn (ltOf cf) m b d) (hA1:¬ m≤a+1) (hB1:b≤m+1) :
  Calls Tryz.prog 299 #[.slice (some ⟨blk,0,none⟩) N cap,.int .i64 (a:Int),.int .i64 (m:Int),.int .i64 (b:Int),.func (.func 103) #[] #[]] w fun e w'=>e=.returned (.tuple #[])∧∃ d',(PermIn a b d d'∧SortedIn (ltOf cf) a b d')∧SWK (enc2 f h) 2 w0 blk 0 d' w':=by
 have S0:Aside (SWK (enc2 f h) 2 w0 blk 0 d w):=S;have HN:=hid hN;have HC:Aside _:=hcmp;have HOr:=hid hO;have HU:=hid hU;have HV:=hid hV;clear S hN hcmp hO hU hV;have mixed:Tryz.prog.follows .mixedOrders=true:=by kernel_rfl
 have hN0:d.size=d0.size:=by rw [HN.out,hs]
 have k1:IntKind.i64.wrap ((m:Int) - (a:Int))=(m:Int) - (a:Int):=by rw [IntKind.wrap_i64];omega
 have k2:IntKind.i64.wrap ((b:Int) - (m:Int))=(b:Int) - (m:Int):=by rw [IntKind.wrap_i64];omega
 have _:=ham;have g1:(((m:Int) - (a:Int)) == 1)=false:=by rw [beq_eq_false_iff_ne];omega
 have g2:(((b:Int) - (m:Int)) == 1)=true:=by rw [beq_iff_eq];omega
 go_enter Tryz.func299,Tryz.ntmps299
 go_wp2;go_loopw [14,15] (fun s14 s15 wr=>∃ (i j:Nat),s14=.int .i64 i∧s15=.int .i64 j∧a≤i∧i≤j∧j≤m∧Aside (SWK (enc2 f h) 2 w0 blk 0 d wr)∧Hid (i=a∨ltOf cf d[m]! d[i - 1]! = false)∧Hid (j=m∨ltOf cf d[m]! d[j]! = true)) (fun s14 s15 _=>(intOf s15).toNat - (intOf s14).toNat)
 case atStart=>exact ⟨a,m,rfl,rfl,Nat.le_refl _,by omega,Nat.le_refl _,S0,hid (.inl rfl),hid (.inl rfl)⟩
 case round =>
  clear S0 k1 k2 g1 g2;obtain ⟨i,j,rfl,rfl,hi,hij,hj,S1,HI,HJ⟩:=hrel;by_cases hlt:i < j
  ·have hltz:(i:Int) < (j:Int):=by omega
   obtain ⟨q,hq⟩:∃ q,(i+j) / 2=q:=⟨_,rfl⟩;have q1:2*q≤i+j:=by omega
   have q2:i+j < 2*q+2:=by omega
   have k3:IntKind.i64.wrap ((i:Int)+(j:Int))=(i:Int)+(j:Int):=by rw [IntKind.wrap_i64];omega
   have k4:IntKind.u64.wrap ((i:Int)+(j:Int))=(i:Int)+(j:Int):=by rw [IntKind.wrap_u64];omega
   have k5:((i:Int)+(j:Int)) / 2=(q:Int):=by omega
   clear hq;cases hlv:ltOf cf d[m]! d[q]! with
   | false =>
    have HL:=hid hlv;have ea:((m:Int):Int).toNat=m:=by omega
    have pa:(0:Int)≤(m:Int):=by omega
    have ba:(m:Int) < (N:Int):=by omega
    have ra:IntKind.i64.wrap ((m:Int))=(m:Int):=by rw [IntKind.wrap_i64];omega
    have ec:((q:Int):Int).toNat=q:=by omega
    have pc:(0:Int)≤(q:Int):=by omega
    have bc:(q:Int) < (N:Int):=by omega
    have rc:IntKind.i64.wrap ((q:Int))=(q:Int):=by rw [IntKind.wrap_i64];omega
    obtain ⟨X,hX⟩:∃ x,x=d[m]!:=⟨_,rfl⟩;obtain ⟨Y,hY⟩:∃ x,x=d[q]!:=⟨_,rfl⟩;have xa:=fun n os=>(at2 (S1.out.grown n os) R (by omega) (m) (by omega)).1
    have xb:=fun n os=>(at2 (S1.out.grown n os) R (by omega) (m) (by omega)).2.1
    have ya:=fun n os=>(at2 (S1.out.grown n os) R (by omega) (q) (by omega)).1
    have yb:=fun n os=>(at2 (S1.out.grown n os) R (by omega) (q) (by omega)).2.1
    rw [← hX] at xa xb;rw [← hY] at ya yb;have hc:=S1.out.cmp HC.out (by omega) X Y;simp only [enc2,Array.append_empty] at hc;have hv:¬ cf X Y < 0:=by rw [hX,hY];exact of_decide_eq_false hlv
    have hd:decide (cf X Y < 0)=false:=decide_eq_false hv;clear hX hY hlv;generalize f X=va at xa hc;generalize h X=vb at xb hc;generalize f Y=vc at ya hc;generalize h Y=vd at yb hc;generalize cf X Y=cv at hc hv hd;go_wp2_with fail
    go_quiet_grown (first | (go_at_fn 103;refine Calls.grown_of (hc _ _)))
    have S2:Aside (SWK (enc2 f h) 2 w0 blk 0 d (grow (wr.drewN nq) osq)):=S1.out.grown nq osq;clear xa xb ya yb hc S1;generalize grow (wr.drewN nq) osq=w2 at S2 ⊢;clear nq osq hv hd ea pa ba ra ec pc bc rc;go_wp2;go_roundw
    case rel=>exact ⟨q+1,j,by go_num,rfl,by omega,by omega,hj,S2,hid (.inr (by rw [Nat.add_sub_cancel];exact HL.out)),HJ⟩
    case measure=>simp [intOf];omega
   | true =>
    have HL:=hid hlv;have ea:((m:Int):Int).toNat=m:=by omega
    have pa:(0:Int)≤(m:Int):=by omega
    have ba:(m:Int) < (N:Int):=by omega
    have ra:IntKind.i64.wrap ((m:Int))=(m:Int):=by rw [IntKind.wrap_i64];omega
    have ec:((q:Int):Int).toNat=q:=by omega
    have pc:(0:Int)≤(q:Int):=by omega
    have bc:(q:Int) < (N:Int):=by omega
    have rc:IntKind.i64.wrap ((q:Int))=(q:Int):=by rw [IntKind.wrap_i64];omega
    obtain ⟨X,hX⟩:∃ x,x=d[m]!:=⟨_,rfl⟩;obtain ⟨Y,hY⟩:∃ x,x=d[q]!:=⟨_,rfl⟩;have xa:=fun n os=>(at2 (S1.out.grown n os) R (by omega) (m) (by omega)).1
    have xb:=fun n os=>(at2 (S1.out.grown n os) R (by omega) (m) (by omega)).2.1
    have ya:=fun n os=>(at2 (S1.out.grown n os) R (by omega) (q) (by omega)).1
    have yb:=fun n os=>(at2 (S1.out.grown n os) R (by omega) (q) (by omega)).2.1
    rw [← hX] at xa xb;rw [← hY] at ya yb;have hc:=S1.out.cmp HC.out (by omega) X Y;simp only [enc2,Array.append_empty] at hc;have hv:cf X Y < 0:=by rw [hX,hY];exact of_decide_eq_true hlv
    have hd:decide (cf X Y < 0)=true:=decide_eq_true hv;clear hX hY hlv;generalize f X=va at xa hc;generalize h X=vb at xb hc;generalize f Y=vc at ya hc;generalize h Y=vd at yb hc;generalize cf X Y=cv at hc hv hd;go_wp2_with fail
    go_quiet_grown (first | (go_at_fn 103;refine Calls.grown_of (hc _ _)))
    have S2:Aside (SWK (enc2 f h) 2 w0 blk 0 d (grow (wr.drewN nq) osq)):=S1.out.grown nq osq;clear xa xb ya yb hc S1;generalize grow (wr.drewN nq) osq=w2 at S2 ⊢;clear nq osq hv hd ea pa ba ra ec pc bc rc;go_wp2;go_roundw
    case rel=>exact ⟨i,q,rfl,rfl,hi,by omega,by omega,S2,HI,hid (.inr HL.out)⟩
    case measure=>simp [intOf];omega
  ·have hltz:¬ (i:Int) < (j:Int):=by omega
   obtain rfl:i=j:=by omega
   go_wp2
   rename World=>wo
   go_loopw [17] (fun s17 wr=>∃ (k:Nat) (dk:Array α),s17=.int .i64 k∧i≤k∧k≤m∧dk.size=N∧Aside (SWK (enc2 f h) 2 w0 blk 0 dk wr)∧Hid (Rot d k m (m+1) dk)) (fun s17 _=>(intOf s17).toNat)
   case atStart=>exact ⟨m,d,rfl,hj,Nat.le_refl _,hs,S1,hid (Rot.none (.inl rfl) (Nat.le_refl _) (by omega))⟩
   case round =>
    clear S1;obtain ⟨k,dk,rfl,hk,hki,hds,S1,HR⟩:=hrel;have hN0:dk.size=d0.size:=by rw [HN.out,hds]
    by_cases hlt2:i < k
    ·have hltz2:(i:Int) < (k:Int):=by omega
     obtain ⟨t,ht⟩:∃ t,k - 1=t:=⟨_,rfl⟩;have k5:(k:Int) - 1=(t:Int):=by omega
     have hR:=HR.out;have et:k=t+1:=by omega
     rw [et] at hR;have hD:=hR.down (by omega) (by omega);rw [← et] at hD;have HD:=hid hD;clear hR hD et ht;go_wp2_with fail;have ea:((k:Int):Int).toNat=k:=by omega
     have pa:(0:Int)≤(k:Int):=by omega
     have ba:(k:Int) < (N:Int):=by omega
     have ra:IntKind.i64.wrap ((k:Int))=(k:Int):=by rw [IntKind.wrap_i64];omega
     have ec:((t:Int):Int).toNat=t:=by omega
     have pc:(0:Int)≤(t:Int):=by omega
     have bc:(t:Int) < (N:Int):=by omega
     have rc:IntKind.i64.wrap ((t:Int))=(t:Int):=by rw [IntKind.wrap_i64];omega
     have S2:Aside (SWK (enc2 f h) 2 w0 blk 0 (swp dk (k) (t)) ((wr.setCells blk (0+(k)*2) (enc2 f h dk[t]!)).setCells blk (0+(t)*2) (enc2 f h dk[k]!)).drew):=(S1.out.swap R.hk R.hblk (k) (t) (by omega) (by omega)).drew;rw [Nat.zero_add,Nat.zero_add,set2,set2] at S2;obtain ⟨xa,xb,xc,xd⟩:=at2 S1.out R (by omega) (k) (by omega);obtain ⟨ya,yb,yc,yd⟩:=at2 S1.out R (by omega) (t) (by omega);have oa:=one2a R dk[k]!;have ob:=one2b R dk[k]!;have oc:=one2a R dk[t]!;have od:=one2b R dk[t]!;generalize f dk[k]! = va at S2 xa oa;generalize h dk[k]! = vb at S2 xb ob;generalize f dk[t]! = vc at S2 ya oc;generalize h dk[t]! = vd at S2 yb od;have n1:¬ (k)*2=(t)*2:=by omega
     have n2:¬ (k)*2=(t)*2+1:=by omega
     have n3:¬ (k)*2+1=(t)*2:=by omega
     have n4:¬ (k)*2+1=(t)*2+1:=by omega
     have n5:¬ (t)*2=(k)*2:=by omega
     have n6:¬ (t)*2=(k)*2+1:=by omega
     have n7:¬ (t)*2+1=(k)*2:=by omega
     have n8:¬ (t)*2+1=(k)*2+1:=by omega
     have wc:∀ a m w,(store a vc m).run Tryz.prog w=stored Tryz.prog w a vc m:=fun a m w=>run_store _ w a _ m oc
     have wd:∀ a m w,(store a vd m).run Tryz.prog w=stored Tryz.prog w a vd m:=fun a m w=>run_store _ w a _ m od
     have wa:∀ a m w,(store a va m).run Tryz.prog w=stored Tryz.prog w a va m:=fun a m w=>run_store _ w a _ m oa
     have wb:∀ a m w,(store a vb m).run Tryz.prog w=stored Tryz.prog w a vb m:=fun a m w=>run_store _ w a _ m ob
     clear S1;go_wp2_with fail
     go_big_region_o
     clear wa wb wc wd xa xb xc xd ya yb yc yd oa ob oc od n1 n2 n3 n4 n5 n6 n7 n8 ea pa ba ra ec pc bc rc;generalize ((((wr.setCell ⟨blk,(k)*2,none⟩ vc).setCell ⟨blk,(k)*2+1,none⟩ vd).setCell ⟨blk,(t)*2,none⟩ va).setCell ⟨blk,(t)*2+1,none⟩ vb).drew=w2 at S2 ⊢;go_wp2;go_roundw
     case rel=>exact ⟨t,swp dk k t,by go_num,by omega,by omega,by rw [size_swp];exact hds,S2,HD⟩
     case measure=>simp [intOf];omega
    ·have hltz2:¬ (i:Int) < (k:Int):=by omega
     obtain rfl:i=k:=by omega
     go_wp2
     (try simp only [Exit.inBlock,Exit.then]);refine bodyPost_ret (results_none rfl _ _ _) rfl ?_
     obtain rfl:b=m+1:=by omega
     exact ⟨rfl,dk,mer_down HOr.out HU.out hi hj (by omega) HI.out HJ.out HR.out,S1.out⟩
end
end
section
open Go Go.RowKit Go.Sort Go.Shelf
section
variable {α:Type} [Inhabited α] {f h:α→Value} {w0:World} {blk:Nat} {d0:Array α}
set_option maxHeartbeats 8000000 in
set_option maxRecDepth 1000000 in
theorem symMergeCR_any (cf:α→α→Int) (hO:SWO (ltOf cf)) (hcmp:CmpLays Tryz.prog 103 #[] (enc2 f h) 2 cf blk 0 d0.size w0) (eg:∀ args w,(callFunc 103 args).run Tryz.prog w=.ok (.enter 103 args) w) (R:RowK (enc2 f h) 2 w0 blk 0 d0) (N:Nat) (hN:d0.size=N) (hM:N≤1000000000000) (cap:Nat) (K:Nat) (ih:∀ (a m b:Nat) (d:Array α) (w:World),b - a≤K→d.size=N→SWK (enc2 f h) 2 w0 blk 0 d w→a < m→m < b→b≤N→SortedIn (ltOf cf) a m d→SortedIn (ltOf cf) m b d→Calls Tryz.prog 299 #[.slice (some ⟨blk,0,none⟩) N cap,.int .i64 (a:Int),.int .i64 (m:Int),.int .i64 (b:Int),.func (.func 103) #[] #[]] w fun e w'=>e=.returned (.tuple #[])∧∃ d',(PermIn a b d d'∧SortedIn (ltOf cf) a b d')∧SWK (enc2 f h) 2 w0 blk 0 d' w') (a m b:Nat) (d:Array α) (w:World) (hs:d.size=N) (S:SWK (enc2 f h) 2 w0 blk 0 d w) (ham:a < m) (hmb:m < b) (hb:b≤N) (hU:SortedIn (ltOf cf) a m d) (hV:SortedIn (ltOf cf) m b d) (hA1:¬ m≤a+1) (hB1:¬ b≤m+1) (mid:Nat) (m1:2*mid≤a+b) (m2:a+b < 2*mid+2) (hK:b - a≤K+1) (hbig:mid < m) :
  Calls Tryz.prog 299 #[.slice (some ⟨blk,0,none⟩) N cap,.int .i64 (a:Int),.int .i64 (m:Int),.int .i64 (b:Int),.func (.func 103) #[] #[]] w fun e w'=>e=.returned (.tuple #[])∧∃ d',(PermIn a b d d'∧SortedIn (ltOf cf) a b d')∧SWK (enc2 f h) 2 w0 blk 0 d' w':=by
 have HIH:=hid ih;clear ih;have S0:Aside (SWK (enc2 f h) 2 w0 blk 0 d w):=S;have HN:=hid hN;have HC:Aside _:=hcmp;have HOr:=hid hO;have HU:=hid hU;have HV:=hid hV;clear S hN hcmp hO hU hV;have mixed:Tryz.prog.follows .mixedOrders=true:=by kernel_rfl
 have hN0:d.size=d0.size:=by rw [HN.out,hs]
 have k1:IntKind.i64.wrap ((m:Int) - (a:Int))=(m:Int) - (a:Int):=by rw [IntKind.wrap_i64];omega
 have k2:IntKind.i64.wrap ((b:Int) - (m:Int))=(b:Int) - (m:Int):=by rw [IntKind.wrap_i64];omega
 have _:=ham;have _:=hmb;have g1:(((m:Int) - (a:Int)) == 1)=false:=by rw [beq_eq_false_iff_ne];omega
 have g2:(((b:Int) - (m:Int)) == 1)=false:=by rw [beq_eq_false_iff_ne];omega
 have m3:((a:Int)+(b:Int)) / 2=(mid:Int):=by omega
 have m4:IntKind.i64.wrap ((a:Int)+(b:Int))=(a:Int)+(b:Int):=by rw [IntKind.wrap_i64];omega
 have m5:IntKind.u64.wrap ((a:Int)+(b:Int))=(a:Int)+(b:Int):=by rw [IntKind.wrap_u64];omega
 have m6:IntKind.i64.wrap ((mid:Int)+(m:Int))=(mid:Int)+(m:Int):=by rw [IntKind.wrap_i64];omega
 have m7:IntKind.i64.wrap ((mid:Int)+(m:Int) - 1)=(mid:Int)+(m:Int) - 1:=by rw [IntKind.wrap_i64];omega
 have hbz:(mid:Int) < (m:Int):=by omega
 have m8:IntKind.i64.wrap ((mid:Int)+(m:Int) - (b:Int))=(mid:Int)+(m:Int) - (b:Int):=by rw [IntKind.wrap_i64];omega
 obtain ⟨lo,hlo⟩:∃ lo,lo=mid+m - b:=⟨_,rfl⟩;have l1:lo+b=mid+m:=by omega
 clear hlo;go_enter Tryz.func299,Tryz.ntmps299
 go_wp2;go_loopw [20,21] (fun s20 s21 wr=>∃ (i j:Nat),s20=.int .i64 i∧s21=.int .i64 j∧lo≤i∧i≤j∧j≤mid∧Aside (SWK (enc2 f h) 2 w0 blk 0 d wr)∧Hid (i=lo∨(lo < i∧ltOf cf d[mid+m - i]! d[i - 1]! = false))∧Hid (j=mid∨ltOf cf d[mid+m - 1 - j]! d[j]! = true)) (fun s20 s21 _=>(intOf s21).toNat - (intOf s20).toNat)
 case atStart=>exact ⟨lo,mid,by first | rfl | (congr 1;omega),rfl,Nat.le_refl _,by omega,Nat.le_refl _,S0,hid (.inl rfl),hid (.inl rfl)⟩
 case round =>
  clear S0 k1 k2 g1 g2 m3 m4 m5 m6 m7 hbz m8;obtain ⟨i,j,rfl,rfl,hi,hij,hj,S1,HI,HJ⟩:=hrel;by_cases hlt:i < j
  ·have hltz:(i:Int) < (j:Int):=by omega
   obtain ⟨q,hq⟩:∃ q,(i+j) / 2=q:=⟨_,rfl⟩;have q1:2*q≤i+j:=by omega
   have q2:i+j < 2*q+2:=by omega
   have k3:IntKind.i64.wrap ((i:Int)+(j:Int))=(i:Int)+(j:Int):=by rw [IntKind.wrap_i64];omega
   have k4:IntKind.u64.wrap ((i:Int)+(j:Int))=(i:Int)+(j:Int):=by rw [IntKind.wrap_u64];omega
   have k5:((i:Int)+(j:Int)) / 2=(q:Int):=by omega
   clear hq;obtain ⟨p,hp⟩:∃ p,p=mid+m - 1 - q:=⟨_,rfl⟩;have p1:p+q+1=mid+m:=by omega
   have p2:(mid:Int)+(m:Int) - 1 - (q:Int)=(p:Int):=by omega
   have p3:IntKind.i64.wrap ((mid:Int)+(m:Int) - 1 - (q:Int))=(p:Int):=by rw [IntKind.wrap_i64];omega
   cases hlv:ltOf cf d[p]! d[q]! with
   | false =>
    have HL:=hid (show ltOf cf d[mid+m - (q+1)]! d[q+1 - 1]! = false by rw [Nat.add_sub_cancel,show mid+m - (q+1)=p by omega];exact hlv);clear hp;have ea:((p:Int):Int).toNat=p:=by omega
    have pa:(0:Int)≤(p:Int):=by omega
    have ba:(p:Int) < (N:Int):=by omega
    have ra:IntKind.i64.wrap ((p:Int))=(p:Int):=by rw [IntKind.wrap_i64];omega
    have ec:((q:Int):Int).toNat=q:=by omega
    have pc:(0:Int)≤(q:Int):=by omega
    have bc:(q:Int) < (N:Int):=by omega
    have rc:IntKind.i64.wrap ((q:Int))=(q:Int):=by rw [IntKind.wrap_i64];omega
    obtain ⟨X,hX⟩:∃ x,x=d[p]!:=⟨_,rfl⟩;obtain ⟨Y,hY⟩:∃ x,x=d[q]!:=⟨_,rfl⟩;have xa:=fun n os=>(at2 (S1.out.grown n os) R (by omega) (p) (by omega)).1
    have xb:=fun n os=>(at2 (S1.out.grown n os) R (by omega) (p) (by omega)).2.1
    have ya:=fun n os=>(at2 (S1.out.grown n os) R (by omega) (q) (by omega)).1
    have yb:=fun n os=>(at2 (S1.out.grown n os) R (by omega) (q) (by omega)).2.1
    rw [← hX] at xa xb;rw [← hY] at ya yb;have hc:=S1.out.cmp HC.out (by omega) X Y;simp only [enc2,Array.append_empty] at hc;have hv:¬ cf X Y < 0:=by rw [hX,hY];exact of_decide_eq_false hlv
    have hd:decide (cf X Y < 0)=false:=decide_eq_false hv;clear hX hY hlv;generalize f X=va at xa hc;generalize h X=vb at xb hc;generalize f Y=vc at ya hc;generalize h Y=vd at yb hc;generalize cf X Y=cv at hc hv hd;go_wp2_with fail
    go_quiet_grown (first | (go_at_fn 103;refine Calls.grown_of (hc _ _)))
    have S2:Aside (SWK (enc2 f h) 2 w0 blk 0 d (grow (wr.drewN nq) osq)):=S1.out.grown nq osq;clear xa xb ya yb hc S1;generalize grow (wr.drewN nq) osq=w2 at S2 ⊢;clear nq osq hv hd ea pa ba ra ec pc bc rc;go_wp2;go_roundw
    case rel=>exact ⟨q+1,j,by go_num,rfl,by omega,by omega,hj,S2,hid (.inr ⟨by omega,HL.out⟩),HJ⟩
    case measure=>simp [intOf];omega
   | true =>
    have HL:=hid (show ltOf cf d[mid+m - 1 - q]! d[q]! = true by rw [← hp];exact hlv);clear hp;have ea:((p:Int):Int).toNat=p:=by omega
    have pa:(0:Int)≤(p:Int):=by omega
    have ba:(p:Int) < (N:Int):=by omega
    have ra:IntKind.i64.wrap ((p:Int))=(p:Int):=by rw [IntKind.wrap_i64];omega
    have ec:((q:Int):Int).toNat=q:=by omega
    have pc:(0:Int)≤(q:Int):=by omega
    have bc:(q:Int) < (N:Int):=by omega
    have rc:IntKind.i64.wrap ((q:Int))=(q:Int):=by rw [IntKind.wrap_i64];omega
    obtain ⟨X,hX⟩:∃ x,x=d[p]!:=⟨_,rfl⟩;obtain ⟨Y,hY⟩:∃ x,x=d[q]!:=⟨_,rfl⟩;have xa:=fun n os=>(at2 (S1.out.grown n os) R (by omega) (p) (by omega)).1
    have xb:=fun n os=>(at2 (S1.out.grown n os) R (by omega) (p) (by omega)).2.1
    have ya:=fun n os=>(at2 (S1.out.grown n os) R (by omega) (q) (by omega)).1
    have yb:=fun n os=>(at2 (S1.out.grown n os) R (by omega) (q) (by omega)).2.1
    rw [← hX] at xa xb;rw [← hY] at ya yb;have hc:=S1.out.cmp HC.out (by omega) X Y;simp only [enc2,Array.append_empty] at hc;have hv:cf X Y < 0:=by rw [hX,hY];exact of_decide_eq_true hlv
    have hd:decide (cf X Y < 0)=true:=decide_eq_true hv;clear hX hY hlv;generalize f X=va at xa hc;generalize h X=vb at xb hc;generalize f Y=vc at ya hc;generalize h Y=vd at yb hc;generalize cf X Y=cv at hc hv hd;go_wp2_with fail
    go_quiet_grown (first | (go_at_fn 103;refine Calls.grown_of (hc _ _)))
    have S2:Aside (SWK (enc2 f h) 2 w0 blk 0 d (grow (wr.drewN nq) osq)):=S1.out.grown nq osq;clear xa xb ya yb hc S1;generalize grow (wr.drewN nq) osq=w2 at S2 ⊢;clear nq osq hv hd ea pa ba ra ec pc bc rc;go_wp2;go_roundw
    case rel=>exact ⟨i,q,rfl,rfl,hi,by omega,by omega,S2,HI,hid (.inr HL.out)⟩
    case measure=>simp [intOf];omega
  ·have hltz:¬ (i:Int) < (j:Int):=by omega
   obtain ⟨s,hs1⟩:∃ s,s=i:=⟨_,rfl⟩;obtain rfl:i=j:=by omega
   rw [← hs1] at HI HJ hi hj hltz ⊢;clear hs1 hlt hij;obtain ⟨e,he⟩:∃ e,e=mid+m - s:=⟨_,rfl⟩;have n1:e+s=mid+m:=by omega
   have n2:(mid:Int)+(m:Int) - (s:Int)=(e:Int):=by omega
   have n3:IntKind.i64.wrap ((mid:Int)+(m:Int) - (s:Int))=(e:Int):=by rw [IntKind.wrap_i64];omega
   have HA:Hid (s=a∨e=b∨ltOf cf d[e]! d[s - 1]! = false):=hid (by
    rcases HI.out with h1 | ⟨_,h1⟩
    ·exact .inr (.inl (by omega))
    ·exact .inr (.inr (by rw [he];exact h1)))
   have HB:Hid (s=m∨e=m∨ltOf cf d[s]! d[e - 1]! = false):=hid (by
    rcases HJ.out with h1 | h1
    ·exact .inr (.inl (by omega))
    ·exact .inr (.inr (HOr.out.asymmA (by rw [show e - 1=mid+m - 1 - s by omega];exact h1))))
   clear he HI HJ;by_cases x1:s < m
   ·by_cases x2:m < e
    ·by_cases x3:a < s
     ·by_cases x4:e < b
      ·skip
       have z1:(s:Int) < (m:Int):=by omega
       have z2:(m:Int) < (e:Int):=by omega
       have z3:(a:Int) < (s:Int):=by omega
       have z4:(s:Int) < (mid:Int):=by omega
       have z5:(mid:Int) < (e:Int):=by omega
       have z6:(e:Int) < (b:Int):=by omega
       have hrot:=rotateR_any R N HN.out hM 103 s m e cap d wr hs S1.out (by omega) (by omega) (by omega);go_wp2_with (go_at_call 329;refine hrot.mono ?_;rintro e w2 ⟨rfl,d1,hR,S2⟩)
       replace S2:Aside _:=S2
       have HRo:=hid hR;have z7:d1.size=N:=hR.perm.1.trans hs;have hP:=rot_parts HU.out HV.out (by omega) (by omega) (by omega) (by omega) hR;have hm:mid=s+(e - m):=by omega
       rw [← hm] at hP;have hl:=HIH.out a s mid d1 w2 (by omega) z7 S2.out (by omega) (by omega) (by omega) hP.1 hP.2.1;have HP:=hid hP;clear hP hR hm;go_wp2_with (go_at_call_has 299 (Value.int IntKind.i64 (a:Int));refine hl.mono ?_;rintro e w3 ⟨rfl,d2,⟨p2,s2⟩,S3⟩)
       replace S3:Aside _:=S3
       have z8:d2.size=N:=p2.1.trans z7;have P2:=hid (And.intro p2 s2);have hq3:=SortedIn.same HP.out.2.2.1 p2 (.inr (Nat.le_refl _));have hq4:=SortedIn.same HP.out.2.2.2 p2 (.inr (by omega));clear p2 s2;have hl2:=HIH.out mid e b d2 w3 (by omega) z8 S3.out (by omega) (by omega) (by omega) hq3 hq4;clear hq3 hq4;go_wp2_with (go_at_call 299;refine hl2.mono ?_;rintro e w4 ⟨rfl,d3,⟨p3,s3⟩,S4⟩)
       go_end0
       have S4:Aside _:=S4;exact ⟨rfl,d3,mer_of HU.out HV.out (by omega) (by omega) (by omega) (by omega) HRo.out HOr.out (by omega) HA.out HB.out (by omega) P2.out.1 P2.out.2 p3 s3,S4.out⟩
      ·skip
       have z1:(s:Int) < (m:Int):=by omega
       have z2:(m:Int) < (e:Int):=by omega
       have z3:(a:Int) < (s:Int):=by omega
       have z4:(s:Int) < (mid:Int):=by omega
       have z5:(mid:Int) < (e:Int):=by omega
       have z6:¬ (e:Int) < (b:Int):=by omega
       have hrot:=rotateR_any R N HN.out hM 103 s m e cap d wr hs S1.out (by omega) (by omega) (by omega);go_wp2_with (go_at_call 329;refine hrot.mono ?_;rintro e w2 ⟨rfl,d1,hR,S2⟩)
       replace S2:Aside _:=S2
       have HRo:=hid hR;have z7:d1.size=N:=hR.perm.1.trans hs;have hP:=rot_parts HU.out HV.out (by omega) (by omega) (by omega) (by omega) hR;have hm:mid=s+(e - m):=by omega
       rw [← hm] at hP;have hl:=HIH.out a s mid d1 w2 (by omega) z7 S2.out (by omega) (by omega) (by omega) hP.1 hP.2.1;have HP:=hid hP;clear hP hR hm;go_wp2_with (go_at_call_has 299 (Value.int IntKind.i64 (a:Int));refine hl.mono ?_;rintro e w3 ⟨rfl,d2,⟨p2,s2⟩,S3⟩)
       replace S3:Aside _:=S3
       have z8:d2.size=N:=p2.1.trans z7;have P2:=hid (And.intro p2 s2);have hq3:=SortedIn.same HP.out.2.2.1 p2 (.inr (Nat.le_refl _));have hq4:=SortedIn.same HP.out.2.2.2 p2 (.inr (by omega));clear p2 s2;have s3:SortedIn (ltOf cf) mid b d2:=by
        have e1:b=e:=by omega
        rw [e1];exact hq3
       clear hq3 hq4;go_wp2;go_end0
       exact ⟨rfl,d2,mer_of HU.out HV.out (by omega) (by omega) (by omega) (by omega) HRo.out HOr.out (by omega) HA.out HB.out (by omega) P2.out.1 P2.out.2 (permIn_refl _ _ _) s3,S3.out⟩
     ·by_cases x4:e < b
      ·skip
       have z1:(s:Int) < (m:Int):=by omega
       have z2:(m:Int) < (e:Int):=by omega
       have z3:¬ (a:Int) < (s:Int):=by omega
       have z4:(s:Int) < (mid:Int):=by omega
       have z5:(mid:Int) < (e:Int):=by omega
       have z6:(e:Int) < (b:Int):=by omega
       have hrot:=rotateR_any R N HN.out hM 103 s m e cap d wr hs S1.out (by omega) (by omega) (by omega);go_wp2_with (go_at_call 329;refine hrot.mono ?_;rintro e w2 ⟨rfl,d1,hR,S2⟩)
       replace S2:Aside _:=S2
       have HRo:=hid hR;have z7:d1.size=N:=hR.perm.1.trans hs;have hP:=rot_parts HU.out HV.out (by omega) (by omega) (by omega) (by omega) hR;have hm:mid=s+(e - m):=by omega
       rw [← hm] at hP;have s2:SortedIn (ltOf cf) a mid d1:=by
        have h:=hP.2.1;have e1:a=s:=by omega
        rw [← e1] at h;exact h
       have HP:=hid hP;clear hP hR hm;have p2:=permIn_refl d1 a mid;have S3:=S2;obtain ⟨w3,hw3⟩:∃ w3,w2=w3:=⟨_,rfl⟩;rw [hw3] at S3 ⊢;clear hw3;obtain ⟨d2,hd2⟩:∃ d2,d2=d1:=⟨_,rfl⟩;rw [← hd2] at S3 s2;replace p2:PermIn a mid d1 d2:=by rw [hd2];exact p2
       clear hd2;go_wp2_with fail;have z8:d2.size=N:=p2.1.trans z7;have P2:=hid (And.intro p2 s2);have hq3:=SortedIn.same HP.out.2.2.1 p2 (.inr (Nat.le_refl _));have hq4:=SortedIn.same HP.out.2.2.2 p2 (.inr (by omega));clear p2 s2;have hl2:=HIH.out mid e b d2 w3 (by omega) z8 S3.out (by omega) (by omega) (by omega) hq3 hq4;clear hq3 hq4;go_wp2_with (go_at_call 299;refine hl2.mono ?_;rintro e w4 ⟨rfl,d3,⟨p3,s3⟩,S4⟩)
       go_end0
       have S4:Aside _:=S4;exact ⟨rfl,d3,mer_of HU.out HV.out (by omega) (by omega) (by omega) (by omega) HRo.out HOr.out (by omega) HA.out HB.out (by omega) P2.out.1 P2.out.2 p3 s3,S4.out⟩
      ·skip
       have z1:(s:Int) < (m:Int):=by omega
       have z2:(m:Int) < (e:Int):=by omega
       have z3:¬ (a:Int) < (s:Int):=by omega
       have z4:(s:Int) < (mid:Int):=by omega
       have z5:(mid:Int) < (e:Int):=by omega
       have z6:¬ (e:Int) < (b:Int):=by omega
       have hrot:=rotateR_any R N HN.out hM 103 s m e cap d wr hs S1.out (by omega) (by omega) (by omega);go_wp2_with (go_at_call 329;refine hrot.mono ?_;rintro e w2 ⟨rfl,d1,hR,S2⟩)
       replace S2:Aside _:=S2
       have HRo:=hid hR;have z7:d1.size=N:=hR.perm.1.trans hs;have hP:=rot_parts HU.out HV.out (by omega) (by omega) (by omega) (by omega) hR;have hm:mid=s+(e - m):=by omega
       rw [← hm] at hP;have s2:SortedIn (ltOf cf) a mid d1:=by
        have h:=hP.2.1;have e1:a=s:=by omega
        rw [← e1] at h;exact h
       have HP:=hid hP;clear hP hR hm;have p2:=permIn_refl d1 a mid;have S3:=S2;obtain ⟨w3,hw3⟩:∃ w3,w2=w3:=⟨_,rfl⟩;rw [hw3] at S3 ⊢;clear hw3;obtain ⟨d2,hd2⟩:∃ d2,d2=d1:=⟨_,rfl⟩;rw [← hd2] at S3 s2;replace p2:PermIn a mid d1 d2:=by rw [hd2];exact p2
       clear hd2;go_wp2_with fail;have z8:d2.size=N:=p2.1.trans z7;have P2:=hid (And.intro p2 s2);have hq3:=SortedIn.same HP.out.2.2.1 p2 (.inr (Nat.le_refl _));have hq4:=SortedIn.same HP.out.2.2.2 p2 (.inr (by omega));clear p2 s2;have s3:SortedIn (ltOf cf) mid b d2:=by
        have e1:b=e:=by omega
        rw [e1];exact hq3
       clear hq3 hq4;go_wp2;go_end0
       exact ⟨rfl,d2,mer_of HU.out HV.out (by omega) (by omega) (by omega) (by omega) HRo.out HOr.out (by omega) HA.out HB.out (by omega) P2.out.1 P2.out.2 (permIn_refl _ _ _) s3,S3.out⟩
    ·skip
     have x3:a < s:=by omega
     have x4:e < b:=by omega
     have z1:(s:Int) < (m:Int):=by omega
     have z2:¬ (m:Int) < (e:Int):=by omega
     have z3:(a:Int) < (s:Int):=by omega
     have z4:¬ (s:Int) < (mid:Int):=by omega
     have z5:(mid:Int) < (e:Int):=by omega
     have z6:(e:Int) < (b:Int):=by omega
     go_wp2_with fail;have hR:Rot d s m e d:=Rot.none (by omega) (by omega) (by omega);have S2:=S1;obtain ⟨w2,hw2⟩:∃ w2,wr=w2:=⟨_,rfl⟩;rw [hw2] at S2 ⊢;clear hw2;obtain ⟨d1,hd1⟩:∃ d1,d=d1:=⟨_,rfl⟩;rw [hd1] at S2;replace hR:Rot d s m e d1:=by rw [← hd1];exact hR
     clear hd1;have HRo:=hid hR;have z7:d1.size=N:=hR.perm.1.trans hs;have hP:=rot_parts HU.out HV.out (by omega) (by omega) (by omega) (by omega) hR;have hm:mid=s+(e - m):=by omega
     rw [← hm] at hP;have s2:SortedIn (ltOf cf) a mid d1:=by
      have h:=hP.1;have e1:s=mid:=by omega
      rw [e1] at h;exact h
     have HP:=hid hP;clear hP hR hm;have p2:=permIn_refl d1 a mid;have S3:=S2;obtain ⟨w3,hw3⟩:∃ w3,w2=w3:=⟨_,rfl⟩;rw [hw3] at S3 ⊢;clear hw3;obtain ⟨d2,hd2⟩:∃ d2,d2=d1:=⟨_,rfl⟩;rw [← hd2] at S3 s2;replace p2:PermIn a mid d1 d2:=by rw [hd2];exact p2
     clear hd2;go_wp2_with fail;have z8:d2.size=N:=p2.1.trans z7;have P2:=hid (And.intro p2 s2);have hq3:=SortedIn.same HP.out.2.2.1 p2 (.inr (Nat.le_refl _));have hq4:=SortedIn.same HP.out.2.2.2 p2 (.inr (by omega));clear p2 s2;have hl2:=HIH.out mid e b d2 w3 (by omega) z8 S3.out (by omega) (by omega) (by omega) hq3 hq4;clear hq3 hq4;go_wp2_with (go_at_call 299;refine hl2.mono ?_;rintro e w4 ⟨rfl,d3,⟨p3,s3⟩,S4⟩)
     go_end0
     have S4:Aside _:=S4;exact ⟨rfl,d3,mer_of HU.out HV.out (by omega) (by omega) (by omega) (by omega) HRo.out HOr.out (by omega) HA.out HB.out (by omega) P2.out.1 P2.out.2 p3 s3,S4.out⟩
   ·exfalso;omega
end
end
section
open Go Go.RowKit Go.Sort Go.Shelf
section
variable {α:Type} [Inhabited α] {f h:α→Value} {w0:World} {blk:Nat} {d0:Array α}
set_option maxHeartbeats 8000000 in
set_option maxRecDepth 1000000 in
theorem symMergeDR_any (cf:α→α→Int) (hO:SWO (ltOf cf)) (hcmp:CmpLays Tryz.prog 103 #[] (enc2 f h) 2 cf blk 0 d0.size w0) (eg:∀ args w,(callFunc 103 args).run Tryz.prog w=.ok (.enter 103 args) w) (R:RowK (enc2 f h) 2 w0 blk 0 d0) (N:Nat) (hN:d0.size=N) (hM:N≤1000000000000) (cap:Nat) (K:Nat) (ih:∀ (a m b:Nat) (d:Array α) (w:World),b - a≤K→d.size=N→SWK (enc2 f h) 2 w0 blk 0 d w→a < m→m < b→b≤N→SortedIn (ltOf cf) a m d→SortedIn (ltOf cf) m b d→Calls Tryz.prog 299 #[.slice (some ⟨blk,0,none⟩) N cap,.int .i64 (a:Int),.int .i64 (m:Int),.int .i64 (b:Int),.func (.func 103) #[] #[]] w fun e w'=>e=.returned (.tuple #[])∧∃ d',(PermIn a b d d'∧SortedIn (ltOf cf) a b d')∧SWK (enc2 f h) 2 w0 blk 0 d' w') (a m b:Nat) (d:Array α) (w:World) (hs:d.size=N) (S:SWK (enc2 f h) 2 w0 blk 0 d w) (ham:a < m) (hmb:m < b) (hb:b≤N) (hU:SortedIn (ltOf cf) a m d) (hV:SortedIn (ltOf cf) m b d) (hA1:¬ m≤a+1) (hB1:¬ b≤m+1) (mid:Nat) (m1:2*mid≤a+b) (m2:a+b < 2*mid+2) (hK:b - a≤K+1) (hbig:¬ mid < m) :
  Calls Tryz.prog 299 #[.slice (some ⟨blk,0,none⟩) N cap,.int .i64 (a:Int),.int .i64 (m:Int),.int .i64 (b:Int),.func (.func 103) #[] #[]] w fun e w'=>e=.returned (.tuple #[])∧∃ d',(PermIn a b d d'∧SortedIn (ltOf cf) a b d')∧SWK (enc2 f h) 2 w0 blk 0 d' w':=by
 have HIH:=hid ih;clear ih;have S0:Aside (SWK (enc2 f h) 2 w0 blk 0 d w):=S;have HN:=hid hN;have HC:Aside _:=hcmp;have HOr:=hid hO;have HU:=hid hU;have HV:=hid hV;clear S hN hcmp hO hU hV;have mixed:Tryz.prog.follows .mixedOrders=true:=by kernel_rfl
 have hN0:d.size=d0.size:=by rw [HN.out,hs]
 have k1:IntKind.i64.wrap ((m:Int) - (a:Int))=(m:Int) - (a:Int):=by rw [IntKind.wrap_i64];omega
 have k2:IntKind.i64.wrap ((b:Int) - (m:Int))=(b:Int) - (m:Int):=by rw [IntKind.wrap_i64];omega
 have _:=ham;have _:=hmb;have g1:(((m:Int) - (a:Int)) == 1)=false:=by rw [beq_eq_false_iff_ne];omega
 have g2:(((b:Int) - (m:Int)) == 1)=false:=by rw [beq_eq_false_iff_ne];omega
 have m3:((a:Int)+(b:Int)) / 2=(mid:Int):=by omega
 have m4:IntKind.i64.wrap ((a:Int)+(b:Int))=(a:Int)+(b:Int):=by rw [IntKind.wrap_i64];omega
 have m5:IntKind.u64.wrap ((a:Int)+(b:Int))=(a:Int)+(b:Int):=by rw [IntKind.wrap_u64];omega
 have m6:IntKind.i64.wrap ((mid:Int)+(m:Int))=(mid:Int)+(m:Int):=by rw [IntKind.wrap_i64];omega
 have m7:IntKind.i64.wrap ((mid:Int)+(m:Int) - 1)=(mid:Int)+(m:Int) - 1:=by rw [IntKind.wrap_i64];omega
 have hbz:¬ (mid:Int) < (m:Int):=by omega
 go_enter Tryz.func299,Tryz.ntmps299
 go_wp2;go_loopw [20,21] (fun s20 s21 wr=>∃ (i j:Nat),s20=.int .i64 i∧s21=.int .i64 j∧a≤i∧i≤j∧j≤m∧Aside (SWK (enc2 f h) 2 w0 blk 0 d wr)∧Hid (i=a∨(a < i∧ltOf cf d[mid+m - i]! d[i - 1]! = false))∧Hid (j=m∨ltOf cf d[mid+m - 1 - j]! d[j]! = true)) (fun s20 s21 _=>(intOf s21).toNat - (intOf s20).toNat)
 case atStart=>exact ⟨a,m,by first | rfl | (congr 1;omega),rfl,Nat.le_refl _,by omega,Nat.le_refl _,S0,hid (.inl rfl),hid (.inl rfl)⟩
 case round =>
  clear S0 k1 k2 g1 g2 m3 m4 m5 m6 m7 hbz;obtain ⟨i,j,rfl,rfl,hi,hij,hj,S1,HI,HJ⟩:=hrel;by_cases hlt:i < j
  ·have hltz:(i:Int) < (j:Int):=by omega
   obtain ⟨q,hq⟩:∃ q,(i+j) / 2=q:=⟨_,rfl⟩;have q1:2*q≤i+j:=by omega
   have q2:i+j < 2*q+2:=by omega
   have k3:IntKind.i64.wrap ((i:Int)+(j:Int))=(i:Int)+(j:Int):=by rw [IntKind.wrap_i64];omega
   have k4:IntKind.u64.wrap ((i:Int)+(j:Int))=(i:Int)+(j:Int):=by rw [IntKind.wrap_u64];omega
   have k5:((i:Int)+(j:Int)) / 2=(q:Int):=by omega
   clear hq;obtain ⟨p,hp⟩:∃ p,p=mid+m - 1 - q:=⟨_,rfl⟩;have p1:p+q+1=mid+m:=by omega
   have p2:(mid:Int)+(m:Int) - 1 - (q:Int)=(p:Int):=by omega
   have p3:IntKind.i64.wrap ((mid:Int)+(m:Int) - 1 - (q:Int))=(p:Int):=by rw [IntKind.wrap_i64];omega
   cases hlv:ltOf cf d[p]! d[q]! with
   | false =>
    have HL:=hid (show ltOf cf d[mid+m - (q+1)]! d[q+1 - 1]! = false by rw [Nat.add_sub_cancel,show mid+m - (q+1)=p by omega];exact hlv);clear hp;have ea:((p:Int):Int).toNat=p:=by omega
    have pa:(0:Int)≤(p:Int):=by omega
    have ba:(p:Int) < (N:Int):=by omega
    have ra:IntKind.i64.wrap ((p:Int))=(p:Int):=by rw [IntKind.wrap_i64];omega
    have ec:((q:Int):Int).toNat=q:=by omega
    have pc:(0:Int)≤(q:Int):=by omega
    have bc:(q:Int) < (N:Int):=by omega
    have rc:IntKind.i64.wrap ((q:Int))=(q:Int):=by rw [IntKind.wrap_i64];omega
    obtain ⟨X,hX⟩:∃ x,x=d[p]!:=⟨_,rfl⟩;obtain ⟨Y,hY⟩:∃ x,x=d[q]!:=⟨_,rfl⟩;have xa:=fun n os=>(at2 (S1.out.grown n os) R (by omega) (p) (by omega)).1
    have xb:=fun n os=>(at2 (S1.out.grown n os) R (by omega) (p) (by omega)).2.1
    have ya:=fun n os=>(at2 (S1.out.grown n os) R (by omega) (q) (by omega)).1
    have yb:=fun n os=>(at2 (S1.out.grown n os) R (by omega) (q) (by omega)).2.1
    rw [← hX] at xa xb;rw [← hY] at ya yb;have hc:=S1.out.cmp HC.out (by omega) X Y;simp only [enc2,Array.append_empty] at hc;have hv:¬ cf X Y < 0:=by rw [hX,hY];exact of_decide_eq_false hlv
    have hd:decide (cf X Y < 0)=false:=decide_eq_false hv;clear hX hY hlv;generalize f X=va at xa hc;generalize h X=vb at xb hc;generalize f Y=vc at ya hc;generalize h Y=vd at yb hc;generalize cf X Y=cv at hc hv hd;go_wp2_with fail
    go_quiet_grown (first | (go_at_fn 103;refine Calls.grown_of (hc _ _)))
    have S2:Aside (SWK (enc2 f h) 2 w0 blk 0 d (grow (wr.drewN nq) osq)):=S1.out.grown nq osq;clear xa xb ya yb hc S1;generalize grow (wr.drewN nq) osq=w2 at S2 ⊢;clear nq osq hv hd ea pa ba ra ec pc bc rc;go_wp2;go_roundw
    case rel=>exact ⟨q+1,j,by go_num,rfl,by omega,by omega,hj,S2,hid (.inr ⟨by omega,HL.out⟩),HJ⟩
    case measure=>simp [intOf];omega
   | true =>
    have HL:=hid (show ltOf cf d[mid+m - 1 - q]! d[q]! = true by rw [← hp];exact hlv);clear hp;have ea:((p:Int):Int).toNat=p:=by omega
    have pa:(0:Int)≤(p:Int):=by omega
    have ba:(p:Int) < (N:Int):=by omega
    have ra:IntKind.i64.wrap ((p:Int))=(p:Int):=by rw [IntKind.wrap_i64];omega
    have ec:((q:Int):Int).toNat=q:=by omega
    have pc:(0:Int)≤(q:Int):=by omega
    have bc:(q:Int) < (N:Int):=by omega
    have rc:IntKind.i64.wrap ((q:Int))=(q:Int):=by rw [IntKind.wrap_i64];omega
    obtain ⟨X,hX⟩:∃ x,x=d[p]!:=⟨_,rfl⟩;obtain ⟨Y,hY⟩:∃ x,x=d[q]!:=⟨_,rfl⟩;have xa:=fun n os=>(at2 (S1.out.grown n os) R (by omega) (p) (by omega)).1
    have xb:=fun n os=>(at2 (S1.out.grown n os) R (by omega) (p) (by omega)).2.1
    have ya:=fun n os=>(at2 (S1.out.grown n os) R (by omega) (q) (by omega)).1
    have yb:=fun n os=>(at2 (S1.out.grown n os) R (by omega) (q) (by omega)).2.1
    rw [← hX] at xa xb;rw [← hY] at ya yb;have hc:=S1.out.cmp HC.out (by omega) X Y;simp only [enc2,Array.append_empty] at hc;have hv:cf X Y < 0:=by rw [hX,hY];exact of_decide_eq_true hlv
    have hd:decide (cf X Y < 0)=true:=decide_eq_true hv;clear hX hY hlv;generalize f X=va at xa hc;generalize h X=vb at xb hc;generalize f Y=vc at ya hc;generalize h Y=vd at yb hc;generalize cf X Y=cv at hc hv hd;go_wp2_with fail
    go_quiet_grown (first | (go_at_fn 103;refine Calls.grown_of (hc _ _)))
    have S2:Aside (SWK (enc2 f h) 2 w0 blk 0 d (grow (wr.drewN nq) osq)):=S1.out.grown nq osq;clear xa xb ya yb hc S1;generalize grow (wr.drewN nq) osq=w2 at S2 ⊢;clear nq osq hv hd ea pa ba ra ec pc bc rc;go_wp2;go_roundw
    case rel=>exact ⟨i,q,rfl,rfl,hi,by omega,by omega,S2,HI,hid (.inr HL.out)⟩
    case measure=>simp [intOf];omega
  ·have hltz:¬ (i:Int) < (j:Int):=by omega
   obtain ⟨s,hs1⟩:∃ s,s=i:=⟨_,rfl⟩;obtain rfl:i=j:=by omega
   rw [← hs1] at HI HJ hi hj hltz ⊢;clear hs1 hlt hij;obtain ⟨e,he⟩:∃ e,e=mid+m - s:=⟨_,rfl⟩;have n1:e+s=mid+m:=by omega
   have n2:(mid:Int)+(m:Int) - (s:Int)=(e:Int):=by omega
   have n3:IntKind.i64.wrap ((mid:Int)+(m:Int) - (s:Int))=(e:Int):=by rw [IntKind.wrap_i64];omega
   have HA:Hid (s=a∨e=b∨ltOf cf d[e]! d[s - 1]! = false):=hid (by
    rcases HI.out with h1 | ⟨_,h1⟩
    ·exact .inl h1
    ·exact .inr (.inr (by rw [he];exact h1)))
   have HB:Hid (s=m∨e=m∨ltOf cf d[s]! d[e - 1]! = false):=hid (by
    rcases HJ.out with h1 | h1
    ·exact .inl h1
    ·exact .inr (.inr (HOr.out.asymmA (by rw [show e - 1=mid+m - 1 - s by omega];exact h1))))
   clear he HI HJ;by_cases x1:s < m
   ·by_cases x2:m < e
    ·by_cases x3:a < s
     ·by_cases x4:e < b
      ·skip
       have z1:(s:Int) < (m:Int):=by omega
       have z2:(m:Int) < (e:Int):=by omega
       have z3:(a:Int) < (s:Int):=by omega
       have z4:(s:Int) < (mid:Int):=by omega
       have z5:(mid:Int) < (e:Int):=by omega
       have z6:(e:Int) < (b:Int):=by omega
       have hrot:=rotateR_any R N HN.out hM 103 s m e cap d wr hs S1.out (by omega) (by omega) (by omega);go_wp2_with (go_at_call 329;refine hrot.mono ?_;rintro e w2 ⟨rfl,d1,hR,S2⟩)
       replace S2:Aside _:=S2
       have HRo:=hid hR;have z7:d1.size=N:=hR.perm.1.trans hs;have hP:=rot_parts HU.out HV.out (by omega) (by omega) (by omega) (by omega) hR;have hm:mid=s+(e - m):=by omega
       rw [← hm] at hP;have hl:=HIH.out a s mid d1 w2 (by omega) z7 S2.out (by omega) (by omega) (by omega) hP.1 hP.2.1;have HP:=hid hP;clear hP hR hm;go_wp2_with (go_at_call_has 299 (Value.int IntKind.i64 (a:Int));refine hl.mono ?_;rintro e w3 ⟨rfl,d2,⟨p2,s2⟩,S3⟩)
       replace S3:Aside _:=S3
       have z8:d2.size=N:=p2.1.trans z7;have P2:=hid (And.intro p2 s2);have hq3:=SortedIn.same HP.out.2.2.1 p2 (.inr (Nat.le_refl _));have hq4:=SortedIn.same HP.out.2.2.2 p2 (.inr (by omega));clear p2 s2;have hl2:=HIH.out mid e b d2 w3 (by omega) z8 S3.out (by omega) (by omega) (by omega) hq3 hq4;clear hq3 hq4;go_wp2_with (go_at_call 299;refine hl2.mono ?_;rintro e w4 ⟨rfl,d3,⟨p3,s3⟩,S4⟩)
       go_end0
       have S4:Aside _:=S4;exact ⟨rfl,d3,mer_of HU.out HV.out (by omega) (by omega) (by omega) (by omega) HRo.out HOr.out (by omega) HA.out HB.out (by omega) P2.out.1 P2.out.2 p3 s3,S4.out⟩
      ·skip
       have z1:(s:Int) < (m:Int):=by omega
       have z2:(m:Int) < (e:Int):=by omega
       have z3:(a:Int) < (s:Int):=by omega
       have z4:(s:Int) < (mid:Int):=by omega
       have z5:(mid:Int) < (e:Int):=by omega
       have z6:¬ (e:Int) < (b:Int):=by omega
       have hrot:=rotateR_any R N HN.out hM 103 s m e cap d wr hs S1.out (by omega) (by omega) (by omega);go_wp2_with (go_at_call 329;refine hrot.mono ?_;rintro e w2 ⟨rfl,d1,hR,S2⟩)
       replace S2:Aside _:=S2
       have HRo:=hid hR;have z7:d1.size=N:=hR.perm.1.trans hs;have hP:=rot_parts HU.out HV.out (by omega) (by omega) (by omega) (by omega) hR;have hm:mid=s+(e - m):=by omega
       rw [← hm] at hP;have hl:=HIH.out a s mid d1 w2 (by omega) z7 S2.out (by omega) (by omega) (by omega) hP.1 hP.2.1;have HP:=hid hP;clear hP hR hm;go_wp2_with (go_at_call_has 299 (Value.int IntKind.i64 (a:Int));refine hl.mono ?_;rintro e w3 ⟨rfl,d2,⟨p2,s2⟩,S3⟩)
       replace S3:Aside _:=S3
       have z8:d2.size=N:=p2.1.trans z7;have P2:=hid (And.intro p2 s2);have hq3:=SortedIn.same HP.out.2.2.1 p2 (.inr (Nat.le_refl _));have hq4:=SortedIn.same HP.out.2.2.2 p2 (.inr (by omega));clear p2 s2;have s3:SortedIn (ltOf cf) mid b d2:=by
        have e1:b=e:=by omega
        rw [e1];exact hq3
       clear hq3 hq4;go_wp2;go_end0
       exact ⟨rfl,d2,mer_of HU.out HV.out (by omega) (by omega) (by omega) (by omega) HRo.out HOr.out (by omega) HA.out HB.out (by omega) P2.out.1 P2.out.2 (permIn_refl _ _ _) s3,S3.out⟩
     ·by_cases x4:e < b
      ·skip
       have z1:(s:Int) < (m:Int):=by omega
       have z2:(m:Int) < (e:Int):=by omega
       have z3:¬ (a:Int) < (s:Int):=by omega
       have z4:(s:Int) < (mid:Int):=by omega
       have z5:(mid:Int) < (e:Int):=by omega
       have z6:(e:Int) < (b:Int):=by omega
       have hrot:=rotateR_any R N HN.out hM 103 s m e cap d wr hs S1.out (by omega) (by omega) (by omega);go_wp2_with (go_at_call 329;refine hrot.mono ?_;rintro e w2 ⟨rfl,d1,hR,S2⟩)
       replace S2:Aside _:=S2
       have HRo:=hid hR;have z7:d1.size=N:=hR.perm.1.trans hs;have hP:=rot_parts HU.out HV.out (by omega) (by omega) (by omega) (by omega) hR;have hm:mid=s+(e - m):=by omega
       rw [← hm] at hP;have s2:SortedIn (ltOf cf) a mid d1:=by
        have h:=hP.2.1;have e1:a=s:=by omega
        rw [← e1] at h;exact h
       have HP:=hid hP;clear hP hR hm;have p2:=permIn_refl d1 a mid;have S3:=S2;obtain ⟨w3,hw3⟩:∃ w3,w2=w3:=⟨_,rfl⟩;rw [hw3] at S3 ⊢;clear hw3;obtain ⟨d2,hd2⟩:∃ d2,d2=d1:=⟨_,rfl⟩;rw [← hd2] at S3 s2;replace p2:PermIn a mid d1 d2:=by rw [hd2];exact p2
       clear hd2;go_wp2_with fail;have z8:d2.size=N:=p2.1.trans z7;have P2:=hid (And.intro p2 s2);have hq3:=SortedIn.same HP.out.2.2.1 p2 (.inr (Nat.le_refl _));have hq4:=SortedIn.same HP.out.2.2.2 p2 (.inr (by omega));clear p2 s2;have hl2:=HIH.out mid e b d2 w3 (by omega) z8 S3.out (by omega) (by omega) (by omega) hq3 hq4;clear hq3 hq4;go_wp2_with (go_at_call 299;refine hl2.mono ?_;rintro e w4 ⟨rfl,d3,⟨p3,s3⟩,S4⟩)
       go_end0
       have S4:Aside _:=S4;exact ⟨rfl,d3,mer_of HU.out HV.out (by omega) (by omega) (by omega) (by omega) HRo.out HOr.out (by omega) HA.out HB.out (by omega) P2.out.1 P2.out.2 p3 s3,S4.out⟩
      ·skip
       have z1:(s:Int) < (m:Int):=by omega
       have z2:(m:Int) < (e:Int):=by omega
       have z3:¬ (a:Int) < (s:Int):=by omega
       have z4:(s:Int) < (mid:Int):=by omega
       have z5:(mid:Int) < (e:Int):=by omega
       have z6:¬ (e:Int) < (b:Int):=by omega
       have hrot:=rotateR_any R N HN.out hM 103 s m e cap d wr hs S1.out (by omega) (by omega) (by omega);go_wp2_with (go_at_call 329;refine hrot.mono ?_;rintro e w2 ⟨rfl,d1,hR,S2⟩)
       replace S2:Aside _:=S2
       have HRo:=hid hR;have z7:d1.size=N:=hR.perm.1.trans hs;have hP:=rot_parts HU.out HV.out (by omega) (by omega) (by omega) (by omega) hR;have hm:mid=s+(e - m):=by omega
       rw [← hm] at hP;have s2:SortedIn (ltOf cf) a mid d1:=by
        have h:=hP.2.1;have e1:a=s:=by omega
        rw [← e1] at h;exact h
       have HP:=hid hP;clear hP hR hm;have p2:=permIn_refl d1 a mid;have S3:=S2;obtain ⟨w3,hw3⟩:∃ w3,w2=w3:=⟨_,rfl⟩;rw [hw3] at S3 ⊢;clear hw3;obtain ⟨d2,hd2⟩:∃ d2,d2=d1:=⟨_,rfl⟩;rw [← hd2] at S3 s2;replace p2:PermIn a mid d1 d2:=by rw [hd2];exact p2
       clear hd2;go_wp2_with fail;have z8:d2.size=N:=p2.1.trans z7;have P2:=hid (And.intro p2 s2);have hq3:=SortedIn.same HP.out.2.2.1 p2 (.inr (Nat.le_refl _));have hq4:=SortedIn.same HP.out.2.2.2 p2 (.inr (by omega));clear p2 s2;have s3:SortedIn (ltOf cf) mid b d2:=by
        have e1:b=e:=by omega
        rw [e1];exact hq3
       clear hq3 hq4;go_wp2;go_end0
       exact ⟨rfl,d2,mer_of HU.out HV.out (by omega) (by omega) (by omega) (by omega) HRo.out HOr.out (by omega) HA.out HB.out (by omega) P2.out.1 P2.out.2 (permIn_refl _ _ _) s3,S3.out⟩
    ·exfalso;omega
   ·skip
    have x3:a < s:=by omega
    have x4:e < b:=by omega
    by_cases x2:m < e
    ·skip
     have z1:¬ (s:Int) < (m:Int):=by omega
     have z2:(m:Int) < (e:Int):=by omega
     have z3:(a:Int) < (s:Int):=by omega
     have z4:(s:Int) < (mid:Int):=by omega
     have z5:¬ (mid:Int) < (e:Int):=by omega
     have z6:(e:Int) < (b:Int):=by omega
     go_wp2_with fail;have hR:Rot d s m e d:=Rot.none (by omega) (by omega) (by omega);have S2:=S1;obtain ⟨w2,hw2⟩:∃ w2,wr=w2:=⟨_,rfl⟩;rw [hw2] at S2 ⊢;clear hw2;obtain ⟨d1,hd1⟩:∃ d1,d=d1:=⟨_,rfl⟩;rw [hd1] at S2;replace hR:Rot d s m e d1:=by rw [← hd1];exact hR
     clear hd1;have HRo:=hid hR;have z7:d1.size=N:=hR.perm.1.trans hs;have hP:=rot_parts HU.out HV.out (by omega) (by omega) (by omega) (by omega) hR;have hm:mid=s+(e - m):=by omega
     rw [← hm] at hP;have hl:=HIH.out a s mid d1 w2 (by omega) z7 S2.out (by omega) (by omega) (by omega) hP.1 hP.2.1;have HP:=hid hP;clear hP hR hm;go_wp2_with (go_at_call_has 299 (Value.int IntKind.i64 (a:Int));refine hl.mono ?_;rintro e w3 ⟨rfl,d2,⟨p2,s2⟩,S3⟩)
     replace S3:Aside _:=S3
     have z8:d2.size=N:=p2.1.trans z7;have P2:=hid (And.intro p2 s2);have hq3:=SortedIn.same HP.out.2.2.1 p2 (.inr (Nat.le_refl _));have hq4:=SortedIn.same HP.out.2.2.2 p2 (.inr (by omega));clear p2 s2;have s3:SortedIn (ltOf cf) mid b d2:=by
      have e1:e=mid:=by omega
      rw [← e1];exact hq4
     clear hq3 hq4;go_wp2;go_end0
     exact ⟨rfl,d2,mer_of HU.out HV.out (by omega) (by omega) (by omega) (by omega) HRo.out HOr.out (by omega) HA.out HB.out (by omega) P2.out.1 P2.out.2 (permIn_refl _ _ _) s3,S3.out⟩
    ·skip
     have z1:¬ (s:Int) < (m:Int):=by omega
     have z2:¬ (m:Int) < (e:Int):=by omega
     have z3:(a:Int) < (s:Int):=by omega
     have z4:¬ (s:Int) < (mid:Int):=by omega
     have z5:¬ (mid:Int) < (e:Int):=by omega
     have z6:(e:Int) < (b:Int):=by omega
     go_wp2_with fail;have hR:Rot d s m e d:=Rot.none (by omega) (by omega) (by omega);have S2:=S1;obtain ⟨w2,hw2⟩:∃ w2,wr=w2:=⟨_,rfl⟩;rw [hw2] at S2 ⊢;clear hw2;obtain ⟨d1,hd1⟩:∃ d1,d=d1:=⟨_,rfl⟩;rw [hd1] at S2;replace hR:Rot d s m e d1:=by rw [← hd1];exact hR
     clear hd1;have HRo:=hid hR;have z7:d1.size=N:=hR.perm.1.trans hs;have hP:=rot_parts HU.out HV.out (by omega) (by omega) (by omega) (by omega) hR;have hm:mid=s+(e - m):=by omega
     rw [← hm] at hP;have s2:SortedIn (ltOf cf) a mid d1:=by
      have h:=hP.1;have e1:s=mid:=by omega
      rw [e1] at h;exact h
     have HP:=hid hP;clear hP hR hm;have p2:=permIn_refl d1 a mid;have S3:=S2;obtain ⟨w3,hw3⟩:∃ w3,w2=w3:=⟨_,rfl⟩;rw [hw3] at S3 ⊢;clear hw3;obtain ⟨d2,hd2⟩:∃ d2,d2=d1:=⟨_,rfl⟩;rw [← hd2] at S3 s2;replace p2:PermIn a mid d1 d2:=by rw [hd2];exact p2
     clear hd2;go_wp2_with fail;have z8:d2.size=N:=p2.1.trans z7;have P2:=hid (And.intro p2 s2);have hq3:=SortedIn.same HP.out.2.2.1 p2 (.inr (Nat.le_refl _));have hq4:=SortedIn.same HP.out.2.2.2 p2 (.inr (by omega));clear p2 s2;have s3:SortedIn (ltOf cf) mid b d2:=by
      have e1:e=mid:=by omega
      rw [← e1];exact hq4
     clear hq3 hq4;go_wp2;go_end0
     exact ⟨rfl,d2,mer_of HU.out HV.out (by omega) (by omega) (by omega) (by omega) HRo.out HOr.out (by omega) HA.out HB.out (by omega) P2.out.1 P2.out.2 (permIn_refl _ _ _) s3,S3.out⟩
end
end
end Go.Proofs.YticphebaflnedaaGreatDoor
