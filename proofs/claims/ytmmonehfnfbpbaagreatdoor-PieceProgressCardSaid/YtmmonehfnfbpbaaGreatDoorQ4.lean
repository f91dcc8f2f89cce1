/- Laws that the last text builds on. -/
import Derived.Test.YtmmonehfnfbpbaaGreatDoorQ3
namespace Go.Proofs.YtmmonehfnfbpbaaGreatDoor
open Go.Lib(hid)
section
open Go Go.RowKit Go.Lib
theorem parse_any (w:World) (b:Nat) (A:Option Addr) (n c:Nat) (xs:List Nat) (hn:n=xs.length) (hnc:n≤c) (hm:n≤1000000000) (hr:Rd w b A (cN .u8 xs)) (hA:A=none→c=0) (hx:∀ x∈xs,x < 256) (hG:Gl w) :
  Calls Tryz.prog 103 #[.slice A n c] w (ParW w (parseP xs)):=by
 by_cases h:xs=[]
 ·exact parse_nil w A n c xs hn h hA hG
 ·rcases hr with h2 | h2
  ·exact (h (List.map_eq_nil_iff.1 h2)).elim
  ·obtain ⟨o,rfl,h3,h4⟩:=h2;exact parse_some w b o n c xs hn hnc hm (.inr ⟨o,rfl,h3,h4⟩) hx hG
theorem SecD.kp3 {W W':World} {g p k:Nat} {v:Value} {l:List Nat} (h:SecD W g p v l) (hk:Kp k k W W') (e:k≤g):SecD W' g p v l:=by
 obtain ⟨b',A',c',h1,h2,h3,h4,h5,h6,h7⟩:=h;exact ⟨b',A',c',h1,h2.kp hk (by omega) (by omega),h3,h4,h5,h6,h7⟩
def PrsW (w:World) (X:Except Nat Secs) (e:Ending) (w':World):Prop :=
 match X with
 | .ok s=>∃ (g p:Nat) (v0 v1 v2 v3:Value),e=.returned (.tuple #[.agg #[v0,v1,v2,v3],.int .i64 0])∧SecD w' g p v0 s.1∧SecD w' g p v1 s.2.1∧SecD w' g p v2 s.2.2.1∧SecD w' g p v3 s.2.2.2∧Nw w w'
 | .error k=>e=.returned (.tuple #[.agg #[nilS,nilS,nilS,nilS],.int .i64 (k:Int)])∧k≠0∧Nw w w'
set_option maxRecDepth 100000 in
theorem Certain_any (w:World) (b:Nat) (A:Option Addr) (n c:Nat) (xs:List Nat) (hn:n=xs.length) (hnc:n≤c) (hm:n≤1000000000) (hr:Rd w b A (cN .u8 xs)) (hA:A=none→c=0) (hx:∀ x∈xs,x < 256) (hG:Gl w) :
  Calls Tryz.prog 79 #[.slice A n c] w fun e w'=>e=.returned (.int .i64 (certP xs:Nat))∧Nw w w':=by
 have HP:=hid (parse_any w b A n c xs hn hnc hm hr hA hx hG);unfold certP;clear hn hr hA hx hG;cases hp:parseP xs with
 | ok s =>
  rw [hp] at HP;dsimp only;clear hp;go_enter Tryz.func79,Tryz.ntmps79
  go_wp2_with fail;refine HP.out.mono ?_;rintro e w1 ⟨g,p,v0,v1,v2,v3,q0,q1,q2,q3,q4,rfl,D0,D1,D2,D3,hg,hN⟩;obtain ⟨_,A0,c0,rfl,_⟩:=D0;obtain ⟨_,A1,c1,rfl,_⟩:=D1;obtain ⟨_,A2,c2,rfl,_⟩:=D2;obtain ⟨_,A3,c3,rfl,_⟩:=D3;have HN:=hid hN;clear hN hg;go_wp2_with fail;go_ret;exact ⟨rfl,(HN.out.alloc' _).alloc' _⟩
 | error k =>
  rw [hp] at HP;dsimp only;have hk:=parseP_nz hp;clear hp;by_cases h3:k=3
  ·have h3b:((k:Int) != 3)=false:=by rw [bne_eq_false_iff_eq];omega
   rw [if_pos h3];clear h3 hk;go_enter Tryz.func79,Tryz.ntmps79
   go_wp2_with fail;refine HP.out.mono ?_;rintro e w1 ⟨rfl,_,hN⟩;have HN:=hid hN;clear hN;go_wp2_with fail;go_ret;exact ⟨rfl,(HN.out.alloc' _).alloc' _⟩
  ·have h3b:((k:Int) != 3)=true:=by rw [bne_iff_ne];omega
   rw [if_neg h3];clear h3 hk;go_enter Tryz.func79,Tryz.ntmps79
   go_wp2_with fail;refine HP.out.mono ?_;rintro e w1 ⟨rfl,_,hN⟩;have HN:=hid hN;clear hN;go_wp2_with fail;go_ret;exact ⟨rfl,(HN.out.alloc' _).alloc' _⟩
set_option maxRecDepth 100000 in
theorem ParseL_any (w:World) (b:Nat) (A:Option Addr) (n c:Nat) (xs:List Nat) (hn:n=xs.length) (hnc:n≤c) (hm:n≤1000000000) (hr:Rd w b A (cN .u8 xs)) (hA:A=none→c=0) (hx:∀ x∈xs,x < 256) (hG:Gl w) :
  Calls Tryz.prog 53 #[.slice A n c] w (PrsW w (parseP xs)):=by
 have hN0:Nw w (w.alloc (.cells #[nilS,nilS,nilS,nilS] 52)):=(Nw.refl w).alloc' _;have HP:=hid (parse_any _ b A n c xs hn hnc hm (hr.nw hN0) hA hx (hG.nw hN0));have hb0:=heap_alloc_new w (.cells #[nilS,nilS,nilS,nilS] 52);have HB0:=hid hb0;have HN0:=hid hN0;clear hn hr hA hx hG hb0 hN0;cases hp:parseP xs with
 | ok s =>
  rw [hp] at HP;clear hp;go_enter Tryz.func53,Tryz.ntmps53
  go_wp2_with fail;refine HP.out.mono ?_;rintro e w1 ⟨g,p,v0,v1,v2,v3,q0,q1,q2,q3,q4,rfl,D0,D1,D2,D3,hg,hN⟩;have HD:=hid (And.intro D0 (And.intro D1 (And.intro D2 D3)));obtain ⟨_,A0,c0,rfl,_⟩:=D0;obtain ⟨_,A1,c1,rfl,_⟩:=D1;obtain ⟨_,A2,c2,rfl,_⟩:=D2;obtain ⟨_,A3,c3,rfl,_⟩:=D3;have hb1:=(hN.block _ (lt_of_block HB0.out)).trans HB0.out;have hb2:∀ o1 o2:Obj,((w1.alloc o1).alloc o2).heap[w.heap.size]? = some (.cells #[nilS,nilS,nilS,nilS] 52 (0,0)):=fun o1 o2=>by
   have hl:=lt_of_block hb1;rw [heap_alloc_old _ _ (by rw [World.size_alloc];omega),heap_alloc_old _ _ hl];exact hb1
  have z0:∀ o1 o2:Obj,((w1.alloc o1).alloc o2).cell? ⟨w.heap.size,0,none⟩=some nilS:=fun o1 o2=>cell_at (k:=0) (hb2 o1 o2)
  have z1:∀ o1 o2:Obj,((w1.alloc o1).alloc o2).cell? ⟨w.heap.size,1,none⟩=some nilS:=fun o1 o2=>cell_at (k:=1) (hb2 o1 o2)
  have z2:∀ o1 o2:Obj,((w1.alloc o1).alloc o2).cell? ⟨w.heap.size,2,none⟩=some nilS:=fun o1 o2=>cell_at (k:=2) (hb2 o1 o2)
  have z3:∀ o1 o2:Obj,((w1.alloc o1).alloc o2).cell? ⟨w.heap.size,3,none⟩=some nilS:=fun o1 o2=>cell_at (k:=3) (hb2 o1 o2)
  have zf0:∀ o1 o2:Obj,((w1.alloc o1).alloc o2).frozen? ⟨w.heap.size,0,none⟩=false:=fun o1 o2=>at_freeL (hb2 o1 o2)
  have zf1:∀ o1 o2:Obj,((w1.alloc o1).alloc o2).frozen? ⟨w.heap.size,1,none⟩=false:=fun o1 o2=>at_freeL (hb2 o1 o2)
  have zf2:∀ o1 o2:Obj,((w1.alloc o1).alloc o2).frozen? ⟨w.heap.size,2,none⟩=false:=fun o1 o2=>at_freeL (hb2 o1 o2)
  have zf3:∀ o1 o2:Obj,((w1.alloc o1).alloc o2).frozen? ⟨w.heap.size,3,none⟩=false:=fun o1 o2=>at_freeL (hb2 o1 o2)
  have HB2:=hid hb2;clear hb2;have HG2:=hid hg;have HN:=hid hN;have HB1:=hid hb1;clear hN hg hb1;go_wp2_with fail;refine bodyPost_ret (results_ct rfl _ _ ⟨w.heap.size,0,none⟩ rfl (run_load4 (set4_at (HB2.out _ _) _ _ _ _))) rfl ?_;have hK:=set4_kp ((w1.alloc (.cells #[.slice A0 s.1.length c0,.slice A1 s.2.1.length c1,.slice A2 s.2.2.1.length c2,.slice A3 s.2.2.2.length c3] 52)).alloc (.cells #[.int .i64 (q0:Int),.int .i64 (q1:Int),.int .i64 (q2:Int),.int .i64 (q3:Int),.int .i64 (q4:Int)] 80)) w.heap.size (.slice A0 s.1.length c0) (.slice A1 s.2.1.length c1) (.slice A2 s.2.2.1.length c2) (.slice A3 s.2.2.2.length c3);have hN2:Nw w1 ((w1.alloc (.cells #[.slice A0 s.1.length c0,.slice A1 s.2.1.length c1,.slice A2 s.2.2.1.length c2,.slice A3 s.2.2.2.length c3] 52)).alloc (.cells #[.int .i64 (q0:Int),.int .i64 (q1:Int),.int .i64 (q2:Int),.int .i64 (q3:Int),.int .i64 (q4:Int)] 80)):=((Nw.refl w1).alloc' _).alloc' _;obtain ⟨D0,D1,D2,D3⟩:=HD.out;have hg2:w.heap.size≤g:=by have:=HG2.out;simp only [World.size_alloc] at this;omega
  exact ⟨g,p,_,_,_,_,rfl,(D0.nw hN2).kp3 hK hg2,(D1.nw hN2).kp3 hK hg2,(D2.nw hN2).kp3 hK hg2,(D3.nw hN2).kp3 hK hg2,Kp.nw ((HN0.out.trans HN.out).trans hN2) hK (Nat.le_refl _) (Nat.le_refl _)⟩
 | error k =>
  rw [hp] at HP;clear hp;go_enter Tryz.func53,Tryz.ntmps53
  go_wp2_with fail;refine HP.out.mono ?_;rintro e w1 ⟨rfl,hk,hN⟩;have hb1:=(hN.block _ (lt_of_block HB0.out)).trans HB0.out;have hb2:∀ o1 o2:Obj,((w1.alloc o1).alloc o2).heap[w.heap.size]? = some (.cells #[nilS,nilS,nilS,nilS] 52 (0,0)):=fun o1 o2=>by
   have hl:=lt_of_block hb1;rw [heap_alloc_old _ _ (by rw [World.size_alloc];omega),heap_alloc_old _ _ hl];exact hb1
  have z0:∀ o1 o2:Obj,((w1.alloc o1).alloc o2).cell? ⟨w.heap.size,0,none⟩=some nilS:=fun o1 o2=>cell_at (k:=0) (hb2 o1 o2)
  have z1:∀ o1 o2:Obj,((w1.alloc o1).alloc o2).cell? ⟨w.heap.size,1,none⟩=some nilS:=fun o1 o2=>cell_at (k:=1) (hb2 o1 o2)
  have z2:∀ o1 o2:Obj,((w1.alloc o1).alloc o2).cell? ⟨w.heap.size,2,none⟩=some nilS:=fun o1 o2=>cell_at (k:=2) (hb2 o1 o2)
  have z3:∀ o1 o2:Obj,((w1.alloc o1).alloc o2).cell? ⟨w.heap.size,3,none⟩=some nilS:=fun o1 o2=>cell_at (k:=3) (hb2 o1 o2)
  have zf0:∀ o1 o2:Obj,((w1.alloc o1).alloc o2).frozen? ⟨w.heap.size,0,none⟩=false:=fun o1 o2=>at_freeL (hb2 o1 o2)
  have zf1:∀ o1 o2:Obj,((w1.alloc o1).alloc o2).frozen? ⟨w.heap.size,1,none⟩=false:=fun o1 o2=>at_freeL (hb2 o1 o2)
  have zf2:∀ o1 o2:Obj,((w1.alloc o1).alloc o2).frozen? ⟨w.heap.size,2,none⟩=false:=fun o1 o2=>at_freeL (hb2 o1 o2)
  have zf3:∀ o1 o2:Obj,((w1.alloc o1).alloc o2).frozen? ⟨w.heap.size,3,none⟩=false:=fun o1 o2=>at_freeL (hb2 o1 o2)
  have HB2:=hid hb2;clear hb2;have HN:=hid hN;have HB1:=hid hb1;have HK:=hid hk;clear hN hk hb1;go_wp2_with fail;refine bodyPost_ret (results_ct rfl _ _ ⟨w.heap.size,0,none⟩ rfl (run_load4 (set4_at (HB2.out _ _) _ _ _ _))) rfl ?_;have hK:=set4_kp ((w1.alloc (.cells #[nilS,nilS,nilS,nilS] 52)).alloc (.cells #[.int .i64 0,.int .i64 0,.int .i64 0,.int .i64 0,.int .i64 0] 80)) w.heap.size nilS nilS nilS nilS;have hN2:Nw w1 ((w1.alloc (.cells #[nilS,nilS,nilS,nilS] 52)).alloc (.cells #[.int .i64 0,.int .i64 0,.int .i64 0,.int .i64 0,.int .i64 0] 80)):=((Nw.refl w1).alloc' _).alloc' _;exact ⟨rfl,HK.out,Kp.nw ((HN0.out.trans HN.out).trans hN2) hK (Nat.le_refl _) (Nat.le_refl _)⟩
end
section
open Go Go.RowKit Go.Lib
def stV (p:Nat):Value :=
 if p=0 then .iface 77 (.agg #[.int .i64 5,.iface 73 (.agg #[.int .i64 1])])
 else if p≤5 then .iface 73 (.agg #[.int .i64 (p:Int)])
 else if p=6 then .iface 77 (.agg #[.int .i64 8,.iface 150 (.agg #[])])
 else .iface 150 (.agg #[])
def EndW (X:Option Nat) (e:Ending):Prop :=
 match X with
 | some t=>e=.returned (.tuple #[.int .i64 (t:Int),.bool true])
 | none=>∃ t:Int,e=.returned (.tuple #[.int .i64 t,.bool false])
theorem EndW.no {X:Option Nat} {t:Int} (h:X=none):EndW X (.returned (.tuple #[.int .i64 t,.bool false])):=by
 subst h;exact ⟨t,rfl⟩
set_option maxRecDepth 100000 in
theorem frameEnd_any (w:World) (p b:Nat) (A:Option Addr) (n c at_:Nat) (xs:List Nat) (hp:1≤p∧p≤5) (hn:n=xs.length) (hnc:n≤c) (hm:n≤1000000000) (hr:Rd w b A (cN .u8 xs)) (hx:∀ x∈xs,x < 256) (hat:at_≤n) :
  Calls Tryz.prog 364 #[.agg #[.int .i64 (p:Int)],.slice A n c,.int .i64 (at_:Int)] w fun e w'=>EndW (endQ p xs at_) e∧Nw w w':=by
 obtain ⟨X,hX⟩:∃ X,endQ p xs at_=X:=⟨_,rfl⟩;rw [hX];unfold endQ at hX;rw [if_neg (by omega),if_pos hp.2] at hX;by_cases h1:n≤at_
 ·have h1I:(n:Int)≤(at_:Int):=by omega
  rw [if_pos (by omega)] at hX;have HX:=hid hX.symm;clear hX hr hx hn h1 hp;go_enter Tryz.func364,Tryz.ntmps364
  go_wp2_with fail;go_ret2;exact ⟨EndW.no HX.out,(Nw.refl w).alloc' _⟩
 ·have h1I:¬ (n:Int)≤(at_:Int):=by omega
  rw [if_neg (by omega)] at hX;have hNa:Nw w (w.alloc (.cells #[.int .i64 (p:Int)] 73)):=(Nw.refl w).alloc' _;have HV:=VGet_any (w.alloc (.cells #[.int .i64 (p:Int)] 73)) b A n c xs hn hnc hm (hr.nw hNa) hx (at_+1) (by omega);obtain ⟨J,hJ⟩:∃ J,at_+1=J:=⟨_,rfl⟩;have hJI:(at_:Int)+1=(J:Int):=by omega
  rw [hJ] at HV hX;cases hv:vget0 (xs.drop J) with
  | error k =>
   rw [hv] at HV hX;have hk:=vget_ext.nz hv;have hk2:((k:Int) != 0)=true:=by rw [bne_iff_ne];omega
   have HV:=hid (show Calls Tryz.prog 104 #[.slice A n c,.int .i64 (J:Int)] (w.alloc (.cells #[.int .i64 (p:Int)] 73)) fun e w'=>e=.returned (.tuple #[.int .u64 0,.int .i64 0,.int .i64 (k:Int)])∧(w.alloc (.cells #[.int .i64 (p:Int)] 73))=w' from HV);have HX:=hid (show X=none from hX.symm);have HNa:=hid hNa;clear hX hr hx hn h1 hv hk hJ hp hNa;go_enter Tryz.func364,Tryz.ntmps364
   go_wp2_with fail;refine HV.out.mono ?_;rintro e w2 ⟨rfl,rfl⟩;go_wp2_with fail;go_ret2;exact ⟨EndW.no HX.out,HNa.out⟩
  | ok q =>
   obtain ⟨v,r⟩:=q;obtain ⟨hr1,hr2,hr3⟩:=drop_sfx hv;rw [hv] at HV hX;dsimp only at hX;obtain ⟨F,hF⟩:∃ F,n - r.length=F:=⟨_,rfl⟩;have HV:=hid (show Calls Tryz.prog 104 #[.slice A n c,.int .i64 (J:Int)] (w.alloc (.cells #[.int .i64 (p:Int)] 73)) fun e w'=>e=.returned (.tuple #[.int .u64 (v:Int),.int .i64 (F:Int),.int .i64 0])∧(w.alloc (.cells #[.int .i64 (p:Int)] 73))=w' from HV.mono fun e w' h=>⟨by rw [h.1,← hF];rfl,h.2⟩);obtain ⟨L,hL⟩:∃ L,r.length=L:=⟨_,rfl⟩;have hLI:(n:Int) - (F:Int)=(L:Int):=by omega
   have HNa:=hid hNa;by_cases h4:L < 4
   ·have h4I:(L:Int) < 4:=by omega
    rw [if_pos (.inl (by omega))] at hX;have HX:=hid (show X=none from hX.symm);clear hX hr hx hn h1 hv hJ hp hNa hF hL h4 hr1 hr2 hr3;go_enter Tryz.func364,Tryz.ntmps364
    go_wp2_with fail;refine HV.out.mono ?_;rintro e w2 ⟨rfl,rfl⟩;go_wp2_with fail;go_ret2;exact ⟨EndW.no HX.out,HNa.out⟩
   ·have h4I:¬ (L:Int) < 4:=by omega
    obtain ⟨Q,hQ⟩:∃ Q,L - 4=Q:=⟨_,rfl⟩;have hQI:(L:Int) - 4=(Q:Int):=by omega
    have HQb:=hid (show 0≤(Q:Int)∧(Q:Int)≤18446744073709551615 by omega);by_cases h5:Q < v
    ·have h5I:(Q:Int) < (v:Int):=by omega
     rw [if_pos (.inr (by omega))] at hX;have HX:=hid (show X=none from hX.symm);clear hX hr hx hn h1 hv hJ hp hNa hF hL h4 hr1 hr2 hr3 hQ h5;have hQw:IntKind.u64.wrap (Q:Int)=(Q:Int):=IntWalk.u64_in _ HQb.out;go_enter Tryz.func364,Tryz.ntmps364
     go_wp2_with fail;refine HV.out.mono ?_;rintro e w2 ⟨rfl,rfl⟩;go_wp2_with fail;go_ret2;exact ⟨EndW.no HX.out,HNa.out⟩
    ·have h5I:¬ (Q:Int) < (v:Int):=by omega
     rw [if_neg (by omega)] at hX;obtain ⟨T,hT⟩:∃ T,F+v=T:=⟨_,rfl⟩;have hTI:(F:Int)+(v:Int)=(T:Int):=by omega
     obtain ⟨T4,hT4⟩:∃ T4,T+4=T4:=⟨_,rfl⟩;have hT4I:(T:Int)+4=(T4:Int):=by omega
     have hvb:(v:Int)≤1000000000:=by omega
     have hTb:(T4:Int)≤1000000000:=by omega
     have HX:=hid (show X=some T4 by rw [← hX,← hn];congr 1;omega);clear hX hr hx hn h1 hv hJ hp hNa hF hL h4 hr1 hr2 hr3 hQ h5 hT hT4;go_enter Tryz.func364,Tryz.ntmps364
     go_wp2_with fail;refine HV.out.mono ?_;rintro e w2 ⟨rfl,rfl⟩;go_wp2_with fail;go_ret2;rw [HX.out];exact ⟨rfl,HNa.out⟩
set_option maxRecDepth 100000 in
theorem fixedEnd_any (w:World) (L:Nat) (v:Value) (A:Option Addr) (n c at_:Nat) (hL:L≤100) (hm:n≤1000000000) (hat:at_≤n) :
  Calls Tryz.prog 366 #[.agg #[.int .i64 (L:Int),v],.slice A n c,.int .i64 (at_:Int)] w fun e w'=>EndW (if at_+L≤n then some (at_+L) else none) e∧Nw w w':=by
 obtain ⟨T,hT⟩:∃ T,at_+L=T:=⟨_,rfl⟩;have hTI:(at_:Int)+(L:Int)=(T:Int):=by omega
 have HWb:=hid (show -9223372036854775808≤(at_:Int)+(L:Int)∧(at_:Int)+(L:Int)≤9223372036854775807 by omega);obtain ⟨R,hR⟩:∃ R,n - at_=R:=⟨_,rfl⟩;have hRI:(n:Int) - (at_:Int)=(R:Int):=by omega
 have HRb:=hid (show -9223372036854775808≤(R:Int)∧(R:Int)≤9223372036854775807 by omega);have hb0:=heap_alloc_new w (.cells #[.int .i64 (L:Int),v] 77);have k0:(w.alloc (.cells #[.int .i64 (L:Int),v] 77)).cell? ⟨w.heap.size,0,none⟩=some (.int .i64 (L:Int)):=cell_at (k:=0) hb0;rw [hT];by_cases h:T≤n
 ·have hI:(L:Int)≤(R:Int):=by omega
  have hId:decide ((L:Int)≤(R:Int))=true:=by simpa using hI
  rw [if_pos h];clear hT hR h hb0;go_enter Tryz.func366,Tryz.ntmps366
  go_wp2_with fail;go_quiet (fail)
  go_wp2_with fail;go_ret2;exact ⟨rfl,((Nw.refl w).alloc' _).drewN' nq⟩
 ·have hI:(R:Int) < (L:Int):=by omega
  have hId:decide ((L:Int)≤(R:Int))=false:=by rw [decide_eq_false_iff_not];omega
  have hNd:decide (L≤R)=false:=by rw [decide_eq_false_iff_not];omega
  rw [if_neg h];clear hT hR h hb0;go_enter Tryz.func366,Tryz.ntmps366
  go_wp2_with fail;go_quiet (fail)
  go_wp2_with fail;go_ret2;exact ⟨⟨(T:Int),rfl⟩,((Nw.refl w).alloc' _).drewN' nq⟩
theorem doneEnd_any (w:World) (A:Option Addr) (n c at_:Nat) :
  Calls Tryz.prog 369 #[.agg #[],.slice A n c,.int .i64 (at_:Int)] w fun e w'=>EndW none e∧Nw w w':=by
 go_enter Tryz.func369,Tryz.ntmps369
 go_wp2_with fail;go_ret2;exact ⟨⟨0,rfl⟩,(Nw.refl w).alloc' _⟩
theorem frameNext_any (w:World) (p:Nat) (hp:1≤p∧p≤5) :
  Calls Tryz.prog 365 #[.agg #[.int .i64 (p:Int)]] w fun e w'=>e=.returned (stV (p+1))∧Nw w w':=by
 have hNa:Nw w (w.alloc (.cells #[.int .i64 (p:Int)] 73)):=(Nw.refl w).alloc' _;have k0:(w.alloc (.cells #[.int .i64 (p:Int)] 73)).cell? ⟨w.heap.size,0,none⟩=some (.int .i64 (p:Int)):=cell_at (k:=0) (heap_alloc_new w _);by_cases h5:p=5
 ·subst h5;go_enter Tryz.func365,Tryz.ntmps365
  go_wp2_with fail;go_ret;exact ⟨rfl,hNa⟩
 ·have hb:((p:Int) == 5)=false:=by rw [beq_eq_false_iff_ne];omega
  have hs:stV (p+1)=.iface 73 (.agg #[.int .i64 ((p:Int)+1)]):=by
   unfold stV;rw [if_neg (by omega),if_pos (by omega)];rfl
  rw [hs];have hpb:(p:Int)≤5:=by omega
  clear hs h5 hp;go_enter Tryz.func365,Tryz.ntmps365
  go_wp2_with fail;go_ret;exact ⟨rfl,hNa⟩
theorem fixedNext_any (w:World) (L:Int) (T:TypeId) (v:Value) :
  Calls Tryz.prog 367 #[.agg #[.int .i64 L,.iface T v]] w fun e w'=>e=.returned (.iface T v)∧Nw w w':=by
 have hNa:Nw w (w.alloc (.cells #[.int .i64 L,.iface T v] 77)):=(Nw.refl w).alloc' _;have k1:(w.alloc (.cells #[.int .i64 L,.iface T v] 77)).cell? ⟨w.heap.size,1,none⟩=some (.iface T v):=cell_at (k:=1) (heap_alloc_new w _);go_enter Tryz.func367,Tryz.ntmps367
 go_wp2_with fail;go_ret;exact ⟨rfl,hNa⟩
theorem doneNext_any (w:World) :
  Calls Tryz.prog 370 #[.agg #[]] w fun e w'=>e=.returned (stV 8)∧Nw w w':=by
 go_enter Tryz.func370,Tryz.ntmps370
 go_wp2_with fail;go_ret;exact ⟨rfl,(Nw.refl w).alloc' _⟩
end
section
open Go Go.RowKit Go.Lib
def PcS (W:World) (g:Nat) (A:Option Addr) (n c at_ p err:Nat) (cl:Bool):Prop :=
 W.heap[g]? = some (.cells #[.slice A n c,.int .i64 (at_:Int),.int .i64 (p:Int),stV p,.int .i64 (err:Int),.bool cl] 79 (0,0))
theorem PcS.nw {W W':World} {g n c at_ p err:Nat} {A:Option Addr} {cl:Bool} (h:PcS W g A n c at_ p err cl) (hN:Nw W W'):PcS W' g A n c at_ p err cl:=(hN.block _ (lt_of_block h)).trans h
theorem PcS.lt {W:World} {g n c at_ p err:Nat} {A:Option Addr} {cl:Bool} (h:PcS W g A n c at_ p err cl):g < W.heap.size:=lt_of_block h
theorem PcS.c0 {W:World} {g n c at_ p err:Nat} {A:Option Addr} {cl:Bool} (h:PcS W g A n c at_ p err cl):W.cell? ⟨g,0,none⟩=some (.slice A n c):=cell_at (k:=0) h
theorem PcS.c1 {W:World} {g n c at_ p err:Nat} {A:Option Addr} {cl:Bool} (h:PcS W g A n c at_ p err cl):W.cell? ⟨g,1,none⟩=some (.int .i64 (at_:Int)):=cell_at (k:=1) h
theorem PcS.c2 {W:World} {g n c at_ p err:Nat} {A:Option Addr} {cl:Bool} (h:PcS W g A n c at_ p err cl):W.cell? ⟨g,2,none⟩=some (.int .i64 (p:Int)):=cell_at (k:=2) h
theorem PcS.c3 {W:World} {g n c at_ p err:Nat} {A:Option Addr} {cl:Bool} (h:PcS W g A n c at_ p err cl):W.cell? ⟨g,3,none⟩=some (stV p):=cell_at (k:=3) h
theorem PcS.c4 {W:World} {g n c at_ p err:Nat} {A:Option Addr} {cl:Bool} (h:PcS W g A n c at_ p err cl):W.cell? ⟨g,4,none⟩=some (.int .i64 (err:Int)):=cell_at (k:=4) h
theorem PcS.c5 {W:World} {g n c at_ p err:Nat} {A:Option Addr} {cl:Bool} (h:PcS W g A n c at_ p err cl):W.cell? ⟨g,5,none⟩=some (.bool cl):=cell_at (k:=5) h
theorem PcS.free {W:World} {g n c at_ p err:Nat} {A:Option Addr} {cl:Bool} (h:PcS W g A n c at_ p err cl) (k:Nat):W.frozen? ⟨g,k,none⟩=false:=by simp [World.frozen?,show W.heap[g]? = _ from h]
theorem PcS.s0 {W:World} {g n c at_ p err:Nat} {A:Option Addr} {cl:Bool} (h:PcS W g A n c at_ p err cl) (A':Option Addr) (n' c':Nat):PcS (W.setCell ⟨g,0,none⟩ (.slice A' n' c')) g A' n' c' at_ p err cl:=by
 have:=set_at (k:=0) (.slice A' n' c') h;unfold PcS;simpa using this
theorem PcS.s4 {W:World} {g n c at_ p err:Nat} {A:Option Addr} {cl:Bool} (h:PcS W g A n c at_ p err cl) (x:Nat):PcS (W.setCell ⟨g,4,none⟩ (.int .i64 (x:Int))) g A n c at_ p x cl:=by
 have:=set_at (k:=4) (.int .i64 (x:Int)) h;unfold PcS;simpa using this
theorem PcS.s5 {W:World} {g n c at_ p err:Nat} {A:Option Addr} {cl:Bool} (h:PcS W g A n c at_ p err cl) (x:Bool):PcS (W.setCell ⟨g,5,none⟩ (.bool x)) g A n c at_ p err x:=by
 have:=set_at (k:=5) (.bool x) h;unfold PcS;simpa using this
theorem PcS.adv {W:World} {g n c at_ p err:Nat} {A:Option Addr} {cl:Bool} (h:PcS W g A n c at_ p err cl) (x q:Nat):PcS (((W.setCell ⟨g,1,none⟩ (.int .i64 (x:Int))).setCell ⟨g,3,none⟩ (stV q)).setCell ⟨g,2,none⟩ (.int .i64 (q:Int))) g A n c x q err cl:=by
 have:=set_at (k:=2) (.int .i64 (q:Int)) (set_at (k:=3) (stV q) (set_at (k:=1) (.int .i64 (x:Int)) h));unfold PcS;simpa using this
theorem nil_eqP (g:Nat) (W:World):(binOp .eql 25 (.pointer (some ⟨g,0,none⟩)) (.pointer none)).run Tryz.prog W=.ok (.bool false) W:=by kernel_rfl
theorem PNew_any (w:World) :
  Calls Tryz.prog 16 #[] w fun e w'=>e=.returned (.pointer (some ⟨w.heap.size,0,none⟩))∧PcS w' w.heap.size none 0 0 0 0 0 false∧Nw w w':=by
 go_enter Tryz.func16,Tryz.ntmps16
 go_wp2_with fail;go_ret;exact ⟨rfl,heap_alloc_new w _,(Nw.refl w).alloc' _⟩
theorem PLen_any (w:World) (g n c at_ p err:Nat) (A:Option Addr) (cl:Bool) (h:PcS w g A n c at_ p err cl) :
  Calls Tryz.prog 22 #[.pointer (some ⟨g,0,none⟩)] w fun e w'=>e=.returned (.int .i64 (n:Int))∧w=w':=by
 have c0:=h.c0;have hnil:=nil_eqP g;clear h;go_enter Tryz.func22,Tryz.ntmps22
 go_wp2_with fail;go_ret;exact ⟨rfl,rfl⟩
theorem PParts_any (w:World) (g n c at_ p err:Nat) (A:Option Addr) (cl:Bool) (h:PcS w g A n c at_ p err cl) :
  Calls Tryz.prog 23 #[.pointer (some ⟨g,0,none⟩)] w fun e w'=>e=.returned (.int .i64 (p:Int))∧w=w':=by
 have c2:=h.c2;have hnil:=nil_eqP g;clear h;go_enter Tryz.func23,Tryz.ntmps23
 go_wp2_with fail;go_ret;exact ⟨rfl,rfl⟩
theorem PErr_any (w:World) (g n c at_ p err:Nat) (A:Option Addr) (cl:Bool) (h:PcS w g A n c at_ p err cl) :
  Calls Tryz.prog 25 #[.pointer (some ⟨g,0,none⟩)] w fun e w'=>e=.returned (.int .i64 (err:Int))∧w=w':=by
 have c4:=h.c4;have hnil:=nil_eqP g;clear h;go_enter Tryz.func25,Tryz.ntmps25
 go_wp2_with fail;go_ret;exact ⟨rfl,rfl⟩
theorem st_any (p:Nat) (hp:p≤7):∃ (T:TypeId) (v:Value) (F K:FuncId) (d:Bool),stV p=.iface T v∧(d=true↔p=7)∧(∀ W:World,(Instr.typeAssert (.iface T v) 75 150 true).run Tryz.prog W=.ok (.tuple #[.agg #[],.bool d]) W) ∧
  (∀ args W,(callFunc F args).run Tryz.prog W=.ok (.enter F args) W)∧(∀ args W,(callFunc K args).run Tryz.prog W=.ok (.enter K args) W) ∧
  (∀ W:World,(method (Tryz.prog.types.size+Made.depth) T v "tsblock/piece.end").run Tryz.prog W=.ok (F,v) W)∧(∀ W:World,(method (Tryz.prog.types.size+Made.depth) T v "tsblock/piece.next").run Tryz.prog W=.ok (K,v) W) ∧
  (∀ (w:World) (b:Nat) (A:Option Addr) (n c at_:Nat) (xs:List Nat),n=xs.length→n≤c→n≤1000000000→Rd w b A (cN .u8 xs)→(∀ x∈xs,x < 256)→at_≤n →
   Calls Tryz.prog F #[v,.slice A n c,.int .i64 (at_:Int)] w fun e w'=>EndW (endQ p xs at_) e∧Nw w w') ∧
  (∀ w:World,Calls Tryz.prog K #[v] w fun e w'=>e=.returned (stV (p+1))∧Nw w w'):=by
 by_cases h0:p=0
 ·subst h0;refine ⟨_,_,366,367,false,rfl,(by simp),(fun _=>by kernel_rfl),enters_of Tryz.func366 (by kernel_rfl) rfl,enters_of Tryz.func367 (by kernel_rfl) rfl,fun _=>by kernel_rfl,fun _=>by kernel_rfl,?_,?_⟩
  ·intro w b A n c at_ xs hn hnc hm hr hx hat;subst hn;exact (fixedEnd_any w 5 _ A _ c at_ (by omega) hm hat)
  ·intro w;exact fixedNext_any w _ _ _
 ·by_cases h5:p≤5
  ·have hs:stV p=.iface 73 (.agg #[.int .i64 (p:Int)]):=by
    unfold stV;rw [if_neg h0,if_pos h5]
   refine ⟨_,_,364,365,false,hs,(by simp;omega),(fun _=>by kernel_rfl),enters_of Tryz.func364 (by kernel_rfl) rfl,enters_of Tryz.func365 (by kernel_rfl) rfl,fun _=>by kernel_rfl,fun _=>by kernel_rfl,?_,?_⟩
   ·intro w b A n c at_ xs hn hnc hm hr hx hat;exact frameEnd_any w p b A n c at_ xs ⟨by omega,h5⟩ hn hnc hm hr hx hat
   ·intro w;exact frameNext_any w p ⟨by omega,h5⟩
  ·by_cases h6:p=6
   ·subst h6;refine ⟨_,_,366,367,false,rfl,(by simp),(fun _=>by kernel_rfl),enters_of Tryz.func366 (by kernel_rfl) rfl,enters_of Tryz.func367 (by kernel_rfl) rfl,fun _=>by kernel_rfl,fun _=>by kernel_rfl,?_,?_⟩
    ·intro w b A n c at_ xs hn hnc hm hr hx hat;subst hn;exact (fixedEnd_any w 8 _ A _ c at_ (by omega) hm hat)
    ·intro w;exact fixedNext_any w _ _ _
   ·obtain rfl:p=7:=by omega
    refine ⟨_,_,369,370,true,rfl,(by simp),(fun _=>by kernel_rfl),enters_of Tryz.func369 (by kernel_rfl) rfl,enters_of Tryz.func370 (by kernel_rfl) rfl,fun _=>by kernel_rfl,fun _=>by kernel_rfl,?_,?_⟩
    ·intro w b A n c at_ xs hn hnc hm hr hx hat;exact doneEnd_any w A n c at_
    ·intro w;exact doneNext_any w
end
section
open Go Go.RowKit Go.Lib
def pOf (g:Nat) (W:World):Nat:=match W.cell? ⟨g,2,none⟩ with | some v=>(intOf v).toNat | none=>0
theorem pOf_at {W:World} {g n c at_ p err:Nat} {A:Option Addr} {cl:Bool} (h:PcS W g A n c at_ p err cl):pOf g W=p:=by
 unfold pOf;rw [h.c2];simp [intOf]
def AdvW (w w':World) (g:Nat) (A:Option Addr) (n c:Nat) (xs:List Nat) (cl:Bool):Prop :=
 ∃ at_ p,PcS w' g A n c at_ p (certP xs) cl∧at_≤n∧p=partsP xs∧p≤7∧Prs p (xs.take at_)∧Kp g g w w'
set_option maxRecDepth 100000 in
set_option maxHeartbeats 2000000 in
theorem PAdv_any (w:World) (g n c at_ p b:Nat) (A:Option Addr) (xs:List Nat) (cl:Bool) (h:PcS w g A n c at_ p 0 cl) (hat:at_≤n) (hp:p≤7) (hP:Prs p (xs.take at_)) (hn:n=xs.length) (hnc:n≤c) (hm:n≤1000000000) (hr:Rd w b A (cN .u8 xs)) (hb:b≠g) (hA:A=none→c=0) (hx:∀ x∈xs,x < 256) (hG:Gl w) (hg:3≤g) :
  Calls Tryz.prog 42 #[.pointer (some ⟨g,0,none⟩)] w fun e w'=>e=.returned (.tuple #[])∧AdvW w w' g A n c xs cl:=by
 have HP:=hid hP;have HR:=hid hr;have HX:=hid hx;have HG:=hid hG;have HA:=hid hA;have H:=hid h;clear hP hr hx hG hA h;go_enter Tryz.func42,Tryz.ntmps42
 go_wp2_with fail;go_loopw [2] (fun _ wr=>∃ at1 p1,PcS wr g A n c at1 p1 0 cl∧at1≤n∧p1≤7∧Hid (Prs p1 (xs.take at1))∧Hid (Kp g g w wr)) (fun _ wr=>8 - pOf g wr)
 case atStart=>exact ⟨at_,p,H.out,hat,hp,HP,hid (Kp.refl _ _ _)⟩
 case round =>
  obtain ⟨at1,p1,h1,hat1,hp1,HP1,HK⟩:=hrel;obtain ⟨T,v,F,K,d,hst,hd,hTA,hF,hK,hmF,hmK,hE,hNx⟩:=st_any p1 hp1;have H1:=hid h1;obtain ⟨X,hX⟩:∃ X,endQ p1 xs at1=X:=⟨_,rfl⟩;have H0:=hid fun (W:World) (hN:Nw wr W)=>show W.cell? ⟨g,0,none⟩=some (.slice A n c)∧W.cell? ⟨g,1,none⟩=some (.int .i64 (at1:Int))∧W.cell? ⟨g,3,none⟩=some (.iface T v) from ⟨(h1.nw hN).c0,(h1.nw hN).c1,hst ▸ (h1.nw hN).c3⟩
  have A1:Hid (∀ W,((W.cell? ⟨g,0,none⟩=some (.slice A n c)∧W.cell? ⟨g,1,none⟩=some (.int .i64 (at1:Int))∧W.cell? ⟨g,3,none⟩=some (.iface T v))∧Nw wr W)→Calls Tryz.prog F #[v,.slice A n c,.int .i64 (at1:Int)] W fun e w'=>EndW X e∧((w'.cell? ⟨g,0,none⟩=some (.slice A n c)∧w'.cell? ⟨g,1,none⟩=some (.int .i64 (at1:Int))∧w'.cell? ⟨g,3,none⟩=some (.iface T v))∧Nw wr w')):=hid fun W hS =>
   (hX ▸ hE W b A n c at1 xs hn hnc hm ((HR.out.kp HK.out hb hb).nw hS.2) HX.out hat1).mono fun e w' h=>⟨h.1,H0.out _ (hS.2.trans h.2),hS.2.trans h.2⟩
  have E0:Hid ((wr.cell? ⟨g,0,none⟩=some (.slice A n c)∧wr.cell? ⟨g,1,none⟩=some (.int .i64 (at1:Int))∧wr.cell? ⟨g,3,none⟩=some (.iface T v))∧Nw wr wr):=hid ⟨H0.out _ (Nw.refl _),Nw.refl _⟩;have HNx:=hid hNx;have HhX:=hid hX;have Hst:=hid hst;have Hd:=hid hd;have HN:=hid hn;clear hNx hE hX h1 hst hd hn;have hq:Tryz.prog.types.size+Made.depth=556:=by kernel_rfl
  rw [hq] at hmF hmK;clear hq;have HGr:=hid (HG.out.kp HK.out hg hg);cases X with
  | none =>
   have HC:Hid (∀ W,Nw wr W→Calls Tryz.prog 79 #[.slice A n c] W fun e w'=>e=.returned (.int .i64 (certP xs:Nat))∧Nw wr w'):=hid fun W hN =>
    (Certain_any W b A n c xs HN.out hnc hm ((HR.out.kp HK.out hb hb).nw hN) HA.out HX.out (HGr.out.nw hN)).mono fun e w' h=>⟨h.1,hN.trans h.2⟩
   go_wp2_with fail;go_region_held3 (fun w'=>(w'.cell? ⟨g,0,none⟩=some (.slice A n c)∧w'.cell? ⟨g,1,none⟩=some (.int .i64 (at1:Int))∧w'.cell? ⟨g,3,none⟩=some (.iface T v))∧Nw wr w')
    (first | exact ⟨H0.out _ (Nw.drew1 _),Nw.drew1 _⟩ | exact ⟨H0.out _ (Nw.drewN wr _),Nw.drewN wr _⟩ | exact E0.out | exact hS)
    (first
     | (refine (A1.out _ (by assumption)).mono ?_;rintro e w5 ⟨⟨t,rfl⟩,hS⟩))
   have hS0:=hS.1.1;have hS1:=hS.1.2.1;have hS3:=hS.1.2.2;have HN5:=hid hS.2;have H5:=hid (H1.out.nw hS.2);have hl5:=H5.out.lt;have f5:=H5.out.free 4;clear hS;cases d with
   | false =>
    go_wp2_with fail;go_quiet (fail)
    go_wp2_with fail;refine (HC.out _ ((HN5.out.alloc' _).drewN' nq)).mono ?_;rintro e w6 ⟨rfl,hN6⟩;have f6:=(H1.out.nw hN6).free 4;have e6:=(H1.out.nw hN6).c4;have HN6:=hid hN6;clear hN6;go_wp2_with fail;go_end0
    refine ⟨rfl,at1,p1,(H1.out.nw HN6.out).s4 _,hat1,?_,hp1,HP1.out,(HK.out.nw' HN6.out).setCell' (.inl rfl) _⟩;have hp6:p1≤6:=by have:=Hd.out;simp at this;omega
    exact (adv_none hp6 (HN.out ▸ hat1) HP1.out HhX.out).symm
   | true =>
    have hp7:p1=7:=Hd.out.1 rfl;by_cases hlt:at1 < n
    ·have hltI:decide ((at1:Int) < (n:Int))=true:=by rw [decide_eq_true_iff];omega
     have hltN:decide (at1 < n)=true:=by rw [decide_eq_true_iff];omega
     go_wp2_with fail;go_quiet (fail)
     go_wp2_with fail;refine (HC.out _ ((HN5.out.alloc' _).drewN' nq)).mono ?_;rintro e w6 ⟨rfl,hN6⟩;have f6:=(H1.out.nw hN6).free 4;have e6:=(H1.out.nw hN6).c4;have HN6:=hid hN6;clear hN6;go_wp2_with fail;go_end0
     refine ⟨rfl,at1,p1,(H1.out.nw HN6.out).s4 _,hat1,?_,hp1,HP1.out,(HK.out.nw' HN6.out).setCell' (.inl rfl) _⟩;subst hp7;exact (adv_done (HN.out ▸ hat1) HP1.out).1.symm
    ·have hltI:decide ((at1:Int) < (n:Int))=false:=by rw [decide_eq_false_iff_not];omega
     have hltN:decide (at1 < n)=false:=by rw [decide_eq_false_iff_not];omega
     go_wp2_with fail;go_quiet (fail)
     go_wp2_with fail;go_end0
     subst hp7;obtain ⟨q1,q2⟩:=adv_done (HN.out ▸ hat1) HP1.out;have q3:=q2 (by have:=HN.out;omega);refine ⟨rfl,at1,7,?_,hat1,q1.symm,hp1,HP1.out,HK.out.nw' ((HN5.out.alloc' _).drewN' nq)⟩;rw [q3];exact H1.out.nw ((HN5.out.alloc' _).drewN' nq)
  | some tq =>
   have hp6:p1≤6:=by
    by_cases h7:p1=7
    ·subst h7;have:=HhX.out;simp [endQ] at this
    ·omega
   obtain ⟨hlt,hle,hcb,hco⟩:=adv_some HX.out hp6 (HN.out ▸ hat1) HP1.out HhX.out;have htn:tq≤n:=by have:=HN.out;omega
   have hzl:(xs.take tq).length=tq:=by rw [List.length_take];omega
   obtain ⟨z,hz⟩:∃ z,certP (xs.take tq)=z:=⟨_,rfl⟩;have HC:Hid (∀ W,Nw wr W→Calls Tryz.prog 79 #[.slice A tq c] W fun e w'=>e=.returned (.int .i64 (z:Int))∧Nw wr w'):=hid fun W hN =>
    (hz ▸ Certain_any W b A tq c (xs.take tq) hzl.symm (by omega) (by omega) (by rw [cN,List.map_take];exact ((HR.out.kp HK.out hb hb).nw hN).take tq) HA.out (fun x hx=>HX.out x (List.mem_of_mem_take hx)) (HGr.out.nw hN)).mono fun e w' h=>⟨h.1,hN.trans h.2⟩
   obtain ⟨q,hq⟩:∃ q,p1+1=q:=⟨_,rfl⟩;have hqI:(p1:Int)+1=(q:Int):=by omega
   obtain ⟨T2,v2,F2,K2,d2,hst2,-⟩:=st_any q (by omega);have HNx2:Hid (∀ W,Nw wr W→Calls Tryz.prog K #[v] W fun e w'=>e=.returned (.iface T2 v2)∧Nw wr w'):=hid fun W hN=>(HNx.out W).mono fun e w' h=>⟨by rw [h.1,hq,hst2],hN.trans h.2⟩
   have Hst2:=hid hst2;have Hz:=hid hz;have Hlt:=hid hlt;have Hle:=hid hle;have Hq:=hid hq;have Hcb:=hid hcb;have Hco:=hid hco;clear hst2 hz hzl hlt hle hcb hco hq;have htI:¬ (tq:Int) < 0:=by omega
   go_wp2_with fail;go_region_held3 (fun w'=>(w'.cell? ⟨g,0,none⟩=some (.slice A n c)∧w'.cell? ⟨g,1,none⟩=some (.int .i64 (at1:Int))∧w'.cell? ⟨g,3,none⟩=some (.iface T v))∧Nw wr w')
    (first | exact ⟨H0.out _ (Nw.drew1 _),Nw.drew1 _⟩ | exact ⟨H0.out _ (Nw.drewN wr _),Nw.drewN wr _⟩ | exact E0.out | exact hS)
    (first
     | (refine (A1.out _ (by assumption)).mono ?_;rintro e w5 ⟨rfl,hS⟩))
   have hS0:=hS.1.1;have HN5:=hid hS.2;clear hS;by_cases h0:z=0
   ·subst h0;go_wp2_with fail;refine (HC.out _ HN5.out).mono ?_;rintro e w6 ⟨rfl,hN6⟩;have e63:w6.cell? ⟨g,3,none⟩=some (.iface T v):=Hst.out ▸ (H1.out.nw hN6).c3;have HN6:=hid hN6;clear hN6;go_wp2_with fail;refine (HNx2.out _ HN6.out).mono ?_;rintro e w7 ⟨rfl,hN7⟩;have e71:=(H1.out.nw hN7).c1;have e72:=(H1.out.nw hN7).c2;have e73:w7.cell? ⟨g,3,none⟩=some (.iface T v):=Hst.out ▸ (H1.out.nw hN7).c3;have f71:=(H1.out.nw hN7).free 1;have f72:=(H1.out.nw hN7).free 2;have f73:=(H1.out.nw hN7).free 3;have HN7:=hid hN7;clear hN7;go_wp2_with fail;go_roundw
    case rel =>
     have h9:=(H1.out.nw HN7.out).adv tq q;rw [Hst2.out] at h9;exact ⟨tq,q,h9,htn,by have:=Hq.out;omega,hid (Hq.out ▸ Hco.out Hz.out),hid ((((HK.out.nw' HN7.out).setCell' (.inl rfl) _).setCell' (.inl rfl) _).setCell' (.inl rfl) _)⟩
    case measure =>
     have h9:=(H1.out.nw HN7.out).adv tq q;rw [Hst2.out] at h9;rw [pOf_at h9,pOf_at H1.out];have:=Hq.out;omega
   ·have h0b:((z:Int) != 0)=true:=by rw [bne_iff_ne];omega
    go_wp2_with fail;refine (HC.out _ HN5.out).mono ?_;rintro e w6 ⟨rfl,hN6⟩;have f6:=(H1.out.nw hN6).free 4;have e6:=(H1.out.nw hN6).c4;have HN6:=hid hN6;clear hN6;go_wp2_with fail;refine bodyPost_ret (results_none rfl _ _ _) rfl ?_;have hzz:=Hz.out;have hcx:=certP_stays (bs:=xs.take tq) (by rw [hzz];exact h0) (xs.drop tq);rw [List.take_append_drop,hzz] at hcx;refine ⟨rfl,at1,p1,?_,hat1,(Hcb.out (by rw [hzz];exact h0)).symm,hp1,HP1.out,(HK.out.nw' HN6.out).setCell' (.inl rfl) _⟩;rw [hcx];exact (H1.out.nw HN6.out).s4 z
end
section
theorem cntS_ext (e:List Nat):∀ (k:Nat) (bs:List Nat) (acc:List (List Nat × Nat)) (r:List Nat) (j:Nat),restP bs k acc r=.error j→j≠3→cntS k (r++e)=cntS k r
 | 0,_,_,_,_,_,_=>rfl
 | k+1,bs,acc,r,j,h,hj=>by
  rw [restP] at h;have hE:=sect_ext (5 - k);cases hs:sectP (5 - k) r with
  | error i =>
   rw [hs] at h;have hij:i=j:=by injection h
   rw [cntS_succ_er hs,cntS_succ_er (hE.er hs (by omega) e)]
  | ok q =>
   obtain ⟨l,q⟩:=q;rw [hs] at h;rw [cntS_succ_ok hs,cntS_succ_ok (hE.ok hs e),cntS_ext e k bs _ q j h hj]
theorem partsP_stays {bs:List Nat} (h:certP bs≠0) (e:List Nat):partsP (bs++e)=partsP bs:=by
 cases hp:parseP bs with
 | ok s=>exact absurd (certP_ok hp) h
 | error k =>
  rw [certP_er hp] at h;have h3:k≠3:=by
   intro h3;rw [if_pos h3] at h;exact h rfl
  have hp2:=parse_same hp h3 e;unfold partsP;rw [hp,hp2];dsimp only;by_cases h4:k=4
  ·rw [if_pos h4,if_pos h4]
  ·rw [if_neg h4,if_neg h4];have hq:=hp;rw [parseP_rest] at hq;cases hl:litP hd0 bs with
   | error i =>
    rw [hl] at hq;have hik:i=k:=by injection hq
    rw [(litP_ext hd0).2.1 hl (by omega) e]
   | ok r =>
    rw [hl] at hq;rw [(litP_ext hd0).1 hl e];dsimp only;rw [cntS_ext e 5 bs [] r k hq h3]
end
section
open Go Go.RowKit Go.Lib
def Fed (W:World) (g own:Nat) (xs:List Nat) (cl:Bool):Prop :=
 ∃ A c at_ p,PcS W g A xs.length c at_ p (certP xs) cl∧Ow W own 5 1 A xs.length c (cN .u8 xs)∧own≠g∧at_≤xs.length∧p=partsP xs∧Prs p (xs.take at_)
theorem PFeed_closed (w:World) (g own:Nat) (xs:List Nat) (A:Option Addr) (n c:Nat) (h:Fed w g own xs true):Calls Tryz.prog 18 #[.pointer (some ⟨g,0,none⟩),.slice A n c] w fun e w'=>e=.returned (.int .i64 2)∧w=w':=by
 obtain ⟨A1,c1,at_,p,h,-⟩:=h;have c5:=h.c5;have hnil:=nil_eqP g;clear h;go_enter Tryz.func18,Tryz.ntmps18
 go_wp2_with fail;go_ret;exact ⟨rfl,rfl⟩
set_option maxRecDepth 100000 in
set_option maxHeartbeats 2000000 in
theorem PFeed_any (w:World) (g own b2:Nat) (xs ys:List Nat) (A2:Option Addr) (m c2:Nat) (h:Fed w g own xs false) (hr:Rd w b2 A2 (cN .u8 ys)) (hA2:A2=none→c2=0) (hm:m=ys.length) (hl:xs.length+ys.length≤1000000000) (hx:∀ x∈xs++ys,x < 256) (hG:Gl w) (hg:3≤g) (ho:3≤own) :
  Calls Tryz.prog 18 #[.pointer (some ⟨g,0,none⟩),.slice A2 m c2] w fun e w'=>e=.returned (.int .i64 0)∧∃ own',Fed w' g own' (xs++ys) false∧(own'=own∨w.heap.size≤own')∧Kp g own w w':=by
 obtain ⟨A,c,at_,p,h,hO,hne,hat,hp,hP⟩:=h;obtain ⟨n,hn⟩:∃ n,xs.length=n:=⟨_,rfl⟩;rw [hn] at h hO hat hl;have c0:=h.c0;have c5:=h.c5;have hnil:=nil_eqP g;have hgl:=h.lt;have HH:=hid h;have HO:=hid hO;have HR:=hid hr;have HX:=hid hx;have HG:=hid hG;have HP:=hid hP;have Hp:=hid hp;have HN:=hid hn;have HM:=hid hm;obtain ⟨z,hz⟩:∃ z,certP xs=z:=⟨_,rfl⟩;have Hz:=hid hz;rw [hz] at HH;rw [← hm] at hl;clear h hO hr hx hG hP hp hn hm hz;go_enter Tryz.func18,Tryz.ntmps18
 by_cases h0:z=0
 ·subst h0;go_wp2_with (at_builtin;refine wpList_app E_u8 rfl (.tmp 17) (.tmp 18) rfl rfl HO.out rfl HR.out (by rw [List.length_map,HM.out,Nat.mul_one]) hA2 (oc_N _ _) (by simp only [maxLen];omega) (by omega) ?_;intro b5 A5 c5' w5 q1 q2 q3 q4;have Q1:=hid q1;have Q2:=hid q2;have Q3:=hid q3;have H5:=hid (show PcS w5 g A n c at_ p 0 false from (q3.block g hgl (Ne.symm hne) (Ne.symm hne)).trans HH.out);clear q1 q2 q3 q4;have e50:=H5.out.c0;have f50:=H5.out.free 0;have e54:=H5.out.c4)
  go_wp2_with fail;have hbg:b5≠g:=by rcases Q2.out with h | h<;>omega
  have hKs:Kp g g w5 (w5.setCell ⟨g,0,none⟩ (.slice A5 (n+m) c5')):=(Kp.refl g g w5).setCell' (.inl rfl) _;have hOw:=Q1.out.kp hKs hbg hbg;rw [← List.map_append] at hOw;have hlen:n+m=(xs++ys).length:=by rw [List.length_append,HN.out,HM.out]
  have hAn:A5=none→c5'=0:=by
   intro h;rcases hOw with ⟨_,_,h2,_⟩ | ⟨h1,_⟩
   ·exact h2
   ·rw [h] at h1;cases h1
  refine (PAdv_any _ g (n+m) c5' at_ p b5 A5 (xs++ys) false (H5.out.s0 A5 (n+m) c5') (by omega) (by rw [Hp.out];exact partsP_le xs) (prs_more (by rw [HN.out];exact hat) HP.out) hlen hOw.cap.1 hl hOw.rd hbg hAn HX.out ((HG.out.kp Q3.out ho ho).kp hKs hg hg) hg).mono ?_;rintro e w6 ⟨rfl,at6,p6,h6,h6a,h6p,h67,h6P,h6K⟩;have H6:=hid h6;have H6K:=hid h6K;have H6P:=hid h6P;clear h6 h6K h6P;go_wp2_with fail;go_ret;rw [hlen] at H6 h6a;refine ⟨rfl,b5,⟨A5,c5',at6,p6,H6.out,?_,hbg,h6a,h6p,H6P.out⟩,Q2.out,?_⟩
  ·rw [← hlen];exact hOw.kp H6K.out hbg hbg
  ·have k1:Kp g own w w5:=(Kp.refl g own w).trans Q3.out (.inr (.inl rfl)) (.inr (.inl rfl));exact (k1.trans hKs (.inl rfl) (.inl rfl)).trans H6K.out (.inl rfl) (.inl rfl)
 ·have h0b:((z:Int) == 0)=false:=by rw [beq_eq_false_iff_ne];omega
  go_wp2_with (at_builtin;refine wpList_app E_u8 rfl (.tmp 17) (.tmp 18) rfl rfl HO.out rfl HR.out (by rw [List.length_map,HM.out,Nat.mul_one]) hA2 (oc_N _ _) (by simp only [maxLen];omega) (by omega) ?_;intro b5 A5 c5' w5 q1 q2 q3 q4;have Q1:=hid q1;have Q2:=hid q2;have Q3:=hid q3;have H5:=hid (show PcS w5 g A n c at_ p z false from (q3.block g hgl (Ne.symm hne) (Ne.symm hne)).trans HH.out);clear q1 q2 q3 q4;have e50:=H5.out.c0;have f50:=H5.out.free 0;have e54:=H5.out.c4)
  go_wp2_with fail;go_ret;have hbg:b5≠g:=by rcases Q2.out with h | h<;>omega
  have hKs:Kp g g w5 (w5.setCell ⟨g,0,none⟩ (.slice A5 (n+m) c5')):=(Kp.refl g g w5).setCell' (.inl rfl) _;have hOw:=Q1.out.kp hKs hbg hbg;rw [← List.map_append] at hOw;have hlen:n+m=(xs++ys).length:=by rw [List.length_append,HN.out,HM.out]
  have hzz:=Hz.out;have hcx:certP (xs++ys)=z:=(certP_stays (by rw [hzz];exact h0) ys).trans hzz;have hpp:partsP (xs++ys)=partsP xs:=partsP_stays (by rw [hzz];exact h0) ys;have h9:=H5.out.s0 A5 (n+m) c5';rw [hlen] at h9 hOw;refine ⟨rfl,b5,⟨A5,c5',at_,p,?_,?_,hbg,by omega,by rw [hpp];exact Hp.out,prs_more (by rw [HN.out];exact hat) HP.out⟩,Q2.out,?_⟩
  ·rw [hcx];rw [← hlen] at h9 ⊢;exact h9
  ·rw [← hlen] at hOw ⊢;exact hOw
  ·have k1:Kp g own w w5:=(Kp.refl g own w).trans Q3.out (.inr (.inl rfl)) (.inr (.inl rfl));exact k1.trans hKs (.inl rfl) (.inl rfl)
end
section
open Go Go.RowKit Go.Lib
set_option maxRecDepth 100000 in
theorem DecodeE_any (w:World) (b:Nat) (A:Option Addr) (n c:Nat) (xs:List Nat) (k:Nat) (hk:parseP xs=.error k) (hn:n=xs.length) (hnc:n≤c) (hm:n≤1000000000) (hr:Rd w b A (cN .u8 xs)) (hA:A=none→c=0) (hx:∀ x∈xs,x < 256) (hG:Gl w) :
  Calls Tryz.prog 32 #[.slice A n c] w fun e w'=>e=.returned (.tuple #[.slice none 0 0,.int .i64 (k:Int)])∧Nw w w':=by
 have HP:=hid (hk ▸ ParseL_any w b A n c xs hn hnc hm hr hA hx hG);have hP2:Calls Tryz.prog 53 #[.slice A n c] w (PrsW w (.error k)):=HP.out;have HP2:=hid hP2;clear HP hP2 hr hx hA hG hk hn hnc;go_enter Tryz.func32,Tryz.ntmps32
 go_wp2_with fail;refine HP2.out.mono ?_;rintro e w1 ⟨rfl,hk,hN⟩;have hkb:((k:Int) != 0)=true:=by rw [bne_iff_ne];omega
 have HNN:=hid hN;clear hN hk;go_wp2_with fail;go_ret2;exact ⟨rfl,(HNN.out.alloc' _)⟩
set_option maxRecDepth 100000 in
theorem PCloseE_any (w:World) (g own:Nat) (xs:List Nat) (cl:Bool) (k:Nat) (hk:parseP xs=.error k) (h:Fed w g own xs cl) (hm:xs.length≤1000000000) (hx:∀ x∈xs,x < 256) (hG:Gl w) (hg:3≤g) :
  Calls Tryz.prog 20 #[.pointer (some ⟨g,0,none⟩)] w fun e w'=>e=.returned (.tuple #[.slice none 0 0,.int .i64 (k:Int)])∧Fed w' g own xs true∧Kp g g w w':=by
 obtain ⟨A,c,at_,p,h,hO,hne,hat,hp,hP⟩:=h;have hKs:Kp g g w (w.setCell ⟨g,5,none⟩ (.bool true)):=(Kp.refl g g w).setCell' (.inl rfl) _;have hOw:=hO.kp hKs hne hne;have hAn:A=none→c=0:=by
  intro h;rcases hO with ⟨_,_,h2,_⟩ | ⟨h1,_⟩
  ·exact h2
  ·rw [h] at h1;cases h1
 have HD:=hid (DecodeE_any _ own A xs.length c xs k hk rfl hOw.cap.1 hm hOw.rd hAn hx (hG.kp hKs hg hg));have H:=hid h;have HF:=hid (show ∀ W,Nw (w.setCell ⟨g,5,none⟩ (.bool true)) W→Fed W g own xs true from fun W hN=>⟨A,c,at_,p,(h.s5 true).nw hN,hOw.nw hN,hne,hat,hp,hP⟩);have HK:=hid hKs;have c0:=h.c0;have c5:=h.c5;have f5:=h.free 5;have hnil:=nil_eqP g;obtain ⟨n,hn⟩:∃ n,xs.length=n:=⟨_,rfl⟩;rw [hn] at HD c0;clear hO hAn hOw hKs h hP hp hx hat hk hm hn;go_enter Tryz.func20,Tryz.ntmps20
 go_wp2_with fail;refine HD.out.mono ?_;rintro e w1 ⟨rfl,hN⟩;have HN:=hid hN;clear hN;go_wp2_with fail;go_ret2;exact ⟨rfl,HF.out _ HN.out,HK.out.nw' HN.out⟩
theorem Fed.new {W:World} {g:Nat} (h:PcS W g none 0 0 0 0 0 false) (own:Nat) (hne:own≠g):Fed W g own [] false :=
 ⟨none,0,0,0,h,Ow.nil _ _ _ _,hne,Nat.le_refl _,rfl,prs_nil []⟩
theorem PLenF_any (w:World) (g own:Nat) (xs:List Nat) (cl:Bool) (h:Fed w g own xs cl) :
  Calls Tryz.prog 22 #[.pointer (some ⟨g,0,none⟩)] w fun e w'=>e=.returned (.int .i64 (xs.length:Int))∧w=w':=by
 obtain ⟨A,c,at_,p,h,-⟩:=h;exact PLen_any w g _ _ _ _ _ _ _ h
theorem PPartsF_any (w:World) (g own:Nat) (xs:List Nat) (cl:Bool) (h:Fed w g own xs cl) :
  Calls Tryz.prog 23 #[.pointer (some ⟨g,0,none⟩)] w fun e w'=>e=.returned (.int .i64 (partsP xs:Nat))∧w=w':=by
 obtain ⟨A,c,at_,p,h,-,-,-,rfl,-⟩:=h;exact PParts_any w g _ _ _ _ _ _ _ h
theorem PErrF_any (w:World) (g own:Nat) (xs:List Nat) (cl:Bool) (h:Fed w g own xs cl) :
  Calls Tryz.prog 25 #[.pointer (some ⟨g,0,none⟩)] w fun e w'=>e=.returned (.int .i64 (certP xs:Nat))∧w=w':=by
 obtain ⟨A,c,at_,p,h,-⟩:=h;exact PErr_any w g _ _ _ _ _ _ _ h
end
section
open Go Go.RowKit Go.Lib
theorem Fed.nw {W W':World} {g own:Nat} {xs:List Nat} {cl:Bool} (h:Fed W g own xs cl) (hN:Nw W W'):Fed W' g own xs cl:=by
 obtain ⟨A,c,a,p,h,hO,r⟩:=h;exact ⟨A,c,a,p,h.nw hN,hO.nw hN,r⟩
theorem par5:parseP [84,83,66,75,1]=.error 3:=by rfl
theorem rd_mark (w:World) (cs:Array Value) (q:Nat × Nat):Rd (w.alloc (.cells cs 5 q)) w.heap.size (some ⟨w.heap.size,0,none⟩) cs.toList:=by
 refine .inr ⟨0,rfl,by rw [World.size_alloc];omega,fun j v h=>?_⟩;have hb:=heap_alloc_new w (.cells cs 5 q);rw [Nat.zero_add];simp only [World.cell?,hb];simpa using h
set_option maxRecDepth 100000 in
set_option maxHeartbeats 2000000 in
theorem alive19_any (w:World) (hG:Gl w):Calls Tryz.prog 15 #[] w fun e w'=>e=.returned (.bool true)∧Nw w w':=by
 have HG:=hid hG;have hnil:=nil_eqP w.heap.size;have kc1:∀ W:World,(convert 22 22 (.slice (some ⟨W.heap.size,0,none⟩) 1 1)).run Tryz.prog (W.alloc (.cells #[.int .u8 84] 5))=.ok (.slice (some ⟨W.heap.size,0,none⟩) 1 1) (W.alloc (.cells #[.int .u8 84] 5 (1,2))):=fun W=>Lib.run_convert_bytes_const (P:=Tryz.prog) W 22 5 #[.int .u8 84] 1 1 Tryz.underlying22 Tryz.underlying5
 have kc4:∀ W:World,(convert 22 22 (.slice (some ⟨W.heap.size,0,none⟩) 4 4)).run Tryz.prog (W.alloc (.cells #[.int .u8 83,.int .u8 66,.int .u8 75,.int .u8 1] 5))=.ok (.slice (some ⟨W.heap.size,0,none⟩) 4 4) (W.alloc (.cells #[.int .u8 83,.int .u8 66,.int .u8 75,.int .u8 1] 5 (4,5))):=fun W=>Lib.run_convert_bytes_const (P:=Tryz.prog) W 22 5 #[.int .u8 83,.int .u8 66,.int .u8 75,.int .u8 1] 4 4 Tryz.underlying22 Tryz.underlying5
 clear hG;go_enter Tryz.func15,Tryz.ntmps15
 go_wp2_with fail;refine (PNew_any w).mono ?_;rintro e w1 ⟨rfl,h1,hN1⟩;have H1:=hid (Fed.new h1 (w.heap.size+1) (by omega));have HN1:=hid hN1;clear h1 hN1;go_wp2_with fail;have hg:=HG.out.lt;have hA1:Nw w1 (w1.alloc (.cells #[.int .u8 84] 5 (1,2))):=(Nw.refl w1).alloc' _;refine (PFeed_any _ w.heap.size (w.heap.size+1) w1.heap.size [] [84] (some ⟨w1.heap.size,0,none⟩) 1 1 (H1.out.nw hA1) (rd_mark w1 #[.int .u8 84] (1,2)) (by intro h;cases h) rfl (by decide) (by decide) ((HG.out.nw HN1.out).nw hA1) (by omega) (by omega)).mono ?_;rintro e w2 ⟨rfl,own2,h2,ho2,hK2⟩;have H2:=hid h2;have hN2:Nw w w2:=Kp.nw (HN1.out.trans hA1) hK2 (Nat.le_refl _) (by omega);have HN2:=hid hN2;have ho2':w.heap.size≤own2:=by
  have:=HN1.out.size;rcases ho2 with h | h
  ·omega
  ·simp only [World.size_alloc] at h;omega
 clear h2 hK2 hN2 hA1 ho2;go_wp2_with fail;have hA2:Nw w2 (w2.alloc (.cells #[.int .u8 83,.int .u8 66,.int .u8 75,.int .u8 1] 5 (4,5))):=(Nw.refl w2).alloc' _;refine (PFeed_any _ w.heap.size own2 w2.heap.size [84] [83,66,75,1] (some ⟨w2.heap.size,0,none⟩) 4 4 (H2.out.nw hA2) (rd_mark w2 #[.int .u8 83,.int .u8 66,.int .u8 75,.int .u8 1] (4,5)) (by intro h;cases h) rfl (by decide) (by decide) ((HG.out.nw HN2.out).nw hA2) (by omega) (by omega)).mono ?_;rintro e w3 ⟨rfl,own3,h3,ho3,hK3⟩;have H3:=hid h3;have hN3:Nw w w3:=Kp.nw (HN2.out.trans hA2) hK3 (Nat.le_refl _) ho2';have HN3:=hid hN3;have ho3':w.heap.size≤own3:=by
  have:=HN2.out.size;rcases ho3 with h | h
  ·omega
  ·simp only [World.size_alloc] at h;omega
 clear h3 hK3 hN3 hA2 ho3 kc1 kc4;go_wp2_with fail;refine (PLenF_any w3 w.heap.size own3 _ false H3.out).mono ?_;rintro e w4 ⟨rfl,rfl⟩;go_wp2_with fail;refine (PPartsF_any w3 w.heap.size own3 _ false H3.out).mono ?_;rintro e w4 ⟨rfl,rfl⟩;have h51:((partsP ([84]++[83,66,75,1]):Nat):Int)=1:=by rfl
 rw [h51];go_wp2_with fail;refine (PCloseE_any w3 w.heap.size own3 _ false 3 par5 H3.out (by decide) (by decide) (HG.out.nw HN3.out) (by omega)).mono ?_;rintro e w4 ⟨rfl,h4,hK4⟩;have H4:=hid h4;have HN4:=hid (Kp.nw HN3.out hK4 (Nat.le_refl _) (Nat.le_refl _));clear h4 hK4;go_wp2_with fail;refine (PFeed_closed w4 w.heap.size own3 _ none 0 0 H4.out).mono ?_;rintro e w5 ⟨rfl,rfl⟩;go_wp2_with fail;go_ret;exact ⟨rfl,HN4.out⟩
end
section
open Go Go.RowKit Go.Lib Go.Sort Go.Shelf
attribute [local go_sem] Oper.semAt_some
theorem run_load4R {W:World} {g:Nat} {a b c d:Value} {t:TypeId} (h:W.heap[g]? = some (.cells #[a,b,c,d] t (0,0))):(loadVar 49 ⟨g,0,none⟩).run Tryz.prog W=.ok (.agg #[a,b,c,d]) W:=by
 have c0:W.cell? ⟨g,0,none⟩=some a:=cell_at (k:=0) h;have c1:W.cell? ⟨g,1,none⟩=some b:=cell_at (k:=1) h;have c2:W.cell? ⟨g,2,none⟩=some c:=cell_at (k:=2) h;have c3:W.cell? ⟨g,3,none⟩=some d:=cell_at (k:=3) h;simp [loadVar,loadCells,loadCellsFrom,go_sem,c0,c1,c2,c3]
section
variable {w W W':World} {v0 v1 v2 v3:Value}
end
end
section
open Go Go.RowKit Go.Lib Go.Sort Go.Shelf
structure Up (w0 w w':World):Prop where
 os:w'.os=w.os
 tape:w'.tape=w.tape
 output:w'.output=w.output
 size:w.heap.size≤w'.heap.size
 block:∀ k,k < w0.heap.size→k < w.heap.size→w'.heap[k]? = w.heap[k]?
theorem Up.trans {w0 a b c:World} (h:Up w0 a b) (k:Up w0 b c):Up w0 a c :=
 ⟨k.os.trans h.os,k.tape.trans h.tape,k.output.trans h.output,Nat.le_trans h.size k.size,fun j h1 h2=>(k.block j h1 (Nat.lt_of_lt_of_le h2 h.size)).trans (h.block j h1 h2)⟩
theorem Up.of_nw {w0 w w':World} (h:Nw w w'):Up w0 w w':=⟨h.os,h.tape,h.output,h.size,fun k _ hk=>h.block k hk⟩
theorem Up.of_kp {w0 w w':World} {b:Nat} (h:Kp b b w w') (hb:w0.heap.size≤b):Up w0 w w':=⟨h.os,h.tape,h.output,h.size,fun k h1 h2=>h.block k h2 (by omega) (by omega)⟩
theorem Nw.up {w0 w w':World} (h:Nw w0 w) (k:Up w0 w w'):Nw w0 w' :=
 ⟨k.os.trans h.os,k.tape.trans h.tape,k.output.trans h.output,Nat.le_trans h.size k.size,fun j hj=>(k.block j hj (Nat.lt_of_lt_of_le hj h.size)).trans (h.block j hj)⟩
def OwN (w0 W:World) (b:Nat) (e:TypeId) (size:Nat) (A:Option Addr) (n c:Nat) (xs:List Value):Prop:=Ow W b e size A n c xs∧(A=none∨w0.heap.size≤b)
section
variable {P:Program} {w0 w w' W W':World} {b g n c:Nat} {e:TypeId} {size:Nat} {A:Option Addr} {xs:List Value}
theorem OwN.nil (w0 W:World) (b:Nat) (e:TypeId) (size:Nat):OwN w0 W b e size none 0 0 []:=⟨Ow.nil _ _ _ _,.inl rfl⟩
theorem OwN.nw (h:OwN w0 W b e size A n c xs) (hN:Nw W W'):OwN w0 W' b e size A n c xs:=⟨h.1.nw hN,h.2⟩
theorem OwN.app_ {b5 n5 c5:Nat} {A5:Option Addr} {ys:List Value} (h:OwN w0 w b e size A n c xs) (hs:w0.heap.size≤w.heap.size)
  (r1:Ow w' b5 e size A5 n5 c5 ys) (r2:b5=b∨w.heap.size≤b5) (r3:Kp b b w w') (r4:A=none→Nw w w'∧(w.heap.size≤b5∨A5=none)) :
  OwN w0 w' b5 e size A5 n5 c5 ys∧Up w0 w w'∧KtyL [e] w w':=by
 have hk:=(app_kty h.1 r3 (fun q=>(r4 q).1)).toL (T:=[e]) r3.size (by simp);by_cases hA:A=none
 ·obtain ⟨q1,q2⟩:=r4 hA;exact ⟨⟨r1,q2.elim (fun q=>.inr (by omega)) .inl⟩,Up.of_nw q1,hk⟩
 ·have hb:=h.2.resolve_left hA;refine ⟨⟨r1,.inr ?_⟩,Up.of_kp r3 hb,hk⟩;rcases r2 with rfl | q<;>omega
theorem wpList_appN {ops:Array Oper} {rest:List Oper} {o:Oper} {a:Act} {Q:Exit→Act→World→Prop} {t:TypeId} {z:Value} {bytes:Nat} (E:ElemT P t e z size bytes) (hgd:o.guard=none) (s x:Operand)
  (ho:o.op=.call { callee:=.builtin .append,args:=#[s,x],argTypes:=#[t,t] })
  (hs:a.eval s=.slice A n c) (hown:OwN w0 w b e size A n c xs) (h0:w0.heap.size≤w.heap.size)
  {b2:Nat} {A2:Option Addr} {m c2:Nat} {news:List Value} (hx:a.eval x=.slice A2 m c2) (hr:Rd w b2 A2 news) (hl:news.length=m*size) (hnil:A2=none→c2=0) (h1:∀ u∈news,u.oneCell'=true)
  (h63:n+m≤maxLen) (hbytes:(n+m)*bytes≤140737488355328)
  (h:∀ b' A' c' w',OwN w0 w' b' e size A' (n+m) c' (xs++news)→Up w0 w w'→KtyL [e] w w'→wpList P ops Q rest (a.put o.dst (.slice A' (n+m) c')) w') :
  wpList P ops Q (o::rest) a w:=by
 refine wpList_app E hgd s x ho hs hown.1 hx hr hl hnil h1 h63 hbytes ?_;intro b' A' c' w' r1 r2 r3 r4;obtain ⟨q1,q2,q3⟩:=hown.app_ h0 r1 r2 r3 r4;exact h b' A' c' w' q1 q2 q3
theorem wpList_appL {ops:Array Oper} {rest:List Oper} {o:Oper} {a:Act} {Q:Exit→Act→World→Prop} {t:TypeId} {z:Value} {bytes:Nat} (E:ElemT P t e z size bytes) (hgd:o.guard=none) (s x:Operand)
  (ho:o.op=.call { callee:=.builtin .append,args:=#[s,x],argTypes:=#[t,t] })
  (hs:a.eval s=.slice A n c) (hown:OwN w0 w b e size A n c xs) (h0:w0.heap.size≤w.heap.size)
  {us:Array Value} (hx:a.eval x=.slice (some ⟨w.heap.size,0,none⟩) 1 1) (hl:us.size=size) (h1:∀ u∈us.toList,u.oneCell'=true)
  (hbytes:(n+1)*bytes≤140737488355328) (hby0:0 < bytes)
  (h:∀ b' A' c' w',OwN w0 w' b' e size A' (n+1) c' (xs++us.toList)→Up w0 w w'→KtyL [e] w w'→wpList P ops Q rest (a.put o.dst (.slice A' (n+1) c')) w') :
  wpList P ops Q (o::rest) a (w.alloc (.cells us e)):=by
 have hn:n+1≤140737488355328:=Nat.le_trans (Nat.le_mul_of_pos_right _ hby0) hbytes;have hnw:Nw w (w.alloc (.cells us e)):=Nw.alloc' (Nw.refl w) _;refine wpList_appN E hgd s x ho hs (hown.nw hnw) (Nat.le_trans h0 hnw.size) (b2:=w.heap.size) (news:=us.toList) hx (Ow.lit w e size 1 us (by rw [Nat.one_mul];exact hl) (by omega)).rd (by rw [Nat.one_mul,Array.length_toList];exact hl) (by simp) h1
  (by simp only [maxLen];omega) hbytes ?_
 intro b' A' c' w' q1 q2 q3;exact h b' A' c' w' q1 ((Up.of_nw hnw).trans q2) ((KtyL.nw hnw).trans q3)
end
end
section
open Go Go.RowKit Go.Lib Go.Sort Go.Shelf
structure CutS where
 l:List Nat
 A:Option Addr
 c:Nat
def CutS.cell (s:CutS):Value:=.slice s.A s.l.length s.c
def InCut (W:World) (b:Nat) (s:CutS):Prop:=Rd W b s.A (cN .u8 s.l)∧(s.A=none→s.c=0)∧s.l.length≤s.c
def CutsW (w:World) (b:Nat) (xs:List Nat) (e:Ending) (w':World):Prop :=
 Nw w w'∧∃ (ss:List CutS) (bo:Nat) (Ao:Option Addr) (co:Nat),e=.returned (.slice Ao ss.length co)∧OwN w w' bo 22 1 Ao ss.length co (ss.map CutS.cell)∧(ss.map (·.l)).flatten=xs∧(∀ s∈ss,InCut w b s)∧ss.length≤21
theorem InCut.nw {W W':World} {b:Nat} {s:CutS} (h:InCut W b s) (hN:Nw W W'):InCut W' b s:=⟨h.1.nw hN,h.2⟩
theorem E_byts:ElemT Tryz.prog 27 22 (.slice none 0 0) 1 24:=ElemT.mk' Tryz.underlying27 (by kernel_rfl) rfl (by omega)
theorem bytes_of {w:World} {a:Option Addr} {len cap:Nat} {zs:List Int} (h:IsRow .u16 w a len cap zs):∃ b xs,InRow .u16 w b a len cap xs∧∀ x∈xs,x < 65536:=by
 obtain ⟨b,xs,h⟩:=InRow.of h fun z hz=>(bounds_u16 hz).1
 exact ⟨b,xs,h,fun x hx=>by have:=(bounds_u16 (h.wf x hx)).2;omega⟩
structure DatN (w:World) (b:Nat) (A:Option Addr) (q c:Nat) (d:List Nat):Prop where
 rd:Rd w b A (cN .u8 d)
 len:q=d.length
 cap:q≤c
 nil:A=none→c=0
 max:q≤6000
theorem DatN.cut {w:World} {b q c:Nat} {A:Option Addr} {d:List Nat} (h:DatN w b A q c d) (n:Nat) (hn:n≤q):DatN w b (if c=n then A else A.map (·.add n)) (q - n) (c - n) (d.drop n):=by
 have h1:=h.rd.cut (k:=n) (cap:=c) (size:=1) (by rw [List.length_map,← h.len,Nat.mul_one];exact h.cap);refine ⟨?_,by rw [List.length_drop,← h.len],by have:=h.cap;omega,fun e=>?_,by have:=h.max;omega⟩
 ·rw [Nat.mul_one] at h1;unfold cN at h1 ⊢;rw [List.map_drop];exact h1
 ·by_cases q0:c=n
  ·omega
  ·rw [if_neg q0,Option.map_eq_none_iff] at e;have:=h.nil e;omega
theorem DatN.take {w:World} {b q c:Nat} {A:Option Addr} {d:List Nat} (h:DatN w b A q c d) (n:Nat) (hn:n≤q):InCut w b ⟨d.take n,A,c⟩∧(CutS.cell ⟨d.take n,A,c⟩=.slice A n c):=by
 have hl:(d.take n).length=n:=by rw [List.length_take,← h.len];omega
 refine ⟨⟨?_,h.nil,?_⟩,?_⟩
 ·have:=h.rd.take n;unfold cN at this ⊢;rw [List.map_take];exact this
 ·show (d.take n).length≤c
  have:=h.cap;omega
 ·show Value.slice A (d.take n).length c=_
  rw [hl]
set_option maxRecDepth 100000 in
set_option maxHeartbeats 1600000 in
theorem Cuts_any (w:World) (b n c bt nt ct:Nat) (A At:Option Addr) (xs ks:List Nat) (hD:DatN w b A n c xs) (hrt:Rd w bt At (cN .u16 ks)) (hnt:nt=ks.length) (hnct:nt≤ct) (hk:∀ x∈ks,x < 65536) :
  Calls Tryz.prog 17 #[.slice A n c,.slice At nt ct] w (CutsW w b xs):=by
 obtain ⟨M,hM⟩:∃ M,min nt 20=M:=⟨_,rfl⟩;have hmin:min (nt:Int) 20=(M:Int):=by omega
 have hMct:(M:Int)≤(ct:Int):=by omega
 have hM20:M≤20:=by omega
 have HD:=hid hD;have HT:=hid hrt;have HK:=hid hk;have HM:Hid (M≤ks.length):=hid (by omega);clear hD hrt hk hM hnt hnct;go_enter Tryz.func17,Tryz.ntmps17
 go_wp2_with fail;go_loopw [0,5,15] (fun dv ov iv wr=>∃ (i:Nat) (d:List Nat) (Ad:Option Addr) (q cq:Nat) (ss:List CutS) (bo:Nat) (Ao:Option Addr) (co:Nat),i≤M∧iv=.int .i64 (i:Int)∧dv=.slice Ad q cq∧ov=.slice Ao i co∧Hid (ss.length=i)∧Hid (DatN w b Ad q cq d)∧Hid ((ss.map (·.l)).flatten++d=xs)∧Hid (∀ s∈ss,InCut w b s)∧Hid (OwN w wr bo 22 1 Ao i co (ss.map CutS.cell))∧Hid (Nw w wr)) (fun _ _ iv _=>M - (intOf iv).toNat)
 case atStart=>exact ⟨0,xs,A,n,c,[],0,none,0,Nat.zero_le _,rfl,rfl,rfl,hid rfl,HD,hid rfl,hid (fun s hs=>(by cases hs)),hid (OwN.nil _ _ _ _ _),hid (Nw.refl _)⟩
 case round =>
  clear HD;obtain ⟨i,d,Ad,q,cq,ss,bo,Ao,co,hi,rfl,rfl,rfl,HL,HD,HF,HI,HO,HN⟩:=hrel;have hcq:=HD.out.cap;have hq6:=HD.out.max;by_cases hlt:i < M
  ·have hltI:(i:Int) < (M:Int):=by omega
   have hik:i < ks.length:=by have:=HM.out;omega
   obtain ⟨o,rfl,_,hc⟩:=(HT.out.nw HN.out).get (k:=i) (by unfold cN;rw [List.length_map];exact hik);unfold cN at hc;rw [List.getElem_map] at hc;have hk6:=HK.out _ (List.getElem_mem hik);generalize ks[i]=k at *;obtain ⟨Q1,hQ1⟩:∃ Q1,q+1=Q1:=⟨_,rfl⟩;have hQI:(q:Int)+1=(Q1:Int):=by omega
   obtain ⟨m,hm⟩:∃ m,k % Q1=m:=⟨_,rfl⟩;have hmq:m≤q:=by have:=Nat.mod_lt k (show Q1 > 0 by omega);omega
   have hrem:Int.tmod (k:Int) (Q1:Int)=(m:Int):=by rw [← hm];exact (Int.ofNat_tmod k Q1).symm
   have hQ0:¬ (Q1:Int)=0:=by omega
   have hmcI:(m:Int)≤(cq:Int):=by omega
   have hmqI:(m:Int)≤(q:Int):=by omega
   have HC:=hid (HD.out.cut m hmq);have HTk:=hid (HD.out.take m hmq);clear hm hik hlt hQ1;go_wp2_with (at_builtin;refine wpList_appL E_byts rfl (.tmp 25) (.tmp 29) rfl rfl HO.out HN.out.size rfl rfl (by simp [Value.oneCell']) (by omega) (by omega) ?_;intro b5 A5 c5 w5 q1 q2 q3;have Q1:=hid q1;have Q2:=hid q2;clear q1 q2 q3)
   go_wp2_with fail;go_roundw
   case rel=>exact ⟨i+1,d.drop m,_,q - m,cq - m,ss++[⟨d.take m,Ad,cq⟩],b5,A5,c5,by omega,by go_num,rfl,rfl,hid (by rw [List.length_append,HL.out];rfl),HC,hid (by rw [← HF.out,List.map_append,List.flatten_append];simp [List.take_append_drop]),hid (fun s hs=>by
    rcases List.mem_append.1 hs with hs | hs
    ·exact HI.out s hs
    ·rw [List.mem_singleton] at hs;rw [hs];exact HTk.out.1),hid (by rw [List.map_append,List.map_cons,List.map_nil,HTk.out.2];exact Q1.out),hid (HN.out.up Q2.out)⟩
   case measure=>simp [intOf];omega
  ·obtain rfl:i=M:=by omega
   have hnl:¬ (i:Int) < (i:Int):=by omega
   go_wp2_with (at_builtin;refine wpList_appL E_byts rfl (.tmp 35) (.tmp 37) rfl rfl HO.out HN.out.size rfl rfl (by simp [Value.oneCell']) (by omega) (by omega) ?_;intro b5 A5 c5 w5 q1 q2 q3;have Q1:=hid q1;have Q2:=hid q2;clear q1 q2 q3)
   go_wp2_with fail;go_ret;have hl:=HL.out;have hT:=HD.out.take q (Nat.le_refl _);rw [List.take_of_length_le (by rw [HD.out.len];exact Nat.le_refl _)] at hT;refine ⟨HN.out.up Q2.out,ss++[⟨d,Ad,cq⟩],b5,A5,c5,?_,?_,?_,?_,?_⟩
   ·rw [List.length_append,hl];rfl
   ·have:=Q1.out;rw [List.length_append,hl,List.map_append,List.map_cons,List.map_nil,hT.2];exact this
   ·rw [List.map_append,List.flatten_append];simpa using HF.out
   ·intro s hs;rcases List.mem_append.1 hs with hs | hs
    ·exact HI.out s hs
    ·rw [List.mem_singleton] at hs;rw [hs];exact hT.1
   ·rw [List.length_append,hl];simp;omega
end
section
open Go Go.RowKit Go.Lib Go.Sort Go.Shelf
abbrev Rest:=Except Nat (List Nat)
def eOf {α:Type} (x:Except Nat α):Nat:=match x with | .ok _=>0 | .error k=>k
def vOf {α:Type} (d:α) (X:Except Nat (α × List Nat)):α:=match X with | .ok p=>p.1 | .error _=>d
def sOf {α:Type} (X:Except Nat (α × List Nat)):Rest:=match X with | .ok p=>.ok p.2 | .error k=>.error k
def failX (E:Nat) (x:Rest):Rest:=match x with | .ok _=>.error E | .error k=>.error k
def RX (W:World) (g:Nat) (A:Option Addr) (n c:Nat) (xs:List Nat) (x:Rest):Prop :=
 match x with
 | .ok r=>RSt W g A n c (n - r.length) 0∧∃ u,xs=u++r
 | .error k=>k≠0∧∃ q,q≤n∧RSt W g A n c q k
structure RIn (W:World) (g b:Nat) (A:Option Addr) (n c:Nat) (xs:List Nat):Prop where
 rd:Rd W b A (cN .u8 xs)
 len:n=xs.length
 max:n≤1000000000
 byt:∀ x∈xs,x < 256
 ne:b≠g
 cap:n≤c
section
variable {W W':World} {g b n c bt nt:Nat} {A At:Option Addr} {xs:List Nat} {x:Rest} {t:List ByteArray}
theorem RIn.kp (h:RIn W g b A n c xs) (hk:Kp g g W W'):RIn W' g b A n c xs:=⟨h.rd.kp hk h.ne h.ne,h.len,h.max,h.byt,h.ne,h.cap⟩
theorem RX.sfx {r:List Nat} (h:RX W g A n c xs (.ok r)) (hn:n=xs.length):xs.drop (n - r.length)=r∧r.length≤n∧n - r.length≤n:=by
 obtain ⟨_,u,hu⟩:=h;have:=congrArg List.length hu;rw [List.length_append] at this;refine ⟨?_,by omega,Nat.sub_le _ _⟩;rw [hn,this,Nat.add_sub_cancel,hu,List.drop_left]
end
section
variable (w:World) (g b n c bt nt ct:Nat) (A At:Option Addr) (xs:List Nat) (x:Rest) (t:List ByteArray)
end
end
section
open Go Go.RowKit Go.Lib Go.Sort Go.Shelf
theorem bS_eq2 {l m:List Nat} (hl:∀ x∈l,x < 256) (hm:∀ x∈m,x < 256):((bS l).toList == (bS m).toList)=decide (l=m):=by
 rw [bS_eq hl,sB_bS hm]
theorem crcOk_cut {l m:List Nat} (h:l.take (l.length - 4)=m) (h4:4≤l.length):crcOk l=decide (addCrc m=l):=by
 unfold crcOk;rw [h];by_cases e:addCrc m=l
 ·rw [decide_eq_true e,decide_eq_true ⟨h4,e.symm⟩]
 ·rw [decide_eq_false e,decide_eq_false fun k=>e k.2.symm]
set_option maxRecDepth 100000 in
set_option maxHeartbeats 1000000 in
theorem CrcChk_any (w:World) (b:Nat) (A:Option Addr) (n c:Nat) (l:List Nat) (hn:n=l.length) (hnc:n≤c) (hm:n≤1000000000) (hr:Rd w b A (cN .u8 l)) (hA:A=none→c=0) (hl:∀ x∈l,x < 256) :
  Calls Tryz.prog 82 #[.slice A n c] w fun e w'=>e=.returned (.bool (crcOk l))∧Nw w w':=by
 by_cases h4:l.length < 4
 ·have h4I:¬ (0:Int)≤(n:Int) - 4:=by omega
  have hk:crcOk l=false:=by
   unfold crcOk;rw [decide_eq_false_iff_not];exact fun h=>by omega
  rw [hk];have hnI:((4:Int)≤(n:Int))=False:=by
   rw [eq_iff_iff,iff_false];omega
  have hD:decide ((4:Int)≤(n:Int))=false:=decide_eq_false (by omega);have hD2:decide ((0:Int)≤(n:Int) - 4)=false:=decide_eq_false h4I;clear hr hl hn hk h4 hA hnc;go_enter Tryz.func82,Tryz.ntmps82
  go_wp2_with fail;go_quiet (fail)
  go_wp2_with fail;go_ret;exact ⟨rfl,Nw.drewN w _⟩
 ·obtain ⟨m,hmq⟩:∃ m,l.take (l.length - 4)=m:=⟨_,rfl⟩;have hml:m.length=l.length - 4:=by rw [← hmq,List.length_take];omega
  have hmb:∀ x∈m,x < 256:=fun x hx=>hl x (by rw [← hmq] at hx;exact List.mem_of_mem_take hx)
  obtain ⟨L,hL⟩:∃ L,m.length=L:=⟨_,rfl⟩;have hnI:(n:Int) - 4=(L:Int):=by omega
  have hRm:Hid (∀ W,Nw w W→Rd W b A (cN .u8 m)):=hid fun W hN=>by
   have:=(hr.nw hN).take L;unfold cN at this ⊢;rw [← List.map_take,show l.take L=m by rw [← hmq];congr 1;omega] at this;exact this
  have HC:Hid (∀ W,Nw w W→Calls Tryz.prog 91 #[.slice A L c] W (NewB W (addCrc m))):=hid fun W hN =>
   RCrcAppend_any W b A L c m hL.symm (by omega) (hRm.out W hN) hA hmb
  have HV:Hid (∀ W,Nw w W→(convert 22 9 (.slice A n c)).run Tryz.prog W=.ok (.string (bS l)) W):=hid fun W hN=>run_str hn (hr.nw hN)
  have HE:Hid (((bS (addCrc m)).toList == (bS l).toList)=crcOk l):=hid (by rw [bS_eq2 (addCrc_lt m hmb) hl,crcOk_cut hmq (by omega)]);have hD0:(0:Int)≤(L:Int):=by omega
  have hD1:(L:Int)≤(c:Int):=by omega
  have hLm:(L:Int)≤1000000000:=by omega
  have hD3:decide ((0:Int)≤(L:Int))=true:=decide_eq_true hD0;generalize crcOk l=K at *;generalize bS l=y at *;have HC2:Hid (∀ W,((convert 22 9 (.slice A n c)).run Tryz.prog W=.ok (.string y) W∧Nw w W)→Calls Tryz.prog 91 #[.slice A L c] W fun e w'=>(∃ A' n' c',e=.returned (.slice A' n' c')∧(convert 22 9 (.slice A' n' c')).run Tryz.prog w'=.ok (.string (bS (addCrc m))) w')∧((convert 22 9 (.slice A n c)).run Tryz.prog w'=.ok (.string y) w'∧Nw w w')):=hid fun W hS=>(HC.out W hS.2).mono fun e w' ⟨b',A',c',h1,hO,_,hN5⟩=>⟨⟨A',_,c',h1,run_str rfl hO.rd⟩,HV.out _ (hS.2.trans hN5),hS.2.trans hN5⟩
  have HE1:=HE.out;clear hr hl hn hA hmq hml hmb hL h4 hnc hRm HC HE;go_enter Tryz.func82,Tryz.ntmps82
  go_wp2_with fail;have hcv0:=HV.out w.drew (Nw.drew1 _);have hcv00:=HV.out w (Nw.refl w);go_region_with (go_at_call 91;refine (HC2.out _ ⟨HV.out w.drew (Nw.drew1 _),(Nw.drew1 _)⟩).mono ?_;rintro e w5 ⟨⟨A',n',c',rfl,hcv⟩,hcv5,hN⟩)
  all_goals
   have HN:=hid hN;clear hN;go_wp2_with fail;go_ret;exact ⟨rfl,HN.out⟩
theorem lit_ne {s xs:List Nat} {k:Nat} (h1:k < s.length) (h2:k < xs.length) (h:xs[k]≠s[k]):litP s xs=.error 10:=by
 unfold litP;rw [if_pos];intro e;have h3:k < (xs.take s.length).length:=by rw [List.length_take];omega
 have:=List.getElem_of_eq e h3;rw [List.getElem_take,List.getElem_take] at this;exact h this
theorem lit_cut {s xs:List Nat} (h:xs.take xs.length=s.take xs.length) (h2:xs.length < s.length):litP s xs=.error 3:=by
 unfold litP;rw [if_neg,if_pos h2];intro k;apply k
 rw [List.take_of_length_le (by omega),← h,List.take_length]
theorem lit_full {s xs:List Nat} (h:xs.take s.length=s.take s.length) (h2:s.length≤xs.length):litP s xs=.ok (xs.drop s.length):=by
 unfold litP;rw [if_neg,if_neg (by omega)];intro k;apply k
 rw [h,List.take_length,List.take_of_length_le h2]
set_option maxRecDepth 100000 in
set_option maxHeartbeats 1000000 in
theorem RLit_any (w:World) (b:Nat) (A:Option Addr) (n c:Nat) (xs:List Nat) (s:ByteArray) (hn:n=xs.length) (hm:n≤1000000000) (hr:Rd w b A (cN .u8 xs)) (hs:s.size≤100) :
  Calls Tryz.prog 80 #[.slice A n c,.string s] w fun e w'=>e=.returned (.int .i64 (eOf (litP (sB s) xs):Nat))∧Nw w w':=by
 subst hn;have HR:=hid hr;have hsl:=sB_length s;obtain ⟨t,ht⟩:∃ t,sB s=t:=⟨_,rfl⟩;have HT:=hid ht;rw [ht] at hsl ⊢;clear hr ht;obtain ⟨S,hS⟩:∃ S,s.size=S:=⟨_,rfl⟩;have hSz:=hS;rw [hS] at hsl hs;have HSl:=hid hsl;obtain ⟨X,hX⟩:∃ X,litP t xs=X:=⟨_,rfl⟩;rw [hX];have HX:=hid hX;clear hX hsl hS;go_enter Tryz.func80,Tryz.ntmps80
 go_wp2;go_loopw [5] (fun i wr=>∃ k:Nat,k≤xs.length∧k≤S∧i=.int .i64 k∧Hid (xs.take k=t.take k)∧Hid (Nw w wr)) (fun i _=>xs.length - (intOf i).toNat)
 case atStart=>exact ⟨0,by omega,by omega,rfl,hid rfl,hid (Nw.refl _)⟩
 case round =>
  obtain ⟨k,hk,hkS,rfl,HE,HN⟩:=hrel;by_cases h1:k < S
  ·have h1I:(k:Int) < (S:Int):=by omega
   have h1D:decide ((k:Int) < (S:Int))=true:=decide_eq_true h1I;by_cases h2:k < xs.length
   ·have h2I:(k:Int) < (xs.length:Int):=by omega
    have h2D:decide ((k:Int) < (xs.length:Int))=true:=decide_eq_true h2I;obtain ⟨o,rfl,_,hc⟩:=(HR.out.nw HN.out).get (k:=k) (by simpa using h2);rw [List.getElem_map] at hc;have h3:k < t.length:=by have:=HSl.out;omega
    have hks:k < s.size:=by omega
    have hy:(s[k]'hks).toNat=t[k]:=by
     have he:sB s=t:=HT.out;have h5:(sB s)[k]? = some (s[k]'hks).toNat:=by
      unfold sB;rw [List.getElem?_map,show s.data.toList[k]? = some (s[k]'hks) from List.getElem?_eq_getElem (l:=s.data.toList) (i:=k) hks];rfl
     rw [he,List.getElem?_eq_getElem h3] at h5;injection h5 with h5
     exact h5.symm
    have HTk:=hid (show xs.take (k+1)=t.take (k+1)↔xs[k]=t[k] from by
     rw [List.take_succ_eq_append_getElem h2,List.take_succ_eq_append_getElem h3,HE.out];constructor
     ·intro h;have:=List.append_cancel_left h;injection this
     ·intro h;rw [h])
    have HNe:=hid (show xs[k]≠t[k]→X=.error 10 from fun h=>by rw [← HX.out];exact lit_ne h3 h2 h);generalize xs[k]=x at *;generalize t[k]=y at *;by_cases hxy:x=y
    ·have hb:((x:Int) != (y:Int))=false:=by rw [bne_eq_false_iff_eq,hxy]
     go_wp2_with fail;go_quiet (fail)
     go_wp2_with fail;go_roundw
     case rel=>exact ⟨k+1,by omega,by omega,by go_num,hid (HTk.out.2 hxy),hid (HN.out.drewN' _)⟩
     case measure=>simp [intOf];omega
    ·have hb:((x:Int) != (y:Int))=true:=by rw [bne_iff_ne];omega
     have hX:=HNe.out hxy;subst hX;go_wp2_with fail;go_quiet (fail)
     go_wp2_with fail;go_ret;exact ⟨rfl,HN.out.drewN' _⟩
   ·obtain rfl:k=xs.length:=by omega
    have h2D:decide ((xs.length:Int) < (xs.length:Int))=false:=decide_eq_false (by omega);have h2I:¬ (xs.length:Int) < (xs.length:Int):=by omega
    have hE:X=.error 3:=by rw [← HX.out];exact lit_cut HE.out (by have:=HSl.out;omega)
    subst hE;go_wp2_with fail;go_ret;exact ⟨rfl,HN.out⟩
  ·obtain rfl:k=S:=by omega
   have h1I:¬ (k:Int) < (k:Int):=by omega
   have h1D:decide ((k:Int) < (k:Int))=false:=decide_eq_false h1I;have hE:X=.ok (xs.drop k):=by
    rw [← HX.out,← HSl.out];exact lit_full (by rw [HSl.out];exact HE.out) (by have:=HSl.out;omega)
   subst hE;have h4:¬ (xs.length:Int) < (k:Int):=by omega
   go_wp2_with fail;go_ret;exact ⟨rfl,HN.out⟩
end
section
open Go Go.RowKit Go.Lib Go.Sort Go.Shelf
section
variable (w:World) (g b n c:Nat) (A:Option Addr) (xs:List Nat) (x:Rest)
theorem RX.er {W':World} {A:Option Addr} {g n c k q:Nat} {xs:List Nat} (h0:k≠0) (hq:q≤n) (h:RSt W' g A n c q k):RX W' g A n c xs (.error k):=⟨h0,q,hq,h⟩
end
end
section
open Go Go.RowKit Go.Lib Go.Sort Go.Shelf
section
variable {w:World} {g b o n c at_ y P1 v F L M T E D:Nat}
set_option maxRecDepth 100000 in
set_option maxHeartbeats 400000 in
theorem RSec_12 (HR:RSt w g (some ⟨b,o,none⟩) n c at_ 0) (hc:w.cell? ⟨b,o+at_,none⟩=some (.int .u8 (y:Int))) (hlt:at_ < n) (hm:n≤1000000000) (hnc:n≤c)
  (hP:at_+1=P1) (hF:F+L=n) (hM:M+4=L) (hv:v≤M) (hT:F+v=T) (hE:T+4=E) (hD:at_+D=E)
  (HG:Calls Tryz.prog 85 #[.slice (some ⟨b,o,none⟩) n c,.int .i64 (P1:Int)] w fun e w'=>e=.returned (.tuple #[.int .u64 (v:Int),.int .i64 (F:Int),.int .i64 0])∧w'=w)
  (HC:Calls Tryz.prog 82 #[.slice (some ⟨b,o+at_,none⟩) D (c - at_)] w fun e w'=>e=.returned (.bool false)∧Nw w w') :
  Calls Tryz.prog 45 #[.pointer (some ⟨g,0,none⟩),.int .u8 (y:Int)] w fun e w'=>e=.returned (.slice none 0 0)∧RSt w' g (some ⟨b,o,none⟩) n c at_ 12∧Kp g g w w':=by
 have HG1:=hid HG;have HC1:=hid HC;have HF:=hid fun (W:World) (hN:Nw w W)=>Fail_any W g n c at_ 0 12 (some ⟨b,o,none⟩) (HR.nw hN)
 have H0:=hid fun (W:World) (hN:Nw w W)=>HR.nw hN
 have c0:=HR.c0;have c1:=HR.c1;have c2:=HR.c2;have hge:¬ (n:Int)≤(at_:Int):=by omega
 have hltI:(at_:Int) < (n:Int):=by omega
 have hyb:((y:Int) != (y:Int))=false:=by rw [bne_eq_false_iff_eq]
 have hat1:(at_:Int)+1=(P1:Int):=by omega
 have hatb:(P1:Int)≤1000000000:=by omega
 have HX:Hid ((n:Int) - (F:Int)=(L:Int)∧(L:Int) - 4=(M:Int)∧(F:Int)+(v:Int)=(T:Int)∧(T:Int)+4=(E:Int)∧(E:Int) - (at_:Int)=(D:Int)):=hid (by omega);have HY:Hid (decide (M < v)=false∧decide ((L:Int) < 4)=false∧decide ((M:Int) < (v:Int))=false∧(at_:Int)≤(E:Int)∧(E:Int)≤(c:Int)∧¬ c=at_∧E - at_=D):=hid ⟨decide_eq_false (by omega),decide_eq_false (by omega),decide_eq_false (by omega),by omega,by omega,by omega,by omega⟩;have HB:Hid ((L:Int)≤1000000000∧(M:Int)≤1000000000∧(v:Int)≤1000000000∧(T:Int)≤1000000000∧(E:Int)≤1000000000):=hid (by omega);have HW:Hid (IntKind.u64.wrap (M:Int)=(M:Int)):=hid (IntWalk.u64_in _ (by omega));clear HR hP hF hM hv hT hE hD HG HC hnc hm hlt;go_enter Tryz.func45,Tryz.ntmps45
 go_wp2_with fail;refine HG1.out.mono ?_;rintro e w5 ⟨rfl,rfl⟩;clear HG1 hge hltI hyb hat1 hatb hc;obtain ⟨x1,x2,x3,x4,x5⟩:=HX.out;obtain ⟨y7,y1,y2,y3,y4,y5,y6⟩:=HY.out;obtain ⟨z1,z2,z3,z4,z5⟩:=HB.out;have u1:=HW.out;clear HX HY HB HW;go_wp2_with fail;refine HC1.out.mono ?_;rintro e w6 ⟨rfl,hN6⟩;have HN6:=hid hN6;clear hN6 HC1 x1 x2 x3 x4 x5 y7 y1 y2 y3 y4 y5 y6 z1 z2 z3 z4 z5 u1 c0 c1 c2;go_wp2_with fail;refine (HF.out _ HN6.out).mono ?_;rintro e w7 ⟨rfl,hR2,hK2⟩;go_wp2_with fail;go_ret;exact ⟨rfl,hR2,(HN6.out.kp g g).trans hK2 (.inl rfl) (.inl rfl)⟩
set_option maxRecDepth 100000 in
set_option maxHeartbeats 400000 in
theorem RSec_ok (HR:RSt w g (some ⟨b,o,none⟩) n c at_ 0) (hc:w.cell? ⟨b,o+at_,none⟩=some (.int .u8 (y:Int))) (hlt:at_ < n) (hm:n≤1000000000) (hnc:n≤c)
  (hP:at_+1=P1) (hF:F+L=n) (hM:M+4=L) (hv:v≤M) (hT:F+v=T) (hE:T+4=E) (hD:at_+D=E)
  (HG:Calls Tryz.prog 85 #[.slice (some ⟨b,o,none⟩) n c,.int .i64 (P1:Int)] w fun e w'=>e=.returned (.tuple #[.int .u64 (v:Int),.int .i64 (F:Int),.int .i64 0])∧w'=w)
  (ld:List Nat) (hld:ld.length=v) (HRd:∀ W,Kp g g w W→Rd W b (some ⟨b,o+F,none⟩) (cN .u8 ld))
  (HC:Calls Tryz.prog 82 #[.slice (some ⟨b,o+at_,none⟩) D (c - at_)] w fun e w'=>e=.returned (.bool true)∧Nw w w') :
  Calls Tryz.prog 45 #[.pointer (some ⟨g,0,none⟩),.int .u8 (y:Int)] w fun e w'=>(∃ b' A' c',e=.returned (.slice A' v c')∧Ow w' b' 5 1 A' v c' (cN .u8 ld)∧w.heap.size≤b')∧RSt w' g (some ⟨b,o,none⟩) n c E 0∧Kp g g w w':=by
 have HG1:=hid HG;have HC1:=hid HC;have H0:=hid fun (W:World) (hN:Nw w W)=>HR.nw hN
 have c0:=HR.c0;have c1:=HR.c1;have c2:=HR.c2;have hge:¬ (n:Int)≤(at_:Int):=by omega
 have hltI:(at_:Int) < (n:Int):=by omega
 have hyb:((y:Int) != (y:Int))=false:=by rw [bne_eq_false_iff_eq]
 have hat1:(at_:Int)+1=(P1:Int):=by omega
 have hatb:(P1:Int)≤1000000000:=by omega
 have HX:Hid ((n:Int) - (F:Int)=(L:Int)∧(L:Int) - 4=(M:Int)∧(F:Int)+(v:Int)=(T:Int)∧(T:Int)+4=(E:Int)∧(E:Int) - (at_:Int)=(D:Int)):=hid (by omega);have HY:Hid (decide (M < v)=false∧decide ((L:Int) < 4)=false∧decide ((M:Int) < (v:Int))=false∧(at_:Int)≤(E:Int)∧(E:Int)≤(c:Int)∧¬ c=at_∧E - at_=D):=hid ⟨decide_eq_false (by omega),decide_eq_false (by omega),decide_eq_false (by omega),by omega,by omega,by omega,by omega⟩;have HB:Hid ((L:Int)≤1000000000∧(M:Int)≤1000000000∧(v:Int)≤1000000000∧(T:Int)≤1000000000∧(E:Int)≤1000000000):=hid (by omega);have HR1:=hid HRd;have HL:=hid hld;have hg:=lt_of_block HR;have HV:Hid (¬ c=F∧T - F=v∧(T:Int) - (F:Int)=(v:Int)∧(F:Int)≤(T:Int)∧(T:Int)≤(c:Int)∧(F:Int)≤1000000000∧v≤1000000000):=hid (by omega);have HW:Hid (IntKind.u64.wrap (M:Int)=(M:Int)):=hid (IntWalk.u64_in _ (by omega));clear HRd hld HR hP hF hM hv hT hE hD HG HC hnc hm hlt;go_enter Tryz.func45,Tryz.ntmps45
 go_wp2_with fail;refine HG1.out.mono ?_;rintro e w5 ⟨rfl,rfl⟩;clear HG1 hge hltI hyb hat1 hatb hc;obtain ⟨x1,x2,x3,x4,x5⟩:=HX.out;obtain ⟨y7,y1,y2,y3,y4,y5,y6⟩:=HY.out;obtain ⟨z1,z2,z3,z4,z5⟩:=HB.out;have u1:=HW.out;clear HX HY HB HW;go_wp2_with fail;refine HC1.out.mono ?_;rintro e w6 ⟨rfl,hN6⟩;have HN6:=hid hN6;have HR6:=hid (H0.out _ hN6);clear hN6 HC1 c0 c1 c2 y7 y1 y2 y3 y4 y5 y6;have c0:=HR6.out.c0;have c1:=HR6.out.c1;have c2:=HR6.out.c2;have f1:=HR6.out.free 1;obtain ⟨v1,v2,v3,v4,v5,v6,v7⟩:=HV.out;have HS6:=hid (HR6.out.s1 E);have HK6:Hid (Kp g g w5 (w6.setCell ⟨g,1,none⟩ (.int .i64 (E:Int)))):=hid ((HN6.out.kp g g).setCell' (.inl rfl) _)
 go_upto_region 19 with fail
 have s0:=HS6.out.c0;have s1:=HS6.out.c1;generalize w6.setCell ⟨g,1,none⟩ (.int .i64 (E:Int))=w7 at *;have hN8:Nw w7 (w7.alloc (.cells #[] 5)):=(Nw.refl w7).alloc' _;have HN8:=hid hN8;have HS8:=hid (HS6.out.nw hN8);have HK8:=hid (HK6.out.nw' hN8);have hw7:=HK6.out.size;have s8:=HS8.out.c0;have hg7:g < w7.heap.size:=by omega
 have hgne:¬ g=w7.heap.size:=by omega
 have hgne2:¬ w7.heap.size=g:=by omega
 clear hN8 c0 c1 c2 f1;go_wp2_with (at_builtin;refine wpList_app E_u8 rfl (.tmp 104) (.tmp 114) rfl rfl (Ow.empty w7 5 1) rfl (HR1.out _ HK8.out) (by rw [List.length_map,HL.out,Nat.mul_one]) (by intro h;cases h) (by intro z hz;obtain ⟨y,_,rfl⟩:=List.mem_map.1 hz;rfl) (by simp only [maxLen];omega) (by omega) ?_;intro g9 A9 c9 w9 q1 q2 q3 q4;rw [Nat.zero_add,List.nil_append] at q1;have Q1:=hid q1;have Q2:=hid q2;have Q3:=hid q3;clear q1 q2 q3 q4)
 go_ret;have k2:=Q2.out;have k3:=Q3.out;refine ⟨⟨g9,A9,c9,rfl,Q1.out,?_⟩,?_,HK8.out.trans k3 (.inr (.inr hw7)) (.inr (.inr hw7))⟩
 ·rcases k2 with h | h
  ·omega
  ·have:=HN8.out.size;omega
 ·exact (k3.block g (lt_of_block HS8.out) hgne hgne).trans HS8.out
end
end
section
open Go Go.RowKit Go.Lib Go.Sort Go.Shelf
def SecT (w w':World) (X:Except Nat (List Nat × List Nat)) (e:Ending):Prop :=
 match X with
 | .ok (l,_)=>∃ b' A' c',e=.returned (.slice A' l.length c')∧Ow w' b' 5 1 A' l.length c' (cN .u8 l)∧w.heap.size≤b'
 | .error _=>e=.returned (.slice none 0 0)
theorem sectP_sfx {id:Nat} {bs l r:List Nat} (h:sectP id bs=.ok (l,r)):∃ u,bs=u++r:=(sect_ext id).sfx h
section
variable {w:World} {g b n c:Nat} {A:Option Addr} {xs:List Nat} {x:Rest}
set_option maxRecDepth 100000 in
set_option maxHeartbeats 600000 in
theorem RSection_u (id:Nat) (h:RX w g A n c xs x) (hI:RIn w g b A n c xs) (hA:A=none→c=0) :
  Calls Tryz.prog 45 #[.pointer (some ⟨g,0,none⟩),.int .u8 (id:Int)] w fun e w'=>SecT w w' (xb x (sectP id)) e∧RX w' g A n c xs (sOf (xb x (sectP id)))∧Kp g g w w':=by
 cases x with
 | error k =>
  obtain ⟨h0,q,h2,h3⟩:=h;have c2:=h3.c2;have hk:((k:Int) != 0)=true:=by rw [bne_iff_ne];omega
  have HR:=hid h3;have H0:=hid (And.intro h0 h2);clear h3 hI h0 h2;go_enter Tryz.func45,Tryz.ntmps45
  go_wp2_with fail;go_ret;exact ⟨rfl,⟨H0.out.1,q,H0.out.2,HR.out⟩,Kp.refl g g w⟩
 | ok r =>
  obtain ⟨hd,hrl,hat⟩:=h.sfx hI.len;have HR:Hid (RSt w g A n c (n - r.length) 0):=hid h.1;have hsf:=h.2;have hn:=hI.len;have hm:=hI.max;have hnc:=hI.cap;have hx:=hI.byt;rw [xb_ok];cases r with
  | nil =>
   have hX:sectP id []=.error 3:=rfl;rw [hX];rw [List.length_nil,Nat.sub_zero] at HR;have c0:=HR.out.c0;have c1:=HR.out.c1;have c2:=HR.out.c2;have HF:=hid (Fail_any w g n c n 0 3 A HR.out);clear h hI hd hrl hat hsf hn hx hX;go_enter Tryz.func45,Tryz.ntmps45
   go_wp2_with fail;refine HF.out.mono ?_;rintro e w6 ⟨rfl,hR2,hK2⟩;go_wp2_with fail;go_ret;exact ⟨rfl,RX.er (by omega) (Nat.le_refl _) hR2,hK2⟩
  | cons y r0 =>
   obtain ⟨at_,hae⟩:∃ a,n - (y::r0).length=a:=⟨_,rfl⟩;rw [hae] at HR hd hat;have hlt:at_ < n:=by rw [List.length_cons] at hae hrl;omega
   have hd1:xs.drop (at_+1)=r0:=by
    rw [← List.drop_drop,hd];rfl
   have hyx:xs[at_]'(by omega)=y:=by
    have:=List.getElem?_drop (xs:=xs) (i:=at_) (j:=0);rw [hd] at this;have h2:xs[at_]? = some y:=by simpa using this.symm
    exact (List.getElem?_eq_some_iff.1 h2).2
   obtain ⟨o,rfl,_,hc⟩:=hI.rd.get (k:=at_) (by simpa using (by omega:at_ < xs.length));unfold cN at hc;rw [List.getElem_map,hyx] at hc;have c0:=HR.out.c0;have c1:=HR.out.c1;have c2:=HR.out.c2;have hge:¬ (n:Int)≤(at_:Int):=by omega
   have hltI:(at_:Int) < (n:Int):=by omega
   have hgD:decide ((n:Int)≤(at_:Int))=false:=decide_eq_false hge;by_cases hyi:y=id
   ·subst hyi;obtain ⟨Z,hZ⟩:∃ Z,sectP y (y::r0)=Z:=⟨_,rfl⟩;rw [hZ];have hyb:((y:Int) != (y:Int))=false:=by rw [bne_eq_false_iff_eq]
    obtain ⟨P1,hP1⟩:∃ P,at_+1=P:=⟨_,rfl⟩;have hat1:(at_:Int)+1=(P1:Int):=by omega
    have hatb:(P1:Int)≤1000000000:=by omega
    have HG:Hid (∀ W,Nw w W→Calls Tryz.prog 85 #[.slice (some ⟨b,o,none⟩) n c,.int .i64 (P1:Int)] W fun e w'=>e=.returned (getV n (vget0 r0))∧w'=W):=hid fun W hN=>by
     have:=RGet2_any W b (some ⟨b,o,none⟩) n c xs hn (by omega) (hI.rd.nw hN) hx (at_+1) (by omega);rw [hd1,hP1] at this;exact this
    cases hR:vget0 r0 with
    | error k =>
     rw [hR] at HG;have hXk:Z=.error k:=by
      rw [← hZ];unfold sectP;dsimp only;rw [if_neg (by simp),hR];rfl
     subst hXk;have hk:k≠0:=vget_ext.nz hR;have hk1:((k:Int) == 0)=false:=by rw [beq_eq_false_iff_ne];omega
     have hk2:((k:Int) != 0)=true:=by rw [bne_iff_ne];omega
     have HK:=hid hk;have HAt:=hid hat;have HF:=hid (Fail_any w g n c at_ 0 k (some ⟨b,o,none⟩) HR.out);have HG1:Hid (Calls Tryz.prog 85 #[.slice (some ⟨b,o,none⟩) n c,.int .i64 (P1:Int)] w fun e w'=>e=.returned (.tuple #[.int .u64 0,.int .i64 0,.int .i64 (k:Int)])∧w'=w):=hid (HG.out w (Nw.refl w));clear h hI hd hrl hat hsf hn hx hZ hd1 hP1 hyx hae HG hk hR;go_enter Tryz.func45,Tryz.ntmps45
     go_wp2_with fail;refine HG1.out.mono ?_;rintro e w5 ⟨rfl,rfl⟩;clear HG1;go_wp2_with fail;refine HF.out.mono ?_;rintro e w6 ⟨rfl,hR2,hK2⟩;go_wp2_with fail;go_ret;exact ⟨rfl,RX.er HK.out HAt.out hR2,hK2⟩
    | ok p =>
     obtain ⟨v,q⟩:=p;rw [hR] at HG;obtain ⟨hr1,hr2,hr3⟩:=drop_sfx (xs:=xs) (k:=at_+1) (by rw [hd1];exact hR);obtain ⟨F,hF⟩:∃ F,n - q.length=F:=⟨_,rfl⟩;have hvl:v < 18446744073709551616:=(varget_inv (fun z hz=>hx z (by rw [← hd1] at hz;exact List.mem_of_mem_drop hz)) hR).2;obtain ⟨L,hL⟩:∃ L,q.length=L:=⟨_,rfl⟩;have hLI:(n:Int) - (F:Int)=(L:Int):=by omega
     have HG1:Hid (Calls Tryz.prog 85 #[.slice (some ⟨b,o,none⟩) n c,.int .i64 (P1:Int)] w fun e w'=>e=.returned (.tuple #[.int .u64 (v:Int),.int .i64 (F:Int),.int .i64 0])∧w'=w):=hid (by
      have:=HG.out w (Nw.refl w);rw [show getV n (.ok (v,q))=.tuple #[.int .u64 (v:Int),.int .i64 (F:Int),.int .i64 0] from by rw [← hF];rfl] at this;exact this)
     by_cases h4:L < 4∨L - 4 < v
     ·have hXk:Z=.error 3:=by
       rw [← hZ];unfold sectP;dsimp only;rw [if_neg (by simp),hR,xb_ok];dsimp only;rw [if_pos (by omega)]
      subst hXk;have HAt:=hid hat;have HF:=hid (Fail_any w g n c at_ 0 3 (some ⟨b,o,none⟩) HR.out);have hm4:(L:Int)≤1000000000:=by omega
      by_cases h5:L < 4
      ·have h5I:(L:Int) < 4:=by omega
       have h5D:decide ((L:Int) < 4)=true:=decide_eq_true h5I;clear h hI hd hrl hat hsf hn hx hZ hd1 hP1 hyx hae HG hR hr1 hr2 hr3 hF hvl hL h4 h5;go_enter Tryz.func45,Tryz.ntmps45
       go_wp2_with fail;refine HG1.out.mono ?_;rintro e w5 ⟨rfl,rfl⟩;clear HG1;go_wp2_with fail;refine HF.out.mono ?_;rintro e w6 ⟨rfl,hR2,hK2⟩;go_wp2_with fail;go_ret;exact ⟨rfl,RX.er (by omega) HAt.out hR2,hK2⟩
      ·have h5I:¬ (L:Int) < 4:=by omega
       have h5D:decide ((L:Int) < 4)=false:=decide_eq_false h5I;obtain ⟨M,hM⟩:∃ M,L - 4=M:=⟨_,rfl⟩;have hMI:(L:Int) - 4=(M:Int):=by omega
       have h6I:(M:Int) < (v:Int):=by omega
       have h6D:decide (M < v)=true:=decide_eq_true (by omega);have hMb:(M:Int)≤1000000000:=by omega
       have hMw:IntKind.u64.wrap (M:Int)=(M:Int):=IntWalk.u64_in _ (by omega);clear h hI hd hrl hat hsf hn hx hZ hd1 hP1 hyx hae HG hR hr1 hr2 hr3 hF hvl hL h4 h5;go_enter Tryz.func45,Tryz.ntmps45
       go_wp2_with fail;refine HG1.out.mono ?_;rintro e w5 ⟨rfl,rfl⟩;clear HG1;go_wp2_with fail;refine HF.out.mono ?_;rintro e w6 ⟨rfl,hR2,hK2⟩;go_wp2_with fail;go_ret;exact ⟨rfl,RX.er (by omega) HAt.out hR2,hK2⟩
     ·obtain ⟨M,hM⟩:∃ M,L - 4=M:=⟨_,rfl⟩;obtain ⟨T,hT⟩:∃ T,F+v=T:=⟨_,rfl⟩;obtain ⟨E,hE⟩:∃ E,T+4=E:=⟨_,rfl⟩;have hca:¬ c=at_:=by omega
      obtain ⟨D,hD⟩:∃ D,E - at_=D:=⟨_,rfl⟩;obtain ⟨l2,hl2⟩:∃ l,(y::r0).take ((y::r0).length - q.length+v+4)=l:=⟨_,rfl⟩;have hl2n:D=l2.length:=by rw [← hl2,List.length_take];omega
      have HCk:Hid (∀ W,Nw w W→Calls Tryz.prog 82 #[.slice (some ⟨b,o+at_,none⟩) D (c - at_)] W fun e w'=>e=.returned (.bool (crcOk l2))∧Nw W w'):=hid fun W hN=>by
       have hcut:=((hI.rd.nw hN).cut (k:=at_) (cap:=c) (size:=1) (by simp;omega)).take D;simp only [Option.map_some,add_lit',Nat.mul_one,if_neg hca] at hcut;refine CrcChk_any W b _ D (c - at_) l2 hl2n (by omega) (by omega) ?_ (by intro h;cases h) ?_
       ·unfold cN at hcut ⊢;rw [← List.map_drop,hd,← List.map_take,show (y::r0).take D=l2 by rw [← hl2];congr 1;omega] at hcut;exact hcut
       ·intro z hz;rw [← hl2] at hz;have:=List.mem_of_mem_take hz;rw [← hd] at this;exact hx z (List.mem_of_mem_drop this)
      have HCk1:=hid (HCk.out w (Nw.refl w));by_cases hck:crcOk l2=true
      ·have hXk:Z=.ok (q.take v,q.drop (v+4)):=by
        rw [← hZ];unfold sectP;dsimp only;rw [if_neg (by simp),hR,xb_ok];dsimp only;rw [if_neg (by omega),hl2,if_pos hck]
       subst hXk;rw [hck] at HCk1;have hcF:¬ c=F:=by omega
       have hlv:(q.take v).length=v:=by rw [List.length_take];omega
       have HRd:∀ W,Kp g g w W→Rd W b (some ⟨b,o+F,none⟩) (cN .u8 (q.take v)):=fun W hK=>by
        have hcut:=(((hI.kp hK).rd).cut (k:=F) (cap:=c) (size:=1) (by simp;omega)).take v;simp only [Option.map_some,add_lit',Nat.mul_one,if_neg hcF] at hcut;unfold cN at hcut ⊢;rw [hr1,List.map_take,List.map_drop,show xs.length - q.length=F by omega];exact hcut
       have HO:∃ u,xs=u++q.drop (v+4):=by
        obtain ⟨u,hu⟩:=hsf;obtain ⟨u2,hu2⟩:=sectP_sfx hZ;exact ⟨u++u2,by rw [hu,hu2,List.append_assoc]⟩
       have HTo:n - (q.drop (v+4)).length=E:=by rw [List.length_drop];omega
       refine (RSec_ok (L:=L) (M:=M) (T:=T) HR.out hc hlt hm hnc hP1 (by omega) (by omega) (by omega) hT hE (by omega) HG1.out (q.take v) hlv HRd HCk1.out).mono ?_;rintro e w' ⟨⟨b',A',c',h1,h2,h3⟩,h4,h5⟩;refine ⟨⟨b',A',c',by rw [hlv];exact h1,by rw [hlv];exact h2,h3⟩,⟨?_,HO⟩,h5⟩;rw [HTo];exact h4
      ·have hck0:crcOk l2=false:=by simpa using hck
       have hXk:Z=.error 12:=by
        rw [← hZ];unfold sectP;dsimp only;rw [if_neg (by simp),hR,xb_ok];dsimp only;rw [if_neg (by omega),hl2,hck0];rfl
       subst hXk;rw [hck0] at HCk1;exact (RSec_12 (L:=L) (M:=M) (T:=T) HR.out hc hlt hm hnc hP1 (by omega) (by omega) (by omega) hT hE (by omega) HG1.out HCk1.out).mono fun e w' ⟨h1,h2,h3⟩=>⟨h1,RX.er (by omega) hat h2,h3⟩
   ·have hb:((y:Int) != (id:Int))=true:=by rw [bne_iff_ne];omega
    have hX:sectP id (y::r0)=.error 11:=by
     unfold sectP;dsimp only;rw [if_pos hyi]
    rw [hX];have HF:=hid (Fail_any w g n c at_ 0 11 (some ⟨b,o,none⟩) HR.out);have HAt:=hid hat;clear h hI hd hrl hat hsf hn hx hX hd1 hyx hae hyi;go_enter Tryz.func45,Tryz.ntmps45
    go_wp2_with fail;refine HF.out.mono ?_;rintro e w6 ⟨rfl,hR2,hK2⟩;go_wp2_with fail;go_ret;exact ⟨rfl,RX.er (by omega) HAt.out hR2,hK2⟩
end
end
section
open Go Go.RowKit Go.Lib Go.Sort Go.Shelf
def RParO (X:Except Nat Secs) (e:Ending):Prop :=
 ∃ (B0 B1 B2 B3:Option Addr) (m0 m1 m2 m3 d0 d1 d2 d3:Nat) (q0 q1 q2 q3 q4:Int),
  e=.returned (.tuple #[.agg #[.slice B0 m0 d0,.slice B1 m1 d1,.slice B2 m2 d2,.slice B3 m3 d3],.agg #[.int .i64 q0,.int .i64 q1,.int .i64 q2,.int .i64 q3,.int .i64 q4],.int .i64 ((eOf X:Nat):Int)])
theorem certP_e (xs:List Nat):certP xs=if eOf (parseP xs)=3 then 0 else eOf (parseP xs):=by
 unfold certP eOf;cases parseP xs with
 | ok s=>rfl
 | error k=>first | rfl | (dsimp only;split<;>simp_all)
set_option maxRecDepth 100000 in
set_option maxHeartbeats 600000 in
theorem RCertain_of (w:World) (A:Option Addr) (n c:Nat) (xs:List Nat) (HP:Calls Tryz.prog 43 #[.slice A n c] w fun e w'=>RParO (parseP xs) e∧Nw w w') :
  Calls Tryz.prog 26 #[.slice A n c] w fun e w'=>e=.returned (.int .i64 (certP xs:Nat))∧Nw w w':=by
 have HP1:=hid HP;rw [certP_e];obtain ⟨E,hE⟩:∃ E,eOf (parseP xs)=E:=⟨_,rfl⟩;have HE:=hid hE;rw [hE];clear HP hE;by_cases h3:E=3
 ·have hb:((E:Int) == 3)=true:=by rw [beq_iff_eq];omega
  rw [if_pos h3];clear h3;go_enter Tryz.func26,Tryz.ntmps26
  go_wp2_with fail;refine HP1.out.mono ?_;rintro e w1 ⟨⟨B0,B1,B2,B3,m0,m1,m2,m3,d0,d1,d2,d3,q0,q1,q2,q3,q4,rfl⟩,hN⟩;rw [HE.out];have HN:=hid hN;clear hN;go_wp2_with fail;go_ret;refine ⟨rfl,?_⟩
  first | exact (HN.out.alloc' _).alloc' _
 ·have hb:((E:Int) == 3)=false:=by rw [beq_eq_false_iff_ne];omega
  rw [if_neg h3];clear h3;go_enter Tryz.func26,Tryz.ntmps26
  go_wp2_with fail;refine HP1.out.mono ?_;rintro e w1 ⟨⟨B0,B1,B2,B3,m0,m1,m2,m3,d0,d1,d2,d3,q0,q1,q2,q3,q4,rfl⟩,hN⟩;rw [HE.out];have HN:=hid hN;clear hN;go_wp2_with fail;go_ret;refine ⟨rfl,?_⟩
  first | exact (HN.out.alloc' _).alloc' _
end
section
open Go Go.RowKit Go.Lib Go.Sort Go.Shelf
structure PIq (w W:World) (p g b:Nat) (A:Option Addr) (n c:Nat) (xs:List Nat) (s0 s1 s2 s3:Value) (q0 q1 q2 q3 q4 at_ err:Nat):Prop where
 nw:Nw w W
 lo:w.heap.size=p
 gp:p+6≤g
 bp:b < p
 z2:W.heap[p]? = some (.cells #[nilS,nilS,nilS,nilS] 49 (0,0))
 z3:W.heap[p+1]? = some (.cells #[.int .i64 0,.int .i64 0,.int .i64 0,.int .i64 0,.int .i64 0] 80 (0,0))
 s:W.heap[p+2]? = some (.cells #[s0,s1,s2,s3] 49 (0,0))
 a:W.heap[p+3]? = some (.cells #[.int .i64 (q0:Int),.int .i64 (q1:Int),.int .i64 (q2:Int),.int .i64 (q3:Int),.int .i64 (q4:Int)] 80 (0,0))
 n4:W.heap[p+4]? = some (.cells #[nilS,nilS,nilS,nilS] 49 (0,0))
 n5:W.heap[p+5]? = some (.cells #[.int .i64 0,.int .i64 0,.int .i64 0,.int .i64 0,.int .i64 0] 80 (0,0))
 st:RSt W g A n c at_ err
 wi:RIn W g b A n c xs
section
variable {w W W':World} {p g b:Nat} {A:Option Addr} {n c:Nat} {xs:List Nat} {s0 s1 s2 s3:Value} {q0 q1 q2 q3 q4 at_ err at' err':Nat}
theorem PIq.rd (h:PIq w W p g b A n c xs s0 s1 s2 s3 q0 q1 q2 q3 q4 at_ err) (hk:Kp g g W W') (hs:RSt W' g A n c at' err'):PIq w W' p g b A n c xs s0 s1 s2 s3 q0 q1 q2 q3 q4 at' err':=by
 obtain ⟨h1,h2,h3,h4,h5,h6,h7,h8,h9,h10,h11,h12⟩:=h;have o:=fun (k:Nat) (hk2:k≤p+5) (o:Obj) (hb:W.heap[k]? = some o)=>(hk.block k (lt_of_block hb) (by omega) (by omega)).trans hb
 exact ⟨Kp.nw h1 hk (by omega) (by omega),h2,h3,h4,o _ (by omega) _ h5,o _ (by omega) _ h6,o _ (by omega) _ h7,o _ (by omega) _ h8,o _ (by omega) _ h9,o _ (by omega) _ h10,hs,h12.kp hk⟩
theorem PIq.new (h:PIq w W p g b A n c xs s0 s1 s2 s3 q0 q1 q2 q3 q4 at_ err) (hN:Nw W W'):PIq w W' p g b A n c xs s0 s1 s2 s3 q0 q1 q2 q3 q4 at_ err:=h.rd (hN.kp g g) (h.st.nw hN)
theorem PIq.blk (h:PIq w W p g b A n c xs s0 s1 s2 s3 q0 q1 q2 q3 q4 at_ err) (k i:Nat) (v:Value) (hk:k=p+2∨k=p+3) :
  Kp k k W (W.setCell ⟨k,i,none⟩ v)∧Nw w (W.setCell ⟨k,i,none⟩ v)∧RSt (W.setCell ⟨k,i,none⟩ v) g A n c at_ err∧RIn (W.setCell ⟨k,i,none⟩ v) g b A n c xs∧(∀ j o,j≠k→W.heap[j]? = some o→(W.setCell ⟨k,i,none⟩ v).heap[j]? = some o):=by
 have hK:Kp k k W (W.setCell ⟨k,i,none⟩ v):=(Kp.refl k k W).setCell' (.inl rfl) _;have hlo:=h.lo;have hgp:=h.gp;have hbp:=h.bp;refine ⟨hK,Kp.nw h.nw hK (by omega) (by omega),?_,⟨h.wi.rd.kp hK (by omega) (by omega),h.wi.len,h.wi.max,h.wi.byt,h.wi.ne,h.wi.cap⟩,fun j o hj hb=>(hK.block j (lt_of_block hb) hj hj).trans hb⟩;exact (hK.block g (lt_of_block h.st) (by omega) (by omega)).trans h.st
theorem PIq.a0 (h:PIq w W p g b A n c xs s0 s1 s2 s3 q0 q1 q2 q3 q4 at_ err) (x:Nat):PIq w (W.setCell ⟨p+3,0,none⟩ (.int .i64 (x:Int))) p g b A n c xs s0 s1 s2 s3 x q1 q2 q3 q4 at_ err:=by
 obtain ⟨hK,hN,hst,hwi,ho⟩:=h.blk (p+3) 0 (.int .i64 (x:Int)) (.inr rfl);have:=set_at (k:=0) (.int .i64 (x:Int)) h.a;exact ⟨hN,h.lo,h.gp,h.bp,ho _ _ (by omega) h.z2,ho _ _ (by omega) h.z3,ho _ _ (by omega) h.s,by simpa using this,ho _ _ (by omega) h.n4,ho _ _ (by omega) h.n5,hst,hwi⟩
theorem PIq.a1 (h:PIq w W p g b A n c xs s0 s1 s2 s3 q0 q1 q2 q3 q4 at_ err) (x:Nat):PIq w (W.setCell ⟨p+3,1,none⟩ (.int .i64 (x:Int))) p g b A n c xs s0 s1 s2 s3 q0 x q2 q3 q4 at_ err:=by
 obtain ⟨hK,hN,hst,hwi,ho⟩:=h.blk (p+3) 1 (.int .i64 (x:Int)) (.inr rfl);have:=set_at (k:=1) (.int .i64 (x:Int)) h.a;exact ⟨hN,h.lo,h.gp,h.bp,ho _ _ (by omega) h.z2,ho _ _ (by omega) h.z3,ho _ _ (by omega) h.s,by simpa using this,ho _ _ (by omega) h.n4,ho _ _ (by omega) h.n5,hst,hwi⟩
theorem PIq.a2 (h:PIq w W p g b A n c xs s0 s1 s2 s3 q0 q1 q2 q3 q4 at_ err) (x:Nat):PIq w (W.setCell ⟨p+3,2,none⟩ (.int .i64 (x:Int))) p g b A n c xs s0 s1 s2 s3 q0 q1 x q3 q4 at_ err:=by
 obtain ⟨hK,hN,hst,hwi,ho⟩:=h.blk (p+3) 2 (.int .i64 (x:Int)) (.inr rfl);have:=set_at (k:=2) (.int .i64 (x:Int)) h.a;exact ⟨hN,h.lo,h.gp,h.bp,ho _ _ (by omega) h.z2,ho _ _ (by omega) h.z3,ho _ _ (by omega) h.s,by simpa using this,ho _ _ (by omega) h.n4,ho _ _ (by omega) h.n5,hst,hwi⟩
theorem PIq.a3 (h:PIq w W p g b A n c xs s0 s1 s2 s3 q0 q1 q2 q3 q4 at_ err) (x:Nat):PIq w (W.setCell ⟨p+3,3,none⟩ (.int .i64 (x:Int))) p g b A n c xs s0 s1 s2 s3 q0 q1 q2 x q4 at_ err:=by
 obtain ⟨hK,hN,hst,hwi,ho⟩:=h.blk (p+3) 3 (.int .i64 (x:Int)) (.inr rfl);have:=set_at (k:=3) (.int .i64 (x:Int)) h.a;exact ⟨hN,h.lo,h.gp,h.bp,ho _ _ (by omega) h.z2,ho _ _ (by omega) h.z3,ho _ _ (by omega) h.s,by simpa using this,ho _ _ (by omega) h.n4,ho _ _ (by omega) h.n5,hst,hwi⟩
theorem PIq.a4 (h:PIq w W p g b A n c xs s0 s1 s2 s3 q0 q1 q2 q3 q4 at_ err) (x:Nat):PIq w (W.setCell ⟨p+3,4,none⟩ (.int .i64 (x:Int))) p g b A n c xs s0 s1 s2 s3 q0 q1 q2 q3 x at_ err:=by
 obtain ⟨hK,hN,hst,hwi,ho⟩:=h.blk (p+3) 4 (.int .i64 (x:Int)) (.inr rfl);have:=set_at (k:=4) (.int .i64 (x:Int)) h.a;exact ⟨hN,h.lo,h.gp,h.bp,ho _ _ (by omega) h.z2,ho _ _ (by omega) h.z3,ho _ _ (by omega) h.s,by simpa using this,ho _ _ (by omega) h.n4,ho _ _ (by omega) h.n5,hst,hwi⟩
theorem PIq.t0 (h:PIq w W p g b A n c xs s0 s1 s2 s3 q0 q1 q2 q3 q4 at_ err) (v:Value):PIq w (W.setCell ⟨p+2,0,none⟩ v) p g b A n c xs v s1 s2 s3 q0 q1 q2 q3 q4 at_ err:=by
 obtain ⟨hK,hN,hst,hwi,ho⟩:=h.blk (p+2) 0 v (.inl rfl);have:=set_at (k:=0) v h.s;exact ⟨hN,h.lo,h.gp,h.bp,ho _ _ (by omega) h.z2,ho _ _ (by omega) h.z3,by simpa using this,ho _ _ (by omega) h.a,ho _ _ (by omega) h.n4,ho _ _ (by omega) h.n5,hst,hwi⟩
theorem PIq.t1 (h:PIq w W p g b A n c xs s0 s1 s2 s3 q0 q1 q2 q3 q4 at_ err) (v:Value):PIq w (W.setCell ⟨p+2,1,none⟩ v) p g b A n c xs s0 v s2 s3 q0 q1 q2 q3 q4 at_ err:=by
 obtain ⟨hK,hN,hst,hwi,ho⟩:=h.blk (p+2) 1 v (.inl rfl);have:=set_at (k:=1) v h.s;exact ⟨hN,h.lo,h.gp,h.bp,ho _ _ (by omega) h.z2,ho _ _ (by omega) h.z3,by simpa using this,ho _ _ (by omega) h.a,ho _ _ (by omega) h.n4,ho _ _ (by omega) h.n5,hst,hwi⟩
theorem PIq.t2 (h:PIq w W p g b A n c xs s0 s1 s2 s3 q0 q1 q2 q3 q4 at_ err) (v:Value):PIq w (W.setCell ⟨p+2,2,none⟩ v) p g b A n c xs s0 s1 v s3 q0 q1 q2 q3 q4 at_ err:=by
 obtain ⟨hK,hN,hst,hwi,ho⟩:=h.blk (p+2) 2 v (.inl rfl);have:=set_at (k:=2) v h.s;exact ⟨hN,h.lo,h.gp,h.bp,ho _ _ (by omega) h.z2,ho _ _ (by omega) h.z3,by simpa using this,ho _ _ (by omega) h.a,ho _ _ (by omega) h.n4,ho _ _ (by omega) h.n5,hst,hwi⟩
theorem PIq.t3 (h:PIq w W p g b A n c xs s0 s1 s2 s3 q0 q1 q2 q3 q4 at_ err) (v:Value):PIq w (W.setCell ⟨p+2,3,none⟩ v) p g b A n c xs s0 s1 s2 v q0 q1 q2 q3 q4 at_ err:=by
 obtain ⟨hK,hN,hst,hwi,ho⟩:=h.blk (p+2) 3 v (.inl rfl);have:=set_at (k:=3) v h.s;exact ⟨hN,h.lo,h.gp,h.bp,ho _ _ (by omega) h.z2,ho _ _ (by omega) h.z3,by simpa using this,ho _ _ (by omega) h.a,ho _ _ (by omega) h.n4,ho _ _ (by omega) h.n5,hst,hwi⟩
theorem RX.of_st (h:RSt W g A n c at_ err) (hn:n=xs.length) (hat:at_≤n):RX W g A n c xs (if err=0 then .ok (xs.drop at_) else .error err):=by
 by_cases h0:err=0
 ·subst h0;rw [if_pos rfl];refine ⟨?_,xs.take at_,(List.take_append_drop _ _).symm⟩;rw [List.length_drop,show n - (xs.length - at_)=at_ by omega];exact h
 ·rw [if_neg h0];exact ⟨h0,at_,hat,h⟩
end
theorem PH.stepR {xs:List Nat} {m at_ err:Nat} {acc:List (List Nat × Nat)} (h:PH xs (m+1) acc at_ err) (hat:at_≤xs.length) (hx:∀ x∈xs,x < 256) {w W':World} {g:Nat} {A:Option Addr} {c:Nat} {e:Ending} {p:Nat}
  (hT:SecT w W' (xb (if err=0 then .ok (xs.drop at_) else .error err) (sectP (5 - m))) e) (hR:RX W' g A xs.length c xs (sOf (xb (if err=0 then .ok (xs.drop at_) else .error err) (sectP (5 - m))))) (hg:g < w.heap.size) (hp:p+3 < w.heap.size) :
  ∃ Av cv l at' err',e=.returned (.slice Av l.length cv)∧SecD W' g p (.slice Av l.length cv) l∧RSt W' g A xs.length c at' err'∧at'≤xs.length∧PH xs m (acc++[(l,at_)]) at' err':=by
 by_cases h0:err=0
 ·rw [if_pos h0,xb_ok] at hT hR;have h1:=h.1 h0;rw [restP] at h1;cases hs:sectP (5 - m) (xs.drop at_) with
  | error k =>
   rw [hs] at hT hR h1;have hT':e=.returned (.slice none 0 0):=hT;obtain ⟨hk,q,hq,hst⟩:=hR;exact ⟨none,0,[],q,k,hT',⟨w.heap.size+g+p,none,0,rfl,Rd.nil _ _ _,fun _=>rfl,Nat.le_refl _,by omega,by omega,by simp⟩,hst,hq,fun e=>(hk e).elim,fun _=>h1⟩
  | ok x =>
   obtain ⟨l,r⟩:=x;rw [hs] at hT hR h1;obtain ⟨b',A',c',hT',hO,hb⟩:=hT;obtain ⟨hst,_⟩:=hR;obtain ⟨u,hu⟩:=(sect_ext (5 - m)).sfx hs;have hi:=sectP_inv (fun x hx'=>hx x (List.mem_of_mem_drop hx')) hs;have hl:=congrArg List.length hu;rw [List.length_drop,List.length_append] at hl;have hr:r=xs.drop (xs.length - r.length):=by
    have:=congrArg (List.drop u.length) hu;rw [List.drop_left,List.drop_drop,show at_+u.length=xs.length - r.length by omega] at this;exact this.symm
   rw [xb_ok,List.length_drop,show xs.length - (xs.length - at_)=at_ by omega] at h1;dsimp only at h1;refine ⟨A',c',l,xs.length - r.length,0,hT',?_,hst,by omega,fun _=>by rw [← hr];exact h1,fun e=>(e rfl).elim⟩;exact ⟨b',A',c',rfl,hO.rd,hO.nilc,hO.cap.1,by omega,by omega,hi.2.1⟩
 ·rw [if_neg h0,xb_er] at hT hR;have hT':e=.returned (.slice none 0 0):=hT;obtain ⟨hk,q,hq,hst⟩:=hR;exact ⟨none,0,[],q,err,hT',⟨w.heap.size+g+p,none,0,rfl,Rd.nil _ _ _,fun _=>rfl,Nat.le_refl _,by omega,by omega,by simp⟩,hst,hq,fun e=>(h0 e).elim,fun _=>h.2 h0⟩
theorem ParW.o {w w':World} {X:Except Nat Secs} {e:Ending} (h:ParW w X e w'):RParO X e∧Nw w w':=by
 cases X with
 | ok s =>
  obtain ⟨g,p,v0,v1,v2,v3,q0,q1,q2,q3,q4,rfl,h0,h1,h2,h3,_,hN⟩:=h;obtain ⟨_,A0,c0,rfl,-⟩:=h0;obtain ⟨_,A1,c1,rfl,-⟩:=h1;obtain ⟨_,A2,c2,rfl,-⟩:=h2;obtain ⟨_,A3,c3,rfl,-⟩:=h3;exact ⟨⟨A0,A1,A2,A3,_,_,_,_,c0,c1,c2,c3,_,_,_,_,_,rfl⟩,hN⟩
 | error k =>
  obtain ⟨rfl,_,hN⟩:=h;exact ⟨⟨none,none,none,none,0,0,0,0,0,0,0,0,0,0,0,0,0,rfl⟩,hN⟩
end
end Go.Proofs.YtmmonehfnfbpbaaGreatDoor
