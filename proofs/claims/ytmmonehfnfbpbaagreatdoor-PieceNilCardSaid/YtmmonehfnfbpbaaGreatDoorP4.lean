/- Laws that the last text builds on. -/
import Derived.Test.YtmmonehfnfbpbaaGreatDoorP3
namespace Go.Proofs.YtmmonehfnfbpbaaGreatDoor
open Go.Lib(hid)
section
open Go Go.RowKit Go.Lib
theorem parse_any (w:World) (b:Nat) (A:Option Addr) (n c:Nat) (xs:List Nat) (hn:n=xs.length) (hnc:n≤c) (hm:n≤1000000000) (hr:Rd w b A (cN .u8 xs)) (hA:A=none→c=0) (hx:∀ x∈xs,x < 256) (hG:Gl w) :
  Calls Tryz.prog 103 #[.slice A n c] w (ParW w (parseP xs)):=by
 by_cases h:xs=[]
 ·exact parse_nil w A n c xs hn h hA hG
 ·rcases hr with h2 | h2
  ·exact (h (List.map_eq_nil_iff.1 h2)).elim
  ·obtain ⟨o,rfl,h3,h4⟩:=h2;exact parse_some w b o n c xs hn hnc hm (.inr ⟨o,rfl,h3,h4⟩) hx hG
theorem SecD.kp3 {W W':World} {g p k:Nat} {v:Value} {l:List Nat} (h:SecD W g p v l) (hk:Kp k k W W') (e:k≤g):SecD W' g p v l:=by
 obtain ⟨b',A',c',h1,h2,h3,h4,h5,h6,h7⟩:=h;exact ⟨b',A',c',h1,h2.kp hk (by omega) (by omega),h3,h4,h5,h6,h7⟩
def PrsW (w:World) (X:Except Nat Secs) (e:Ending) (w':World):Prop :=
 match X with
 | .ok s=>∃ (g p:Nat) (v0 v1 v2 v3:Value),e=.returned (.tuple #[.agg #[v0,v1,v2,v3],.int .i64 0])∧SecD w' g p v0 s.1∧SecD w' g p v1 s.2.1∧SecD w' g p v2 s.2.2.1∧SecD w' g p v3 s.2.2.2∧Nw w w'
 | .error k=>e=.returned (.tuple #[.agg #[nilS,nilS,nilS,nilS],.int .i64 (k:Int)])∧k≠0∧Nw w w'
set_option maxRecDepth 100000 in
theorem Certain_any (w:World) (b:Nat) (A:Option Addr) (n c:Nat) (xs:List Nat) (hn:n=xs.length) (hnc:n≤c) (hm:n≤1000000000) (hr:Rd w b A (cN .u8 xs)) (hA:A=none→c=0) (hx:∀ x∈xs,x < 256) (hG:Gl w) :
  Calls Tryz.prog 79 #[.slice A n c] w fun e w'=>e=.returned (.int .i64 (certP xs:Nat))∧Nw w w':=by
 have HP:=hid (parse_any w b A n c xs hn hnc hm hr hA hx hG);unfold certP;clear hn hr hA hx hG;cases hp:parseP xs with
 | ok s =>
  rw [hp] at HP;dsimp only;clear hp;go_enter Tryz.func79,Tryz.ntmps79
  go_wp2_with fail;refine HP.out.mono ?_;rintro e w1 ⟨g,p,v0,v1,v2,v3,q0,q1,q2,q3,q4,rfl,D0,D1,D2,D3,hg,hN⟩;obtain ⟨_,A0,c0,rfl,_⟩:=D0;obtain ⟨_,A1,c1,rfl,_⟩:=D1;obtain ⟨_,A2,c2,rfl,_⟩:=D2;obtain ⟨_,A3,c3,rfl,_⟩:=D3;have HN:=hid hN;clear hN hg;go_wp2_with fail;go_ret;exact ⟨rfl,(HN.out.alloc' _).alloc' _⟩
 | error k =>
  rw [hp] at HP;dsimp only;have hk:=parseP_nz hp;clear hp;by_cases h3:k=3
  ·have h3b:((k:Int) != 3)=false:=by rw [bne_eq_false_iff_eq];omega
   rw [if_pos h3];clear h3 hk;go_enter Tryz.func79,Tryz.ntmps79
   go_wp2_with fail;refine HP.out.mono ?_;rintro e w1 ⟨rfl,_,hN⟩;have HN:=hid hN;clear hN;go_wp2_with fail;go_ret;exact ⟨rfl,(HN.out.alloc' _).alloc' _⟩
  ·have h3b:((k:Int) != 3)=true:=by rw [bne_iff_ne];omega
   rw [if_neg h3];clear h3 hk;go_enter Tryz.func79,Tryz.ntmps79
   go_wp2_with fail;refine HP.out.mono ?_;rintro e w1 ⟨rfl,_,hN⟩;have HN:=hid hN;clear hN;go_wp2_with fail;go_ret;exact ⟨rfl,(HN.out.alloc' _).alloc' _⟩
set_option maxRecDepth 100000 in
theorem ParseL_any (w:World) (b:Nat) (A:Option Addr) (n c:Nat) (xs:List Nat) (hn:n=xs.length) (hnc:n≤c) (hm:n≤1000000000) (hr:Rd w b A (cN .u8 xs)) (hA:A=none→c=0) (hx:∀ x∈xs,x < 256) (hG:Gl w) :
  Calls Tryz.prog 53 #[.slice A n c] w (PrsW w (parseP xs)):=by
 have hN0:Nw w (w.alloc (.cells #[nilS,nilS,nilS,nilS] 52)):=(Nw.refl w).alloc' _;have HP:=hid (parse_any _ b A n c xs hn hnc hm (hr.nw hN0) hA hx (hG.nw hN0));have hb0:=heap_alloc_new w (.cells #[nilS,nilS,nilS,nilS] 52);have HB0:=hid hb0;have HN0:=hid hN0;clear hn hr hA hx hG hb0 hN0;cases hp:parseP xs with
 | ok s =>
  rw [hp] at HP;clear hp;go_enter Tryz.func53,Tryz.ntmps53
  go_wp2_with fail;refine HP.out.mono ?_;rintro e w1 ⟨g,p,v0,v1,v2,v3,q0,q1,q2,q3,q4,rfl,D0,D1,D2,D3,hg,hN⟩;have HD:=hid (And.intro D0 (And.intro D1 (And.intro D2 D3)));obtain ⟨_,A0,c0,rfl,_⟩:=D0;obtain ⟨_,A1,c1,rfl,_⟩:=D1;obtain ⟨_,A2,c2,rfl,_⟩:=D2;obtain ⟨_,A3,c3,rfl,_⟩:=D3;have hb1:=(hN.block _ (lt_of_block HB0.out)).trans HB0.out;have hb2:∀ o1 o2:Obj,((w1.alloc o1).alloc o2).heap[w.heap.size]? = some (.cells #[nilS,nilS,nilS,nilS] 52 (0,0)):=fun o1 o2=>by
   have hl:=lt_of_block hb1;rw [heap_alloc_old _ _ (by rw [World.size_alloc];omega),heap_alloc_old _ _ hl];exact hb1
  have z0:∀ o1 o2:Obj,((w1.alloc o1).alloc o2).cell? ⟨w.heap.size,0,none⟩=some nilS:=fun o1 o2=>cell_at (k:=0) (hb2 o1 o2)
  have z1:∀ o1 o2:Obj,((w1.alloc o1).alloc o2).cell? ⟨w.heap.size,1,none⟩=some nilS:=fun o1 o2=>cell_at (k:=1) (hb2 o1 o2)
  have z2:∀ o1 o2:Obj,((w1.alloc o1).alloc o2).cell? ⟨w.heap.size,2,none⟩=some nilS:=fun o1 o2=>cell_at (k:=2) (hb2 o1 o2)
  have z3:∀ o1 o2:Obj,((w1.alloc o1).alloc o2).cell? ⟨w.heap.size,3,none⟩=some nilS:=fun o1 o2=>cell_at (k:=3) (hb2 o1 o2)
  have zf0:∀ o1 o2:Obj,((w1.alloc o1).alloc o2).frozen? ⟨w.heap.size,0,none⟩=false:=fun o1 o2=>at_freeL (hb2 o1 o2)
  have zf1:∀ o1 o2:Obj,((w1.alloc o1).alloc o2).frozen? ⟨w.heap.size,1,none⟩=false:=fun o1 o2=>at_freeL (hb2 o1 o2)
  have zf2:∀ o1 o2:Obj,((w1.alloc o1).alloc o2).frozen? ⟨w.heap.size,2,none⟩=false:=fun o1 o2=>at_freeL (hb2 o1 o2)
  have zf3:∀ o1 o2:Obj,((w1.alloc o1).alloc o2).frozen? ⟨w.heap.size,3,none⟩=false:=fun o1 o2=>at_freeL (hb2 o1 o2)
  have HB2:=hid hb2;clear hb2;have HG2:=hid hg;have HN:=hid hN;have HB1:=hid hb1;clear hN hg hb1;go_wp2_with fail;refine bodyPost_ret (results_ct rfl _ _ ⟨w.heap.size,0,none⟩ rfl (run_load4 (set4_at (HB2.out _ _) _ _ _ _))) rfl ?_;have hK:=set4_kp ((w1.alloc (.cells #[.slice A0 s.1.length c0,.slice A1 s.2.1.length c1,.slice A2 s.2.2.1.length c2,.slice A3 s.2.2.2.length c3] 52)).alloc (.cells #[.int .i64 (q0:Int),.int .i64 (q1:Int),.int .i64 (q2:Int),.int .i64 (q3:Int),.int .i64 (q4:Int)] 80)) w.heap.size (.slice A0 s.1.length c0) (.slice A1 s.2.1.length c1) (.slice A2 s.2.2.1.length c2) (.slice A3 s.2.2.2.length c3);have hN2:Nw w1 ((w1.alloc (.cells #[.slice A0 s.1.length c0,.slice A1 s.2.1.length c1,.slice A2 s.2.2.1.length c2,.slice A3 s.2.2.2.length c3] 52)).alloc (.cells #[.int .i64 (q0:Int),.int .i64 (q1:Int),.int .i64 (q2:Int),.int .i64 (q3:Int),.int .i64 (q4:Int)] 80)):=((Nw.refl w1).alloc' _).alloc' _;obtain ⟨D0,D1,D2,D3⟩:=HD.out;have hg2:w.heap.size≤g:=by have:=HG2.out;simp only [World.size_alloc] at this;omega
  exact ⟨g,p,_,_,_,_,rfl,(D0.nw hN2).kp3 hK hg2,(D1.nw hN2).kp3 hK hg2,(D2.nw hN2).kp3 hK hg2,(D3.nw hN2).kp3 hK hg2,Kp.nw ((HN0.out.trans HN.out).trans hN2) hK (Nat.le_refl _) (Nat.le_refl _)⟩
 | error k =>
  rw [hp] at HP;clear hp;go_enter Tryz.func53,Tryz.ntmps53
  go_wp2_with fail;refine HP.out.mono ?_;rintro e w1 ⟨rfl,hk,hN⟩;have hb1:=(hN.block _ (lt_of_block HB0.out)).trans HB0.out;have hb2:∀ o1 o2:Obj,((w1.alloc o1).alloc o2).heap[w.heap.size]? = some (.cells #[nilS,nilS,nilS,nilS] 52 (0,0)):=fun o1 o2=>by
   have hl:=lt_of_block hb1;rw [heap_alloc_old _ _ (by rw [World.size_alloc];omega),heap_alloc_old _ _ hl];exact hb1
  have z0:∀ o1 o2:Obj,((w1.alloc o1).alloc o2).cell? ⟨w.heap.size,0,none⟩=some nilS:=fun o1 o2=>cell_at (k:=0) (hb2 o1 o2)
  have z1:∀ o1 o2:Obj,((w1.alloc o1).alloc o2).cell? ⟨w.heap.size,1,none⟩=some nilS:=fun o1 o2=>cell_at (k:=1) (hb2 o1 o2)
  have z2:∀ o1 o2:Obj,((w1.alloc o1).alloc o2).cell? ⟨w.heap.size,2,none⟩=some nilS:=fun o1 o2=>cell_at (k:=2) (hb2 o1 o2)
  have z3:∀ o1 o2:Obj,((w1.alloc o1).alloc o2).cell? ⟨w.heap.size,3,none⟩=some nilS:=fun o1 o2=>cell_at (k:=3) (hb2 o1 o2)
  have zf0:∀ o1 o2:Obj,((w1.alloc o1).alloc o2).frozen? ⟨w.heap.size,0,none⟩=false:=fun o1 o2=>at_freeL (hb2 o1 o2)
  have zf1:∀ o1 o2:Obj,((w1.alloc o1).alloc o2).frozen? ⟨w.heap.size,1,none⟩=false:=fun o1 o2=>at_freeL (hb2 o1 o2)
  have zf2:∀ o1 o2:Obj,((w1.alloc o1).alloc o2).frozen? ⟨w.heap.size,2,none⟩=false:=fun o1 o2=>at_freeL (hb2 o1 o2)
  have zf3:∀ o1 o2:Obj,((w1.alloc o1).alloc o2).frozen? ⟨w.heap.size,3,none⟩=false:=fun o1 o2=>at_freeL (hb2 o1 o2)
  have HB2:=hid hb2;clear hb2;have HN:=hid hN;have HB1:=hid hb1;have HK:=hid hk;clear hN hk hb1;go_wp2_with fail;refine bodyPost_ret (results_ct rfl _ _ ⟨w.heap.size,0,none⟩ rfl (run_load4 (set4_at (HB2.out _ _) _ _ _ _))) rfl ?_;have hK:=set4_kp ((w1.alloc (.cells #[nilS,nilS,nilS,nilS] 52)).alloc (.cells #[.int .i64 0,.int .i64 0,.int .i64 0,.int .i64 0,.int .i64 0] 80)) w.heap.size nilS nilS nilS nilS;have hN2:Nw w1 ((w1.alloc (.cells #[nilS,nilS,nilS,nilS] 52)).alloc (.cells #[.int .i64 0,.int .i64 0,.int .i64 0,.int .i64 0,.int .i64 0] 80)):=((Nw.refl w1).alloc' _).alloc' _;exact ⟨rfl,HK.out,Kp.nw ((HN0.out.trans HN.out).trans hN2) hK (Nat.le_refl _) (Nat.le_refl _)⟩
end
section
open Go Go.RowKit Go.Lib
def stV (p:Nat):Value :=
 if p=0 then .iface 77 (.agg #[.int .i64 5,.iface 73 (.agg #[.int .i64 1])])
 else if p≤5 then .iface 73 (.agg #[.int .i64 (p:Int)])
 else if p=6 then .iface 77 (.agg #[.int .i64 8,.iface 150 (.agg #[])])
 else .iface 150 (.agg #[])
def EndW (X:Option Nat) (e:Ending):Prop :=
 match X with
 | some t=>e=.returned (.tuple #[.int .i64 (t:Int),.bool true])
 | none=>∃ t:Int,e=.returned (.tuple #[.int .i64 t,.bool false])
theorem EndW.no {X:Option Nat} {t:Int} (h:X=none):EndW X (.returned (.tuple #[.int .i64 t,.bool false])):=by
 subst h;exact ⟨t,rfl⟩
set_option maxRecDepth 100000 in
theorem frameEnd_any (w:World) (p b:Nat) (A:Option Addr) (n c at_:Nat) (xs:List Nat) (hp:1≤p∧p≤5) (hn:n=xs.length) (hnc:n≤c) (hm:n≤1000000000) (hr:Rd w b A (cN .u8 xs)) (hx:∀ x∈xs,x < 256) (hat:at_≤n) :
  Calls Tryz.prog 364 #[.agg #[.int .i64 (p:Int)],.slice A n c,.int .i64 (at_:Int)] w fun e w'=>EndW (endQ p xs at_) e∧Nw w w':=by
 obtain ⟨X,hX⟩:∃ X,endQ p xs at_=X:=⟨_,rfl⟩;rw [hX];unfold endQ at hX;rw [if_neg (by omega),if_pos hp.2] at hX;by_cases h1:n≤at_
 ·have h1I:(n:Int)≤(at_:Int):=by omega
  rw [if_pos (by omega)] at hX;have HX:=hid hX.symm;clear hX hr hx hn h1 hp;go_enter Tryz.func364,Tryz.ntmps364
  go_wp2_with fail;go_ret2;exact ⟨EndW.no HX.out,(Nw.refl w).alloc' _⟩
 ·have h1I:¬ (n:Int)≤(at_:Int):=by omega
  rw [if_neg (by omega)] at hX;have hNa:Nw w (w.alloc (.cells #[.int .i64 (p:Int)] 73)):=(Nw.refl w).alloc' _;have HV:=VGet_any (w.alloc (.cells #[.int .i64 (p:Int)] 73)) b A n c xs hn hnc hm (hr.nw hNa) hx (at_+1) (by omega);obtain ⟨J,hJ⟩:∃ J,at_+1=J:=⟨_,rfl⟩;have hJI:(at_:Int)+1=(J:Int):=by omega
  rw [hJ] at HV hX;cases hv:vget0 (xs.drop J) with
  | error k =>
   rw [hv] at HV hX;have hk:=vget_ext.nz hv;have hk2:((k:Int) != 0)=true:=by rw [bne_iff_ne];omega
   have HV:=hid (show Calls Tryz.prog 104 #[.slice A n c,.int .i64 (J:Int)] (w.alloc (.cells #[.int .i64 (p:Int)] 73)) fun e w'=>e=.returned (.tuple #[.int .u64 0,.int .i64 0,.int .i64 (k:Int)])∧(w.alloc (.cells #[.int .i64 (p:Int)] 73))=w' from HV);have HX:=hid (show X=none from hX.symm);have HNa:=hid hNa;clear hX hr hx hn h1 hv hk hJ hp hNa;go_enter Tryz.func364,Tryz.ntmps364
   go_wp2_with fail;refine HV.out.mono ?_;rintro e w2 ⟨rfl,rfl⟩;go_wp2_with fail;go_ret2;exact ⟨EndW.no HX.out,HNa.out⟩
  | ok q =>
   obtain ⟨v,r⟩:=q;obtain ⟨hr1,hr2,hr3⟩:=drop_sfx hv;rw [hv] at HV hX;dsimp only at hX;obtain ⟨F,hF⟩:∃ F,n - r.length=F:=⟨_,rfl⟩;have HV:=hid (show Calls Tryz.prog 104 #[.slice A n c,.int .i64 (J:Int)] (w.alloc (.cells #[.int .i64 (p:Int)] 73)) fun e w'=>e=.returned (.tuple #[.int .u64 (v:Int),.int .i64 (F:Int),.int .i64 0])∧(w.alloc (.cells #[.int .i64 (p:Int)] 73))=w' from HV.mono fun e w' h=>⟨by rw [h.1,← hF];rfl,h.2⟩);obtain ⟨L,hL⟩:∃ L,r.length=L:=⟨_,rfl⟩;have hLI:(n:Int) - (F:Int)=(L:Int):=by omega
   have HNa:=hid hNa;by_cases h4:L < 4
   ·have h4I:(L:Int) < 4:=by omega
    rw [if_pos (.inl (by omega))] at hX;have HX:=hid (show X=none from hX.symm);clear hX hr hx hn h1 hv hJ hp hNa hF hL h4 hr1 hr2 hr3;go_enter Tryz.func364,Tryz.ntmps364
    go_wp2_with fail;refine HV.out.mono ?_;rintro e w2 ⟨rfl,rfl⟩;go_wp2_with fail;go_ret2;exact ⟨EndW.no HX.out,HNa.out⟩
   ·have h4I:¬ (L:Int) < 4:=by omega
    obtain ⟨Q,hQ⟩:∃ Q,L - 4=Q:=⟨_,rfl⟩;have hQI:(L:Int) - 4=(Q:Int):=by omega
    have HQb:=hid (show 0≤(Q:Int)∧(Q:Int)≤18446744073709551615 by omega);by_cases h5:Q < v
    ·have h5I:(Q:Int) < (v:Int):=by omega
     rw [if_pos (.inr (by omega))] at hX;have HX:=hid (show X=none from hX.symm);clear hX hr hx hn h1 hv hJ hp hNa hF hL h4 hr1 hr2 hr3 hQ h5;have hQw:IntKind.u64.wrap (Q:Int)=(Q:Int):=IntWalk.u64_in _ HQb.out;go_enter Tryz.func364,Tryz.ntmps364
     go_wp2_with fail;refine HV.out.mono ?_;rintro e w2 ⟨rfl,rfl⟩;go_wp2_with fail;go_ret2;exact ⟨EndW.no HX.out,HNa.out⟩
    ·have h5I:¬ (Q:Int) < (v:Int):=by omega
     rw [if_neg (by omega)] at hX;obtain ⟨T,hT⟩:∃ T,F+v=T:=⟨_,rfl⟩;have hTI:(F:Int)+(v:Int)=(T:Int):=by omega
     obtain ⟨T4,hT4⟩:∃ T4,T+4=T4:=⟨_,rfl⟩;have hT4I:(T:Int)+4=(T4:Int):=by omega
     have hvb:(v:Int)≤1000000000:=by omega
     have hTb:(T4:Int)≤1000000000:=by omega
     have HX:=hid (show X=some T4 by rw [← hX,← hn];congr 1;omega);clear hX hr hx hn h1 hv hJ hp hNa hF hL h4 hr1 hr2 hr3 hQ h5 hT hT4;go_enter Tryz.func364,Tryz.ntmps364
     go_wp2_with fail;refine HV.out.mono ?_;rintro e w2 ⟨rfl,rfl⟩;go_wp2_with fail;go_ret2;rw [HX.out];exact ⟨rfl,HNa.out⟩
set_option maxRecDepth 100000 in
theorem fixedEnd_any (w:World) (L:Nat) (v:Value) (A:Option Addr) (n c at_:Nat) (hL:L≤100) (hm:n≤1000000000) (hat:at_≤n) :
  Calls Tryz.prog 366 #[.agg #[.int .i64 (L:Int),v],.slice A n c,.int .i64 (at_:Int)] w fun e w'=>EndW (if at_+L≤n then some (at_+L) else none) e∧Nw w w':=by
 obtain ⟨T,hT⟩:∃ T,at_+L=T:=⟨_,rfl⟩;have hTI:(at_:Int)+(L:Int)=(T:Int):=by omega
 have HWb:=hid (show -9223372036854775808≤(at_:Int)+(L:Int)∧(at_:Int)+(L:Int)≤9223372036854775807 by omega);obtain ⟨R,hR⟩:∃ R,n - at_=R:=⟨_,rfl⟩;have hRI:(n:Int) - (at_:Int)=(R:Int):=by omega
 have HRb:=hid (show -9223372036854775808≤(R:Int)∧(R:Int)≤9223372036854775807 by omega);have hb0:=heap_alloc_new w (.cells #[.int .i64 (L:Int),v] 77);have k0:(w.alloc (.cells #[.int .i64 (L:Int),v] 77)).cell? ⟨w.heap.size,0,none⟩=some (.int .i64 (L:Int)):=cell_at (k:=0) hb0;rw [hT];by_cases h:T≤n
 ·have hI:(L:Int)≤(R:Int):=by omega
  have hId:decide ((L:Int)≤(R:Int))=true:=by simpa using hI
  rw [if_pos h];clear hT hR h hb0;go_enter Tryz.func366,Tryz.ntmps366
  go_wp2_with fail;go_quiet (fail)
  go_wp2_with fail;go_ret2;exact ⟨rfl,((Nw.refl w).alloc' _).drewN' nq⟩
 ·have hI:(R:Int) < (L:Int):=by omega
  have hId:decide ((L:Int)≤(R:Int))=false:=by rw [decide_eq_false_iff_not];omega
  have hNd:decide (L≤R)=false:=by rw [decide_eq_false_iff_not];omega
  rw [if_neg h];clear hT hR h hb0;go_enter Tryz.func366,Tryz.ntmps366
  go_wp2_with fail;go_quiet (fail)
  go_wp2_with fail;go_ret2;exact ⟨⟨(T:Int),rfl⟩,((Nw.refl w).alloc' _).drewN' nq⟩
theorem doneEnd_any (w:World) (A:Option Addr) (n c at_:Nat) :
  Calls Tryz.prog 369 #[.agg #[],.slice A n c,.int .i64 (at_:Int)] w fun e w'=>EndW none e∧Nw w w':=by
 go_enter Tryz.func369,Tryz.ntmps369
 go_wp2_with fail;go_ret2;exact ⟨⟨0,rfl⟩,(Nw.refl w).alloc' _⟩
theorem frameNext_any (w:World) (p:Nat) (hp:1≤p∧p≤5) :
  Calls Tryz.prog 365 #[.agg #[.int .i64 (p:Int)]] w fun e w'=>e=.returned (stV (p+1))∧Nw w w':=by
 have hNa:Nw w (w.alloc (.cells #[.int .i64 (p:Int)] 73)):=(Nw.refl w).alloc' _;have k0:(w.alloc (.cells #[.int .i64 (p:Int)] 73)).cell? ⟨w.heap.size,0,none⟩=some (.int .i64 (p:Int)):=cell_at (k:=0) (heap_alloc_new w _);by_cases h5:p=5
 ·subst h5;go_enter Tryz.func365,Tryz.ntmps365
  go_wp2_with fail;go_ret;exact ⟨rfl,hNa⟩
 ·have hb:((p:Int) == 5)=false:=by rw [beq_eq_false_iff_ne];omega
  have hs:stV (p+1)=.iface 73 (.agg #[.int .i64 ((p:Int)+1)]):=by
   unfold stV;rw [if_neg (by omega),if_pos (by omega)];rfl
  rw [hs];have hpb:(p:Int)≤5:=by omega
  clear hs h5 hp;go_enter Tryz.func365,Tryz.ntmps365
  go_wp2_with fail;go_ret;exact ⟨rfl,hNa⟩
theorem fixedNext_any (w:World) (L:Int) (T:TypeId) (v:Value) :
  Calls Tryz.prog 367 #[.agg #[.int .i64 L,.iface T v]] w fun e w'=>e=.returned (.iface T v)∧Nw w w':=by
 have hNa:Nw w (w.alloc (.cells #[.int .i64 L,.iface T v] 77)):=(Nw.refl w).alloc' _;have k1:(w.alloc (.cells #[.int .i64 L,.iface T v] 77)).cell? ⟨w.heap.size,1,none⟩=some (.iface T v):=cell_at (k:=1) (heap_alloc_new w _);go_enter Tryz.func367,Tryz.ntmps367
 go_wp2_with fail;go_ret;exact ⟨rfl,hNa⟩
theorem doneNext_any (w:World) :
  Calls Tryz.prog 370 #[.agg #[]] w fun e w'=>e=.returned (stV 8)∧Nw w w':=by
 go_enter Tryz.func370,Tryz.ntmps370
 go_wp2_with fail;go_ret;exact ⟨rfl,(Nw.refl w).alloc' _⟩
end
section
open Go Go.RowKit Go.Lib
def PcS (W:World) (g:Nat) (A:Option Addr) (n c at_ p err:Nat) (cl:Bool):Prop :=
 W.heap[g]? = some (.cells #[.slice A n c,.int .i64 (at_:Int),.int .i64 (p:Int),stV p,.int .i64 (err:Int),.bool cl] 79 (0,0))
theorem PcS.nw {W W':World} {g n c at_ p err:Nat} {A:Option Addr} {cl:Bool} (h:PcS W g A n c at_ p err cl) (hN:Nw W W'):PcS W' g A n c at_ p err cl:=(hN.block _ (lt_of_block h)).trans h
theorem PcS.lt {W:World} {g n c at_ p err:Nat} {A:Option Addr} {cl:Bool} (h:PcS W g A n c at_ p err cl):g < W.heap.size:=lt_of_block h
theorem PcS.c0 {W:World} {g n c at_ p err:Nat} {A:Option Addr} {cl:Bool} (h:PcS W g A n c at_ p err cl):W.cell? ⟨g,0,none⟩=some (.slice A n c):=cell_at (k:=0) h
theorem PcS.c1 {W:World} {g n c at_ p err:Nat} {A:Option Addr} {cl:Bool} (h:PcS W g A n c at_ p err cl):W.cell? ⟨g,1,none⟩=some (.int .i64 (at_:Int)):=cell_at (k:=1) h
theorem PcS.c2 {W:World} {g n c at_ p err:Nat} {A:Option Addr} {cl:Bool} (h:PcS W g A n c at_ p err cl):W.cell? ⟨g,2,none⟩=some (.int .i64 (p:Int)):=cell_at (k:=2) h
theorem PcS.c3 {W:World} {g n c at_ p err:Nat} {A:Option Addr} {cl:Bool} (h:PcS W g A n c at_ p err cl):W.cell? ⟨g,3,none⟩=some (stV p):=cell_at (k:=3) h
theorem PcS.c4 {W:World} {g n c at_ p err:Nat} {A:Option Addr} {cl:Bool} (h:PcS W g A n c at_ p err cl):W.cell? ⟨g,4,none⟩=some (.int .i64 (err:Int)):=cell_at (k:=4) h
theorem PcS.c5 {W:World} {g n c at_ p err:Nat} {A:Option Addr} {cl:Bool} (h:PcS W g A n c at_ p err cl):W.cell? ⟨g,5,none⟩=some (.bool cl):=cell_at (k:=5) h
theorem PcS.free {W:World} {g n c at_ p err:Nat} {A:Option Addr} {cl:Bool} (h:PcS W g A n c at_ p err cl) (k:Nat):W.frozen? ⟨g,k,none⟩=false:=by simp [World.frozen?,show W.heap[g]? = _ from h]
theorem PcS.s0 {W:World} {g n c at_ p err:Nat} {A:Option Addr} {cl:Bool} (h:PcS W g A n c at_ p err cl) (A':Option Addr) (n' c':Nat):PcS (W.setCell ⟨g,0,none⟩ (.slice A' n' c')) g A' n' c' at_ p err cl:=by
 have:=set_at (k:=0) (.slice A' n' c') h;unfold PcS;simpa using this
theorem PcS.s4 {W:World} {g n c at_ p err:Nat} {A:Option Addr} {cl:Bool} (h:PcS W g A n c at_ p err cl) (x:Nat):PcS (W.setCell ⟨g,4,none⟩ (.int .i64 (x:Int))) g A n c at_ p x cl:=by
 have:=set_at (k:=4) (.int .i64 (x:Int)) h;unfold PcS;simpa using this
theorem PcS.s5 {W:World} {g n c at_ p err:Nat} {A:Option Addr} {cl:Bool} (h:PcS W g A n c at_ p err cl) (x:Bool):PcS (W.setCell ⟨g,5,none⟩ (.bool x)) g A n c at_ p err x:=by
 have:=set_at (k:=5) (.bool x) h;unfold PcS;simpa using this
theorem PcS.adv {W:World} {g n c at_ p err:Nat} {A:Option Addr} {cl:Bool} (h:PcS W g A n c at_ p err cl) (x q:Nat):PcS (((W.setCell ⟨g,1,none⟩ (.int .i64 (x:Int))).setCell ⟨g,3,none⟩ (stV q)).setCell ⟨g,2,none⟩ (.int .i64 (q:Int))) g A n c x q err cl:=by
 have:=set_at (k:=2) (.int .i64 (q:Int)) (set_at (k:=3) (stV q) (set_at (k:=1) (.int .i64 (x:Int)) h));unfold PcS;simpa using this
theorem nil_eqP (g:Nat) (W:World):(binOp .eql 25 (.pointer (some ⟨g,0,none⟩)) (.pointer none)).run Tryz.prog W=.ok (.bool false) W:=by kernel_rfl
theorem nil_eqP0 (W:World):(binOp .eql 25 (.pointer none) (.pointer none)).run Tryz.prog W=.ok (.bool true) W:=by kernel_rfl
theorem PNew_any (w:World) :
  Calls Tryz.prog 16 #[] w fun e w'=>e=.returned (.pointer (some ⟨w.heap.size,0,none⟩))∧PcS w' w.heap.size none 0 0 0 0 0 false∧Nw w w':=by
 go_enter Tryz.func16,Tryz.ntmps16
 go_wp2_with fail;go_ret;exact ⟨rfl,heap_alloc_new w _,(Nw.refl w).alloc' _⟩
theorem PLen_any (w:World) (g n c at_ p err:Nat) (A:Option Addr) (cl:Bool) (h:PcS w g A n c at_ p err cl) :
  Calls Tryz.prog 22 #[.pointer (some ⟨g,0,none⟩)] w fun e w'=>e=.returned (.int .i64 (n:Int))∧w=w':=by
 have c0:=h.c0;have hnil:=nil_eqP g;clear h;go_enter Tryz.func22,Tryz.ntmps22
 go_wp2_with fail;go_ret;exact ⟨rfl,rfl⟩
theorem PParts_any (w:World) (g n c at_ p err:Nat) (A:Option Addr) (cl:Bool) (h:PcS w g A n c at_ p err cl) :
  Calls Tryz.prog 23 #[.pointer (some ⟨g,0,none⟩)] w fun e w'=>e=.returned (.int .i64 (p:Int))∧w=w':=by
 have c2:=h.c2;have hnil:=nil_eqP g;clear h;go_enter Tryz.func23,Tryz.ntmps23
 go_wp2_with fail;go_ret;exact ⟨rfl,rfl⟩
theorem PLen_nil (w:World):Calls Tryz.prog 22 #[.pointer none] w fun e w'=>e=.returned (.int .i64 0)∧w=w':=by
 have hnil:=nil_eqP0;go_enter Tryz.func22,Tryz.ntmps22
 go_wp2_with fail;go_ret;exact ⟨rfl,rfl⟩
theorem PParts_nil (w:World):Calls Tryz.prog 23 #[.pointer none] w fun e w'=>e=.returned (.int .i64 0)∧w=w':=by
 have hnil:=nil_eqP0;go_enter Tryz.func23,Tryz.ntmps23
 go_wp2_with fail;go_ret;exact ⟨rfl,rfl⟩
theorem PErr_nil (w:World):Calls Tryz.prog 25 #[.pointer none] w fun e w'=>e=.returned (.int .i64 1)∧w=w':=by
 have hnil:=nil_eqP0;go_enter Tryz.func25,Tryz.ntmps25
 go_wp2_with fail;go_ret;exact ⟨rfl,rfl⟩
theorem st_any (p:Nat) (hp:p≤7):∃ (T:TypeId) (v:Value) (F K:FuncId) (d:Bool),stV p=.iface T v∧(d=true↔p=7)∧(∀ W:World,(Instr.typeAssert (.iface T v) 75 150 true).run Tryz.prog W=.ok (.tuple #[.agg #[],.bool d]) W) ∧
  (∀ args W,(callFunc F args).run Tryz.prog W=.ok (.enter F args) W)∧(∀ args W,(callFunc K args).run Tryz.prog W=.ok (.enter K args) W) ∧
  (∀ W:World,(method (Tryz.prog.types.size+Made.depth) T v "tsblock/piece.end").run Tryz.prog W=.ok (F,v) W)∧(∀ W:World,(method (Tryz.prog.types.size+Made.depth) T v "tsblock/piece.next").run Tryz.prog W=.ok (K,v) W) ∧
  (∀ (w:World) (b:Nat) (A:Option Addr) (n c at_:Nat) (xs:List Nat),n=xs.length→n≤c→n≤1000000000→Rd w b A (cN .u8 xs)→(∀ x∈xs,x < 256)→at_≤n →
   Calls Tryz.prog F #[v,.slice A n c,.int .i64 (at_:Int)] w fun e w'=>EndW (endQ p xs at_) e∧Nw w w') ∧
  (∀ w:World,Calls Tryz.prog K #[v] w fun e w'=>e=.returned (stV (p+1))∧Nw w w'):=by
 by_cases h0:p=0
 ·subst h0;refine ⟨_,_,366,367,false,rfl,(by simp),(fun _=>by kernel_rfl),enters_of Tryz.func366 (by kernel_rfl) rfl,enters_of Tryz.func367 (by kernel_rfl) rfl,fun _=>by kernel_rfl,fun _=>by kernel_rfl,?_,?_⟩
  ·intro w b A n c at_ xs hn hnc hm hr hx hat;subst hn;exact (fixedEnd_any w 5 _ A _ c at_ (by omega) hm hat)
  ·intro w;exact fixedNext_any w _ _ _
 ·by_cases h5:p≤5
  ·have hs:stV p=.iface 73 (.agg #[.int .i64 (p:Int)]):=by
    unfold stV;rw [if_neg h0,if_pos h5]
   refine ⟨_,_,364,365,false,hs,(by simp;omega),(fun _=>by kernel_rfl),enters_of Tryz.func364 (by kernel_rfl) rfl,enters_of Tryz.func365 (by kernel_rfl) rfl,fun _=>by kernel_rfl,fun _=>by kernel_rfl,?_,?_⟩
   ·intro w b A n c at_ xs hn hnc hm hr hx hat;exact frameEnd_any w p b A n c at_ xs ⟨by omega,h5⟩ hn hnc hm hr hx hat
   ·intro w;exact frameNext_any w p ⟨by omega,h5⟩
  ·by_cases h6:p=6
   ·subst h6;refine ⟨_,_,366,367,false,rfl,(by simp),(fun _=>by kernel_rfl),enters_of Tryz.func366 (by kernel_rfl) rfl,enters_of Tryz.func367 (by kernel_rfl) rfl,fun _=>by kernel_rfl,fun _=>by kernel_rfl,?_,?_⟩
    ·intro w b A n c at_ xs hn hnc hm hr hx hat;subst hn;exact (fixedEnd_any w 8 _ A _ c at_ (by omega) hm hat)
    ·intro w;exact fixedNext_any w _ _ _
   ·obtain rfl:p=7:=by omega
    refine ⟨_,_,369,370,true,rfl,(by simp),(fun _=>by kernel_rfl),enters_of Tryz.func369 (by kernel_rfl) rfl,enters_of Tryz.func370 (by kernel_rfl) rfl,fun _=>by kernel_rfl,fun _=>by kernel_rfl,?_,?_⟩
    ·intro w b A n c at_ xs hn hnc hm hr hx hat;exact doneEnd_any w A n c at_
    ·intro w;exact doneNext_any w
end
section
open Go Go.RowKit Go.Lib
def pOf (g:Nat) (W:World):Nat:=match W.cell? ⟨g,2,none⟩ with | some v=>(intOf v).toNat | none=>0
theorem pOf_at {W:World} {g n c at_ p err:Nat} {A:Option Addr} {cl:Bool} (h:PcS W g A n c at_ p err cl):pOf g W=p:=by
 unfold pOf;rw [h.c2];simp [intOf]
def AdvW (w w':World) (g:Nat) (A:Option Addr) (n c:Nat) (xs:List Nat) (cl:Bool):Prop :=
 ∃ at_ p,PcS w' g A n c at_ p (certP xs) cl∧at_≤n∧p=partsP xs∧p≤7∧Prs p (xs.take at_)∧Kp g g w w'
set_option maxRecDepth 100000 in
set_option maxHeartbeats 2000000 in
theorem PAdv_any (w:World) (g n c at_ p b:Nat) (A:Option Addr) (xs:List Nat) (cl:Bool) (h:PcS w g A n c at_ p 0 cl) (hat:at_≤n) (hp:p≤7) (hP:Prs p (xs.take at_)) (hn:n=xs.length) (hnc:n≤c) (hm:n≤1000000000) (hr:Rd w b A (cN .u8 xs)) (hb:b≠g) (hA:A=none→c=0) (hx:∀ x∈xs,x < 256) (hG:Gl w) (hg:3≤g) :
  Calls Tryz.prog 42 #[.pointer (some ⟨g,0,none⟩)] w fun e w'=>e=.returned (.tuple #[])∧AdvW w w' g A n c xs cl:=by
 have HP:=hid hP;have HR:=hid hr;have HX:=hid hx;have HG:=hid hG;have HA:=hid hA;have H:=hid h;clear hP hr hx hG hA h;go_enter Tryz.func42,Tryz.ntmps42
 go_wp2_with fail;go_loopw [2] (fun _ wr=>∃ at1 p1,PcS wr g A n c at1 p1 0 cl∧at1≤n∧p1≤7∧Hid (Prs p1 (xs.take at1))∧Hid (Kp g g w wr)) (fun _ wr=>8 - pOf g wr)
 case atStart=>exact ⟨at_,p,H.out,hat,hp,HP,hid (Kp.refl _ _ _)⟩
 case round =>
  obtain ⟨at1,p1,h1,hat1,hp1,HP1,HK⟩:=hrel;obtain ⟨T,v,F,K,d,hst,hd,hTA,hF,hK,hmF,hmK,hE,hNx⟩:=st_any p1 hp1;have H1:=hid h1;obtain ⟨X,hX⟩:∃ X,endQ p1 xs at1=X:=⟨_,rfl⟩;have H0:=hid fun (W:World) (hN:Nw wr W)=>show W.cell? ⟨g,0,none⟩=some (.slice A n c)∧W.cell? ⟨g,1,none⟩=some (.int .i64 (at1:Int))∧W.cell? ⟨g,3,none⟩=some (.iface T v) from ⟨(h1.nw hN).c0,(h1.nw hN).c1,hst ▸ (h1.nw hN).c3⟩
  have A1:Hid (∀ W,((W.cell? ⟨g,0,none⟩=some (.slice A n c)∧W.cell? ⟨g,1,none⟩=some (.int .i64 (at1:Int))∧W.cell? ⟨g,3,none⟩=some (.iface T v))∧Nw wr W)→Calls Tryz.prog F #[v,.slice A n c,.int .i64 (at1:Int)] W fun e w'=>EndW X e∧((w'.cell? ⟨g,0,none⟩=some (.slice A n c)∧w'.cell? ⟨g,1,none⟩=some (.int .i64 (at1:Int))∧w'.cell? ⟨g,3,none⟩=some (.iface T v))∧Nw wr w')):=hid fun W hS =>
   (hX ▸ hE W b A n c at1 xs hn hnc hm ((HR.out.kp HK.out hb hb).nw hS.2) HX.out hat1).mono fun e w' h=>⟨h.1,H0.out _ (hS.2.trans h.2),hS.2.trans h.2⟩
  have E0:Hid ((wr.cell? ⟨g,0,none⟩=some (.slice A n c)∧wr.cell? ⟨g,1,none⟩=some (.int .i64 (at1:Int))∧wr.cell? ⟨g,3,none⟩=some (.iface T v))∧Nw wr wr):=hid ⟨H0.out _ (Nw.refl _),Nw.refl _⟩;have HNx:=hid hNx;have HhX:=hid hX;have Hst:=hid hst;have Hd:=hid hd;have HN:=hid hn;clear hNx hE hX h1 hst hd hn;have hq:Tryz.prog.types.size+Made.depth=556:=by kernel_rfl
  rw [hq] at hmF hmK;clear hq;have HGr:=hid (HG.out.kp HK.out hg hg);cases X with
  | none =>
   have HC:Hid (∀ W,Nw wr W→Calls Tryz.prog 79 #[.slice A n c] W fun e w'=>e=.returned (.int .i64 (certP xs:Nat))∧Nw wr w'):=hid fun W hN =>
    (Certain_any W b A n c xs HN.out hnc hm ((HR.out.kp HK.out hb hb).nw hN) HA.out HX.out (HGr.out.nw hN)).mono fun e w' h=>⟨h.1,hN.trans h.2⟩
   go_wp2_with fail;go_region_held3 (fun w'=>(w'.cell? ⟨g,0,none⟩=some (.slice A n c)∧w'.cell? ⟨g,1,none⟩=some (.int .i64 (at1:Int))∧w'.cell? ⟨g,3,none⟩=some (.iface T v))∧Nw wr w')
    (first | exact ⟨H0.out _ (Nw.drew1 _),Nw.drew1 _⟩ | exact ⟨H0.out _ (Nw.drewN wr _),Nw.drewN wr _⟩ | exact E0.out | exact hS)
    (first
     | (refine (A1.out _ (by assumption)).mono ?_;rintro e w5 ⟨⟨t,rfl⟩,hS⟩))
   have hS0:=hS.1.1;have hS1:=hS.1.2.1;have hS3:=hS.1.2.2;have HN5:=hid hS.2;have H5:=hid (H1.out.nw hS.2);have hl5:=H5.out.lt;have f5:=H5.out.free 4;clear hS;cases d with
   | false =>
    go_wp2_with fail;go_quiet (fail)
    go_wp2_with fail;refine (HC.out _ ((HN5.out.alloc' _).drewN' nq)).mono ?_;rintro e w6 ⟨rfl,hN6⟩;have f6:=(H1.out.nw hN6).free 4;have e6:=(H1.out.nw hN6).c4;have HN6:=hid hN6;clear hN6;go_wp2_with fail;go_end0
    refine ⟨rfl,at1,p1,(H1.out.nw HN6.out).s4 _,hat1,?_,hp1,HP1.out,(HK.out.nw' HN6.out).setCell' (.inl rfl) _⟩;have hp6:p1≤6:=by have:=Hd.out;simp at this;omega
    exact (adv_none hp6 (HN.out ▸ hat1) HP1.out HhX.out).symm
   | true =>
    have hp7:p1=7:=Hd.out.1 rfl;by_cases hlt:at1 < n
    ·have hltI:decide ((at1:Int) < (n:Int))=true:=by rw [decide_eq_true_iff];omega
     have hltN:decide (at1 < n)=true:=by rw [decide_eq_true_iff];omega
     go_wp2_with fail;go_quiet (fail)
     go_wp2_with fail;refine (HC.out _ ((HN5.out.alloc' _).drewN' nq)).mono ?_;rintro e w6 ⟨rfl,hN6⟩;have f6:=(H1.out.nw hN6).free 4;have e6:=(H1.out.nw hN6).c4;have HN6:=hid hN6;clear hN6;go_wp2_with fail;go_end0
     refine ⟨rfl,at1,p1,(H1.out.nw HN6.out).s4 _,hat1,?_,hp1,HP1.out,(HK.out.nw' HN6.out).setCell' (.inl rfl) _⟩;subst hp7;exact (adv_done (HN.out ▸ hat1) HP1.out).1.symm
    ·have hltI:decide ((at1:Int) < (n:Int))=false:=by rw [decide_eq_false_iff_not];omega
     have hltN:decide (at1 < n)=false:=by rw [decide_eq_false_iff_not];omega
     go_wp2_with fail;go_quiet (fail)
     go_wp2_with fail;go_end0
     subst hp7;obtain ⟨q1,q2⟩:=adv_done (HN.out ▸ hat1) HP1.out;have q3:=q2 (by have:=HN.out;omega);refine ⟨rfl,at1,7,?_,hat1,q1.symm,hp1,HP1.out,HK.out.nw' ((HN5.out.alloc' _).drewN' nq)⟩;rw [q3];exact H1.out.nw ((HN5.out.alloc' _).drewN' nq)
  | some tq =>
   have hp6:p1≤6:=by
    by_cases h7:p1=7
    ·subst h7;have:=HhX.out;simp [endQ] at this
    ·omega
   obtain ⟨hlt,hle,hcb,hco⟩:=adv_some HX.out hp6 (HN.out ▸ hat1) HP1.out HhX.out;have htn:tq≤n:=by have:=HN.out;omega
   have hzl:(xs.take tq).length=tq:=by rw [List.length_take];omega
   obtain ⟨z,hz⟩:∃ z,certP (xs.take tq)=z:=⟨_,rfl⟩;have HC:Hid (∀ W,Nw wr W→Calls Tryz.prog 79 #[.slice A tq c] W fun e w'=>e=.returned (.int .i64 (z:Int))∧Nw wr w'):=hid fun W hN =>
    (hz ▸ Certain_any W b A tq c (xs.take tq) hzl.symm (by omega) (by omega) (by rw [cN,List.map_take];exact ((HR.out.kp HK.out hb hb).nw hN).take tq) HA.out (fun x hx=>HX.out x (List.mem_of_mem_take hx)) (HGr.out.nw hN)).mono fun e w' h=>⟨h.1,hN.trans h.2⟩
   obtain ⟨q,hq⟩:∃ q,p1+1=q:=⟨_,rfl⟩;have hqI:(p1:Int)+1=(q:Int):=by omega
   obtain ⟨T2,v2,F2,K2,d2,hst2,-⟩:=st_any q (by omega);have HNx2:Hid (∀ W,Nw wr W→Calls Tryz.prog K #[v] W fun e w'=>e=.returned (.iface T2 v2)∧Nw wr w'):=hid fun W hN=>(HNx.out W).mono fun e w' h=>⟨by rw [h.1,hq,hst2],hN.trans h.2⟩
   have Hst2:=hid hst2;have Hz:=hid hz;have Hlt:=hid hlt;have Hle:=hid hle;have Hq:=hid hq;have Hcb:=hid hcb;have Hco:=hid hco;clear hst2 hz hzl hlt hle hcb hco hq;have htI:¬ (tq:Int) < 0:=by omega
   go_wp2_with fail;go_region_held3 (fun w'=>(w'.cell? ⟨g,0,none⟩=some (.slice A n c)∧w'.cell? ⟨g,1,none⟩=some (.int .i64 (at1:Int))∧w'.cell? ⟨g,3,none⟩=some (.iface T v))∧Nw wr w')
    (first | exact ⟨H0.out _ (Nw.drew1 _),Nw.drew1 _⟩ | exact ⟨H0.out _ (Nw.drewN wr _),Nw.drewN wr _⟩ | exact E0.out | exact hS)
    (first
     | (refine (A1.out _ (by assumption)).mono ?_;rintro e w5 ⟨rfl,hS⟩))
   have hS0:=hS.1.1;have HN5:=hid hS.2;clear hS;by_cases h0:z=0
   ·subst h0;go_wp2_with fail;refine (HC.out _ HN5.out).mono ?_;rintro e w6 ⟨rfl,hN6⟩;have e63:w6.cell? ⟨g,3,none⟩=some (.iface T v):=Hst.out ▸ (H1.out.nw hN6).c3;have HN6:=hid hN6;clear hN6;go_wp2_with fail;refine (HNx2.out _ HN6.out).mono ?_;rintro e w7 ⟨rfl,hN7⟩;have e71:=(H1.out.nw hN7).c1;have e72:=(H1.out.nw hN7).c2;have e73:w7.cell? ⟨g,3,none⟩=some (.iface T v):=Hst.out ▸ (H1.out.nw hN7).c3;have f71:=(H1.out.nw hN7).free 1;have f72:=(H1.out.nw hN7).free 2;have f73:=(H1.out.nw hN7).free 3;have HN7:=hid hN7;clear hN7;go_wp2_with fail;go_roundw
    case rel =>
     have h9:=(H1.out.nw HN7.out).adv tq q;rw [Hst2.out] at h9;exact ⟨tq,q,h9,htn,by have:=Hq.out;omega,hid (Hq.out ▸ Hco.out Hz.out),hid ((((HK.out.nw' HN7.out).setCell' (.inl rfl) _).setCell' (.inl rfl) _).setCell' (.inl rfl) _)⟩
    case measure =>
     have h9:=(H1.out.nw HN7.out).adv tq q;rw [Hst2.out] at h9;rw [pOf_at h9,pOf_at H1.out];have:=Hq.out;omega
   ·have h0b:((z:Int) != 0)=true:=by rw [bne_iff_ne];omega
    go_wp2_with fail;refine (HC.out _ HN5.out).mono ?_;rintro e w6 ⟨rfl,hN6⟩;have f6:=(H1.out.nw hN6).free 4;have e6:=(H1.out.nw hN6).c4;have HN6:=hid hN6;clear hN6;go_wp2_with fail;refine bodyPost_ret (results_none rfl _ _ _) rfl ?_;have hzz:=Hz.out;have hcx:=certP_stays (bs:=xs.take tq) (by rw [hzz];exact h0) (xs.drop tq);rw [List.take_append_drop,hzz] at hcx;refine ⟨rfl,at1,p1,?_,hat1,(Hcb.out (by rw [hzz];exact h0)).symm,hp1,HP1.out,(HK.out.nw' HN6.out).setCell' (.inl rfl) _⟩;rw [hcx];exact (H1.out.nw HN6.out).s4 z
end
section
theorem cntS_ext (e:List Nat):∀ (k:Nat) (bs:List Nat) (acc:List (List Nat × Nat)) (r:List Nat) (j:Nat),restP bs k acc r=.error j→j≠3→cntS k (r++e)=cntS k r
 | 0,_,_,_,_,_,_=>rfl
 | k+1,bs,acc,r,j,h,hj=>by
  rw [restP] at h;have hE:=sect_ext (5 - k);cases hs:sectP (5 - k) r with
  | error i =>
   rw [hs] at h;have hij:i=j:=by injection h
   rw [cntS_succ_er hs,cntS_succ_er (hE.er hs (by omega) e)]
  | ok q =>
   obtain ⟨l,q⟩:=q;rw [hs] at h;rw [cntS_succ_ok hs,cntS_succ_ok (hE.ok hs e),cntS_ext e k bs _ q j h hj]
theorem partsP_stays {bs:List Nat} (h:certP bs≠0) (e:List Nat):partsP (bs++e)=partsP bs:=by
 cases hp:parseP bs with
 | ok s=>exact absurd (certP_ok hp) h
 | error k =>
  rw [certP_er hp] at h;have h3:k≠3:=by
   intro h3;rw [if_pos h3] at h;exact h rfl
  have hp2:=parse_same hp h3 e;unfold partsP;rw [hp,hp2];dsimp only;by_cases h4:k=4
  ·rw [if_pos h4,if_pos h4]
  ·rw [if_neg h4,if_neg h4];have hq:=hp;rw [parseP_rest] at hq;cases hl:litP hd0 bs with
   | error i =>
    rw [hl] at hq;have hik:i=k:=by injection hq
    rw [(litP_ext hd0).2.1 hl (by omega) e]
   | ok r =>
    rw [hl] at hq;rw [(litP_ext hd0).1 hl e];dsimp only;rw [cntS_ext e 5 bs [] r k hq h3]
end
section
open Go Go.RowKit Go.Lib
def Fed (W:World) (g own:Nat) (xs:List Nat) (cl:Bool):Prop :=
 ∃ A c at_ p,PcS W g A xs.length c at_ p (certP xs) cl∧Ow W own 5 1 A xs.length c (cN .u8 xs)∧own≠g∧at_≤xs.length∧p=partsP xs∧Prs p (xs.take at_)
theorem PFeed_nil (w:World) (A:Option Addr) (n c:Nat):Calls Tryz.prog 18 #[.pointer none,.slice A n c] w fun e w'=>e=.returned (.int .i64 1)∧w=w':=by
 have hnil:=nil_eqP0;go_enter Tryz.func18,Tryz.ntmps18
 go_wp2_with fail;go_ret;exact ⟨rfl,rfl⟩
theorem PFeed_closed (w:World) (g own:Nat) (xs:List Nat) (A:Option Addr) (n c:Nat) (h:Fed w g own xs true):Calls Tryz.prog 18 #[.pointer (some ⟨g,0,none⟩),.slice A n c] w fun e w'=>e=.returned (.int .i64 2)∧w=w':=by
 obtain ⟨A1,c1,at_,p,h,-⟩:=h;have c5:=h.c5;have hnil:=nil_eqP g;clear h;go_enter Tryz.func18,Tryz.ntmps18
 go_wp2_with fail;go_ret;exact ⟨rfl,rfl⟩
set_option maxRecDepth 100000 in
set_option maxHeartbeats 2000000 in
theorem PFeed_any (w:World) (g own b2:Nat) (xs ys:List Nat) (A2:Option Addr) (m c2:Nat) (h:Fed w g own xs false) (hr:Rd w b2 A2 (cN .u8 ys)) (hA2:A2=none→c2=0) (hm:m=ys.length) (hl:xs.length+ys.length≤1000000000) (hx:∀ x∈xs++ys,x < 256) (hG:Gl w) (hg:3≤g) (ho:3≤own) :
  Calls Tryz.prog 18 #[.pointer (some ⟨g,0,none⟩),.slice A2 m c2] w fun e w'=>e=.returned (.int .i64 0)∧∃ own',Fed w' g own' (xs++ys) false∧(own'=own∨w.heap.size≤own')∧Kp g own w w':=by
 obtain ⟨A,c,at_,p,h,hO,hne,hat,hp,hP⟩:=h;obtain ⟨n,hn⟩:∃ n,xs.length=n:=⟨_,rfl⟩;rw [hn] at h hO hat hl;have c0:=h.c0;have c5:=h.c5;have hnil:=nil_eqP g;have hgl:=h.lt;have HH:=hid h;have HO:=hid hO;have HR:=hid hr;have HX:=hid hx;have HG:=hid hG;have HP:=hid hP;have Hp:=hid hp;have HN:=hid hn;have HM:=hid hm;obtain ⟨z,hz⟩:∃ z,certP xs=z:=⟨_,rfl⟩;have Hz:=hid hz;rw [hz] at HH;rw [← hm] at hl;clear h hO hr hx hG hP hp hn hm hz;go_enter Tryz.func18,Tryz.ntmps18
 by_cases h0:z=0
 ·subst h0;go_wp2_with (at_builtin;refine wpList_app E_u8 rfl (.tmp 17) (.tmp 18) rfl rfl HO.out rfl HR.out (by rw [List.length_map,HM.out,Nat.mul_one]) hA2 (oc_N _ _) (by simp only [maxLen];omega) (by omega) ?_;intro b5 A5 c5' w5 q1 q2 q3 q4;have Q1:=hid q1;have Q2:=hid q2;have Q3:=hid q3;have H5:=hid (show PcS w5 g A n c at_ p 0 false from (q3.block g hgl (Ne.symm hne) (Ne.symm hne)).trans HH.out);clear q1 q2 q3 q4;have e50:=H5.out.c0;have f50:=H5.out.free 0;have e54:=H5.out.c4)
  go_wp2_with fail;have hbg:b5≠g:=by rcases Q2.out with h | h<;>omega
  have hKs:Kp g g w5 (w5.setCell ⟨g,0,none⟩ (.slice A5 (n+m) c5')):=(Kp.refl g g w5).setCell' (.inl rfl) _;have hOw:=Q1.out.kp hKs hbg hbg;rw [← List.map_append] at hOw;have hlen:n+m=(xs++ys).length:=by rw [List.length_append,HN.out,HM.out]
  have hAn:A5=none→c5'=0:=by
   intro h;rcases hOw with ⟨_,_,h2,_⟩ | ⟨h1,_⟩
   ·exact h2
   ·rw [h] at h1;cases h1
  refine (PAdv_any _ g (n+m) c5' at_ p b5 A5 (xs++ys) false (H5.out.s0 A5 (n+m) c5') (by omega) (by rw [Hp.out];exact partsP_le xs) (prs_more (by rw [HN.out];exact hat) HP.out) hlen hOw.cap.1 hl hOw.rd hbg hAn HX.out ((HG.out.kp Q3.out ho ho).kp hKs hg hg) hg).mono ?_;rintro e w6 ⟨rfl,at6,p6,h6,h6a,h6p,h67,h6P,h6K⟩;have H6:=hid h6;have H6K:=hid h6K;have H6P:=hid h6P;clear h6 h6K h6P;go_wp2_with fail;go_ret;rw [hlen] at H6 h6a;refine ⟨rfl,b5,⟨A5,c5',at6,p6,H6.out,?_,hbg,h6a,h6p,H6P.out⟩,Q2.out,?_⟩
  ·rw [← hlen];exact hOw.kp H6K.out hbg hbg
  ·have k1:Kp g own w w5:=(Kp.refl g own w).trans Q3.out (.inr (.inl rfl)) (.inr (.inl rfl));exact (k1.trans hKs (.inl rfl) (.inl rfl)).trans H6K.out (.inl rfl) (.inl rfl)
 ·have h0b:((z:Int) == 0)=false:=by rw [beq_eq_false_iff_ne];omega
  go_wp2_with (at_builtin;refine wpList_app E_u8 rfl (.tmp 17) (.tmp 18) rfl rfl HO.out rfl HR.out (by rw [List.length_map,HM.out,Nat.mul_one]) hA2 (oc_N _ _) (by simp only [maxLen];omega) (by omega) ?_;intro b5 A5 c5' w5 q1 q2 q3 q4;have Q1:=hid q1;have Q2:=hid q2;have Q3:=hid q3;have H5:=hid (show PcS w5 g A n c at_ p z false from (q3.block g hgl (Ne.symm hne) (Ne.symm hne)).trans HH.out);clear q1 q2 q3 q4;have e50:=H5.out.c0;have f50:=H5.out.free 0;have e54:=H5.out.c4)
  go_wp2_with fail;go_ret;have hbg:b5≠g:=by rcases Q2.out with h | h<;>omega
  have hKs:Kp g g w5 (w5.setCell ⟨g,0,none⟩ (.slice A5 (n+m) c5')):=(Kp.refl g g w5).setCell' (.inl rfl) _;have hOw:=Q1.out.kp hKs hbg hbg;rw [← List.map_append] at hOw;have hlen:n+m=(xs++ys).length:=by rw [List.length_append,HN.out,HM.out]
  have hzz:=Hz.out;have hcx:certP (xs++ys)=z:=(certP_stays (by rw [hzz];exact h0) ys).trans hzz;have hpp:partsP (xs++ys)=partsP xs:=partsP_stays (by rw [hzz];exact h0) ys;have h9:=H5.out.s0 A5 (n+m) c5';rw [hlen] at h9 hOw;refine ⟨rfl,b5,⟨A5,c5',at_,p,?_,?_,hbg,by omega,by rw [hpp];exact Hp.out,prs_more (by rw [HN.out];exact hat) HP.out⟩,Q2.out,?_⟩
  ·rw [hcx];rw [← hlen] at h9 ⊢;exact h9
  ·rw [← hlen] at hOw ⊢;exact hOw
  ·have k1:Kp g own w w5:=(Kp.refl g own w).trans Q3.out (.inr (.inl rfl)) (.inr (.inl rfl));exact k1.trans hKs (.inl rfl) (.inl rfl)
end
section
open Go Go.RowKit Go.Lib
set_option maxRecDepth 100000 in
theorem DecodeE_any (w:World) (b:Nat) (A:Option Addr) (n c:Nat) (xs:List Nat) (k:Nat) (hk:parseP xs=.error k) (hn:n=xs.length) (hnc:n≤c) (hm:n≤1000000000) (hr:Rd w b A (cN .u8 xs)) (hA:A=none→c=0) (hx:∀ x∈xs,x < 256) (hG:Gl w) :
  Calls Tryz.prog 32 #[.slice A n c] w fun e w'=>e=.returned (.tuple #[.slice none 0 0,.int .i64 (k:Int)])∧Nw w w':=by
 have HP:=hid (hk ▸ ParseL_any w b A n c xs hn hnc hm hr hA hx hG);have hP2:Calls Tryz.prog 53 #[.slice A n c] w (PrsW w (.error k)):=HP.out;have HP2:=hid hP2;clear HP hP2 hr hx hA hG hk hn hnc;go_enter Tryz.func32,Tryz.ntmps32
 go_wp2_with fail;refine HP2.out.mono ?_;rintro e w1 ⟨rfl,hk,hN⟩;have hkb:((k:Int) != 0)=true:=by rw [bne_iff_ne];omega
 have HNN:=hid hN;clear hN hk;go_wp2_with fail;go_ret2;exact ⟨rfl,(HNN.out.alloc' _)⟩
theorem PClose_nil (w:World):Calls Tryz.prog 20 #[.pointer none] w fun e w'=>e=.returned (.tuple #[.slice none 0 0,.int .i64 1])∧w=w':=by
 have hnil:=nil_eqP0;go_enter Tryz.func20,Tryz.ntmps20
 go_wp2_with fail;go_ret2;exact ⟨rfl,rfl⟩
set_option maxRecDepth 100000 in
theorem PCloseE_any (w:World) (g own:Nat) (xs:List Nat) (cl:Bool) (k:Nat) (hk:parseP xs=.error k) (h:Fed w g own xs cl) (hm:xs.length≤1000000000) (hx:∀ x∈xs,x < 256) (hG:Gl w) (hg:3≤g) :
  Calls Tryz.prog 20 #[.pointer (some ⟨g,0,none⟩)] w fun e w'=>e=.returned (.tuple #[.slice none 0 0,.int .i64 (k:Int)])∧Fed w' g own xs true∧Kp g g w w':=by
 obtain ⟨A,c,at_,p,h,hO,hne,hat,hp,hP⟩:=h;have hKs:Kp g g w (w.setCell ⟨g,5,none⟩ (.bool true)):=(Kp.refl g g w).setCell' (.inl rfl) _;have hOw:=hO.kp hKs hne hne;have hAn:A=none→c=0:=by
  intro h;rcases hO with ⟨_,_,h2,_⟩ | ⟨h1,_⟩
  ·exact h2
  ·rw [h] at h1;cases h1
 have HD:=hid (DecodeE_any _ own A xs.length c xs k hk rfl hOw.cap.1 hm hOw.rd hAn hx (hG.kp hKs hg hg));have H:=hid h;have HF:=hid (show ∀ W,Nw (w.setCell ⟨g,5,none⟩ (.bool true)) W→Fed W g own xs true from fun W hN=>⟨A,c,at_,p,(h.s5 true).nw hN,hOw.nw hN,hne,hat,hp,hP⟩);have HK:=hid hKs;have c0:=h.c0;have c5:=h.c5;have f5:=h.free 5;have hnil:=nil_eqP g;obtain ⟨n,hn⟩:∃ n,xs.length=n:=⟨_,rfl⟩;rw [hn] at HD c0;clear hO hAn hOw hKs h hP hp hx hat hk hm hn;go_enter Tryz.func20,Tryz.ntmps20
 go_wp2_with fail;refine HD.out.mono ?_;rintro e w1 ⟨rfl,hN⟩;have HN:=hid hN;clear hN;go_wp2_with fail;go_ret2;exact ⟨rfl,HF.out _ HN.out,HK.out.nw' HN.out⟩
theorem Fed.new {W:World} {g:Nat} (h:PcS W g none 0 0 0 0 0 false) (own:Nat) (hne:own≠g):Fed W g own [] false :=
 ⟨none,0,0,0,h,Ow.nil _ _ _ _,hne,Nat.le_refl _,rfl,prs_nil []⟩
theorem PLenF_any (w:World) (g own:Nat) (xs:List Nat) (cl:Bool) (h:Fed w g own xs cl) :
  Calls Tryz.prog 22 #[.pointer (some ⟨g,0,none⟩)] w fun e w'=>e=.returned (.int .i64 (xs.length:Int))∧w=w':=by
 obtain ⟨A,c,at_,p,h,-⟩:=h;exact PLen_any w g _ _ _ _ _ _ _ h
theorem PPartsF_any (w:World) (g own:Nat) (xs:List Nat) (cl:Bool) (h:Fed w g own xs cl) :
  Calls Tryz.prog 23 #[.pointer (some ⟨g,0,none⟩)] w fun e w'=>e=.returned (.int .i64 (partsP xs:Nat))∧w=w':=by
 obtain ⟨A,c,at_,p,h,-,-,-,rfl,-⟩:=h;exact PParts_any w g _ _ _ _ _ _ _ h
end
section
open Go Go.RowKit Go.Lib
theorem Fed.nw {W W':World} {g own:Nat} {xs:List Nat} {cl:Bool} (h:Fed W g own xs cl) (hN:Nw W W'):Fed W' g own xs cl:=by
 obtain ⟨A,c,a,p,h,hO,r⟩:=h;exact ⟨A,c,a,p,h.nw hN,hO.nw hN,r⟩
theorem par5:parseP [84,83,66,75,1]=.error 3:=by rfl
theorem rd_mark (w:World) (cs:Array Value) (q:Nat × Nat):Rd (w.alloc (.cells cs 5 q)) w.heap.size (some ⟨w.heap.size,0,none⟩) cs.toList:=by
 refine .inr ⟨0,rfl,by rw [World.size_alloc];omega,fun j v h=>?_⟩;have hb:=heap_alloc_new w (.cells cs 5 q);rw [Nat.zero_add];simp only [World.cell?,hb];simpa using h
set_option maxRecDepth 100000 in
set_option maxHeartbeats 2000000 in
theorem alive19_any (w:World) (hG:Gl w):Calls Tryz.prog 15 #[] w fun e w'=>e=.returned (.bool true)∧Nw w w':=by
 have HG:=hid hG;have hnil:=nil_eqP w.heap.size;have kc1:∀ W:World,(convert 22 22 (.slice (some ⟨W.heap.size,0,none⟩) 1 1)).run Tryz.prog (W.alloc (.cells #[.int .u8 84] 5))=.ok (.slice (some ⟨W.heap.size,0,none⟩) 1 1) (W.alloc (.cells #[.int .u8 84] 5 (1,2))):=fun W=>Lib.run_convert_bytes_const (P:=Tryz.prog) W 22 5 #[.int .u8 84] 1 1 Tryz.underlying22 Tryz.underlying5
 have kc4:∀ W:World,(convert 22 22 (.slice (some ⟨W.heap.size,0,none⟩) 4 4)).run Tryz.prog (W.alloc (.cells #[.int .u8 83,.int .u8 66,.int .u8 75,.int .u8 1] 5))=.ok (.slice (some ⟨W.heap.size,0,none⟩) 4 4) (W.alloc (.cells #[.int .u8 83,.int .u8 66,.int .u8 75,.int .u8 1] 5 (4,5))):=fun W=>Lib.run_convert_bytes_const (P:=Tryz.prog) W 22 5 #[.int .u8 83,.int .u8 66,.int .u8 75,.int .u8 1] 4 4 Tryz.underlying22 Tryz.underlying5
 clear hG;go_enter Tryz.func15,Tryz.ntmps15
 go_wp2_with fail;refine (PNew_any w).mono ?_;rintro e w1 ⟨rfl,h1,hN1⟩;have H1:=hid (Fed.new h1 (w.heap.size+1) (by omega));have HN1:=hid hN1;clear h1 hN1;go_wp2_with fail;have hg:=HG.out.lt;have hA1:Nw w1 (w1.alloc (.cells #[.int .u8 84] 5 (1,2))):=(Nw.refl w1).alloc' _;refine (PFeed_any _ w.heap.size (w.heap.size+1) w1.heap.size [] [84] (some ⟨w1.heap.size,0,none⟩) 1 1 (H1.out.nw hA1) (rd_mark w1 #[.int .u8 84] (1,2)) (by intro h;cases h) rfl (by decide) (by decide) ((HG.out.nw HN1.out).nw hA1) (by omega) (by omega)).mono ?_;rintro e w2 ⟨rfl,own2,h2,ho2,hK2⟩;have H2:=hid h2;have hN2:Nw w w2:=Kp.nw (HN1.out.trans hA1) hK2 (Nat.le_refl _) (by omega);have HN2:=hid hN2;have ho2':w.heap.size≤own2:=by
  have:=HN1.out.size;rcases ho2 with h | h
  ·omega
  ·simp only [World.size_alloc] at h;omega
 clear h2 hK2 hN2 hA1 ho2;go_wp2_with fail;have hA2:Nw w2 (w2.alloc (.cells #[.int .u8 83,.int .u8 66,.int .u8 75,.int .u8 1] 5 (4,5))):=(Nw.refl w2).alloc' _;refine (PFeed_any _ w.heap.size own2 w2.heap.size [84] [83,66,75,1] (some ⟨w2.heap.size,0,none⟩) 4 4 (H2.out.nw hA2) (rd_mark w2 #[.int .u8 83,.int .u8 66,.int .u8 75,.int .u8 1] (4,5)) (by intro h;cases h) rfl (by decide) (by decide) ((HG.out.nw HN2.out).nw hA2) (by omega) (by omega)).mono ?_;rintro e w3 ⟨rfl,own3,h3,ho3,hK3⟩;have H3:=hid h3;have hN3:Nw w w3:=Kp.nw (HN2.out.trans hA2) hK3 (Nat.le_refl _) ho2';have HN3:=hid hN3;have ho3':w.heap.size≤own3:=by
  have:=HN2.out.size;rcases ho3 with h | h
  ·omega
  ·simp only [World.size_alloc] at h;omega
 clear h3 hK3 hN3 hA2 ho3 kc1 kc4;go_wp2_with fail;refine (PLenF_any w3 w.heap.size own3 _ false H3.out).mono ?_;rintro e w4 ⟨rfl,rfl⟩;go_wp2_with fail;refine (PPartsF_any w3 w.heap.size own3 _ false H3.out).mono ?_;rintro e w4 ⟨rfl,rfl⟩;have h51:((partsP ([84]++[83,66,75,1]):Nat):Int)=1:=by rfl
 rw [h51];go_wp2_with fail;refine (PCloseE_any w3 w.heap.size own3 _ false 3 par5 H3.out (by decide) (by decide) (HG.out.nw HN3.out) (by omega)).mono ?_;rintro e w4 ⟨rfl,h4,hK4⟩;have H4:=hid h4;have HN4:=hid (Kp.nw HN3.out hK4 (Nat.le_refl _) (Nat.le_refl _));clear h4 hK4;go_wp2_with fail;refine (PFeed_closed w4 w.heap.size own3 _ none 0 0 H4.out).mono ?_;rintro e w5 ⟨rfl,rfl⟩;go_wp2_with fail;go_ret;exact ⟨rfl,HN4.out⟩
end
section
open Go Go.RowKit Go.Lib
set_option maxRecDepth 100000 in
theorem PieceNil_any (w:World) (A:Option Addr) (n c:Nat) (hG:Gl w):Calls Tryz.prog 8 #[.slice A n c] w fun e w'=>e=.returned (.bool true)∧Nw w w':=by
 have HG:=hid hG;clear hG;go_enter Tryz.func8,Tryz.ntmps8
 go_wp2_with fail;refine (PFeed_nil w A n c).mono ?_;rintro e w1 ⟨rfl,rfl⟩;go_wp2_with fail;refine (PClose_nil w).mono ?_;rintro e w1 ⟨rfl,rfl⟩;go_wp2_with fail;refine (alive19_any w HG.out).mono ?_;rintro e w1 ⟨rfl,hN⟩;have HN:=hid hN;clear hN;go_wp2_with fail;refine (PLen_nil w1).mono ?_;rintro e w2 ⟨rfl,rfl⟩;go_wp2_with fail;refine (PParts_nil w1).mono ?_;rintro e w2 ⟨rfl,rfl⟩;go_wp2_with fail;refine (PErr_nil w1).mono ?_;rintro e w2 ⟨rfl,rfl⟩;go_wp2_with fail;go_ret;exact ⟨rfl,HN.out⟩
end
end Go.Proofs.YtmmonehfnfbpbaaGreatDoor
