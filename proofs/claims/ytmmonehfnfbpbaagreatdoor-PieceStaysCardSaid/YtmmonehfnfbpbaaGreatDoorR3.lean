/- Laws that the last text builds on. -/
import Derived.Test.YtmmonehfnfbpbaaGreatDoorR2
namespace Go.Proofs.YtmmonehfnfbpbaaGreatDoor
open Go.Lib(hid)
section
open Go Go.RowKit Go.Sort
def DecB (W:World) (g last:Nat) (win:Win) (gr err:Nat):Prop :=
 ∃ a n:Int,winOf win=winV a n∧W.heap[g]? = some (.cells #[.int .u64 (last:Int),.int .i64 a,.int .i64 n,.pointer (some ⟨gr,0,none⟩),.int .i64 (err:Int)] 359 (0,0))
theorem DecB.same {W W':World} {g last gr err:Nat} {win:Win} (h:DecB W g last win gr err) (e:W'.heap[g]? = W.heap[g]?):DecB W' g last win gr err:=by
 obtain ⟨a,n,h1,h2⟩:=h;exact ⟨a,n,h1,e.trans h2⟩
theorem DecB.lt {W:World} {g last gr err:Nat} {win:Win} (h:DecB W g last win gr err):g < W.heap.size:=by
 obtain ⟨a,n,h1,h2⟩:=h;exact lt_of_block h2
structure DecS (W:World) (g last:Nat) (win:Win) (err gr b:Nat) (bytes:List Nat) (r:List Bool):Prop where
 dec:DecB W g last win gr err
 rdr:∃ pos,Rdr W gr b bytes pos∧rest bytes pos=r
 n1:g≠gr
 n2:b≠g
theorem DecS.nw {W W':World} {g last err gr b:Nat} {win:Win} {bytes:List Nat} {r:List Bool} (h:DecS W g last win err gr b bytes r) (hN:Nw W W'):DecS W' g last win err gr b bytes r:=by
 obtain ⟨h1,⟨pos,h2,h3⟩,h4,h5⟩:=h;exact ⟨h1.same (hN.block g h1.lt),⟨pos,h2.nw hN,h3⟩,h4,h5⟩
def dbits (err:Nat) (r:List Bool) (n:Nat):Nat × Nat × List Bool:=if err≠0 then (0,err,r) else if r.length < n then (0,3,r) else (bv (r.take n),0,r.drop n)
theorem dbits_any (w:World) (g last err gr b:Nat) (win:Win) (bytes:List Nat) (r:List Bool) (n:Nat) (h:DecS w g last win err gr b bytes r) (hn:n≤64) :
  Calls Tryz.prog 262 #[.pointer (some ⟨g,0,none⟩),.int .i64 (n:Int)] w fun e w'=>e=.returned (.int .u64 ((dbits err r n).1:Int))∧DecS w' g last win (dbits err r n).2.1 gr b bytes (dbits err r n).2.2∧Kp g gr w w':=by
 obtain ⟨⟨a,m,hw,hb⟩,⟨pos,hR,hr⟩,n1,n2⟩:=h;have hgl:=lt_of_block hb;have hc3:w.cell? ⟨g,3,none⟩=some (.pointer (some ⟨gr,0,none⟩)):=by simp [World.cell?,hb]
 have hc4:w.cell? ⟨g,4,none⟩=some (.int .i64 (err:Int)):=by simp [World.cell?,hb]
 by_cases he:err=0
 ·subst he;have hlen:r.length=8*bytes.length - pos:=by rw [← hr];exact rest_length bytes pos
  have hwi:=hR.within;have HB:=hid hb;by_cases hfit:r.length < n
  ·have H:=hid (RBits_eof w gr b bytes pos n hR hn (by omega));have HR:=hid hR;have hd:dbits 0 r n=(0,3,r):=by unfold dbits;rw [if_neg (by simp),if_pos hfit]
   rw [hd];clear hR hb hd;go_enter Tryz.func262,Tryz.ntmps262
   go_wp2_with fail;refine H.out.mono ?_;rintro e w1 ⟨rfl,hD⟩;have hb1:=(hD.nw.block g hgl).trans HB.out;have hc41:w1.cell? ⟨g,4,none⟩=some (.int .i64 0):=by simp [World.cell?,hb1]
   have hf41:w1.frozen? ⟨g,4,none⟩=false:=by simp [World.frozen?,hb1]
   have HB1:=hid hb1;clear hb1;go_wp2;go_ret;have hk:Kp g gr w1 (w1.setCell ⟨g,4,none⟩ (.int .i64 3)):=(Kp.refl g gr w1).setCell' (p:=⟨g,4,none⟩) (.inl rfl) _;have hkg:Kp g g w1 (w1.setCell ⟨g,4,none⟩ (.int .i64 3)):=(Kp.refl g g w1).setCell' (p:=⟨g,4,none⟩) (.inl rfl) _;refine ⟨rfl,⟨⟨a,m,hw,by simp [World.setCell,Array.getElem?_modify,HB1.out]⟩,⟨pos,(HR.out.nw hD.nw).kp hkg (Ne.symm n1) (Ne.symm n1) n2 n2,hr⟩,n1,n2⟩,(hD.nw.kp g gr).trans hk (.inl rfl) (.inr (.inl rfl))⟩
  ·have H:=hid (RBits_ok w gr b bytes pos n hR hn (by omega));have hd:dbits 0 r n=(bv (r.take n),0,r.drop n):=by unfold dbits;rw [if_neg (by simp),if_neg hfit]
   have hdr:Hid (rest bytes (pos+n)=r.drop n):=hid (by rw [← hr];simp [rest]);rw [hd];rw [hr] at H;clear hR hb hd;go_enter Tryz.func262,Tryz.ntmps262
   go_wp2_with fail;refine H.out.mono ?_;rintro e w1 ⟨rfl,hR1,hK⟩;have hb1:=(hK.block g hgl n1 n1).trans HB.out;have hc41:w1.cell? ⟨g,4,none⟩=some (.int .i64 0):=by simp [World.cell?,hb1]
   have hf41:w1.frozen? ⟨g,4,none⟩=false:=by simp [World.frozen?,hb1]
   have HB1:=hid hb1;have HR1:=hid hR1;have HK:=hid hK;clear hb1 hR1 hK;go_wp2;go_ret;have hk:Kp g gr w1 (w1.setCell ⟨g,4,none⟩ (.int .i64 0)):=(Kp.refl g gr w1).setCell' (p:=⟨g,4,none⟩) (.inl rfl) _;have hkg:Kp g g w1 (w1.setCell ⟨g,4,none⟩ (.int .i64 0)):=(Kp.refl g g w1).setCell' (p:=⟨g,4,none⟩) (.inl rfl) _;refine ⟨rfl,⟨⟨a,m,hw,by simp [World.setCell,Array.getElem?_modify,HB1.out]⟩,⟨pos+n,HR1.out.kp hkg (Ne.symm n1) (Ne.symm n1) n2 n2,hdr.out⟩,n1,n2⟩,?_⟩;exact Kp.trans (Kp.trans (Kp.refl g gr w) HK.out (.inr (.inl rfl)) (.inr (.inl rfl))) hk (.inl rfl) (.inr (.inl rfl))
 ·have hd:dbits err r n=(0,err,r):=by unfold dbits;rw [if_pos he]
  rw [hd];have he':((err:Int) == 0)=false:=by rw [beq_eq_false_iff_ne];omega
  have HS:Hid (DecS w g last win err gr b bytes r):=hid ⟨⟨a,m,hw,hb⟩,⟨pos,hR,hr⟩,n1,n2⟩;clear hb hR hd;go_enter Tryz.func262,Tryz.ntmps262
  go_wp2;go_ret;exact ⟨rfl,HS.out,Kp.refl _ _ _⟩
theorem check_any (w:World) (g last err gr b:Nat) (win:Win) (bytes:List Nat) (r:List Bool) (ok:Bool) (h:DecS w g last win err gr b bytes r) :
  Calls Tryz.prog 303 #[.pointer (some ⟨g,0,none⟩),.bool ok] w fun e w'=>e=.returned (.tuple #[])∧DecS w' g last win (if err=0∧ok=false then 8 else err) gr b bytes r∧Kp g g w w':=by
 have HS:=hid h;obtain ⟨⟨a,m,hw,hb⟩,⟨pos,hR,hr⟩,n1,n2⟩:=h;have hgl:=lt_of_block hb;have hc4:w.cell? ⟨g,4,none⟩=some (.int .i64 (err:Int)):=by simp [World.cell?,hb]
 have hf4:w.frozen? ⟨g,4,none⟩=false:=by simp [World.frozen?,hb]
 have HB:=hid hb;have HR:=hid hR;clear hb hR;by_cases he:err=0
 ·subst he;cases ok
  ·go_enter Tryz.func303,Tryz.ntmps303
   go_wp2;go_end0
   have hkg:Kp g g w (w.setCell ⟨g,4,none⟩ (.int .i64 8)):=(Kp.refl g g w).setCell' (p:=⟨g,4,none⟩) (.inl rfl) _;refine ⟨rfl,⟨⟨a,m,hw,by simp [World.setCell,Array.getElem?_modify,HB.out]⟩,⟨pos,HR.out.kp hkg (Ne.symm n1) (Ne.symm n1) n2 n2,hr⟩,n1,n2⟩,hkg⟩
  ·go_enter Tryz.func303,Tryz.ntmps303
   go_wp2;go_end0
   exact ⟨rfl,by simpa using HS.out,Kp.refl _ _ _⟩
 ·have he':((err:Int) == 0)=false:=by rw [beq_eq_false_iff_ne];omega
  rw [if_neg (fun h=>he h.1)];go_enter Tryz.func303,Tryz.ntmps303
  go_wp2;go_end0
  exact ⟨rfl,HS.out,Kp.refl _ _ _⟩
theorem dbits_lt (err:Nat) (r:List Bool) (n:Nat):(dbits err r n).1 < 2 ^ n:=by
 unfold dbits;split
 ·exact Nat.pow_pos (by omega)
 ·split
  ·exact Nat.pow_pos (by omega)
  ·rename_i h
   exact (bits_take (by omega)).2
theorem Rdr.blt' {w:World} {g b:Nat} {bytes:List Nat} {pos:Nat} (h:Rdr w g b bytes pos):bytes=[]∨b < w.heap.size:=by
 obtain ⟨⟨A,c,hb,hr⟩,h2,h3,h4,h5⟩:=h;rcases hr with hr | ⟨o,_,hlt,_⟩
 ·exact .inl (by simpa using hr)
 ·exact .inr hlt
theorem Rdr.off {w w':World} {g b k k':Nat} {bytes:List Nat} {pos:Nat} (h:Rdr w g b bytes pos) (hk:Kp k k' w w') (e1:g≠k) (e2:g≠k') (e3:bytes=[]∨(b≠k∧b≠k')):Rdr w' g b bytes pos:=by
 rcases e3 with rfl | ⟨e3,e4⟩
 ·have hlt:=h.lt;obtain ⟨⟨A,c,hb,hr⟩,h2,h3,h4,h5⟩:=h;exact ⟨⟨A,c,(hk.block g hlt e1 e2).trans hb,Rd.nil _ _ _⟩,h2,h3,h4,h5⟩
 ·exact h.kp hk e1 e2 e3 e4
theorem DecS.off {W W':World} {g last err gr b k k':Nat} {win:Win} {bytes:List Nat} {r:List Bool} (h:DecS W g last win err gr b bytes r) (hk:Kp k k' W W') (e1:g≠k) (e2:g≠k') (e3:gr≠k) (e4:gr≠k') (e5:bytes=[]∨(b≠k∧b≠k')):DecS W' g last win err gr b bytes r:=by
 obtain ⟨h1,⟨pos,h2,h3⟩,h4,h5⟩:=h;exact ⟨h1.same (hk.block g h1.lt e1 e2),⟨pos,h2.off hk e3 e4 e5,h3⟩,h4,h5⟩
theorem DecS.blt {W:World} {g last err gr b:Nat} {win:Win} {bytes:List Nat} {r:List Bool} (h:DecS W g last win err gr b bytes r):(bytes=[]∨b < W.heap.size)∧gr < W.heap.size∧g < W.heap.size:=by
 have hg:=h.dec.lt;obtain ⟨h1,⟨pos,h2,h3⟩,h4,h5⟩:=h;exact ⟨h2.blt',h2.lt,hg⟩
theorem fresh_any (w:World) (g last err gr b:Nat) (win:Win) (bytes:List Nat) (r:List Bool) (h:DecS w g last win err gr b bytes r) (v1 e1 v2 e2:Nat) (r1 r2:List Bool) (h1:dbits err r 6=(v1,e1,r1)) (h2:dbits e1 r1 6=(v2,e2,r2)) :
  Calls Tryz.prog 302 #[.pointer (some ⟨g,0,none⟩)] w fun e w'=>e=.returned (winV (v1:Int) ((v2+1:Nat):Int))∧DecS w' g last win (if e2=0∧63 < v1+v2 then 8 else e2) gr b bytes r2∧Kp g gr w w':=by
 have hv1:=dbits_lt err r 6;have hv2:=dbits_lt e1 r1 6;rw [h1] at hv1;rw [h2] at hv2;simp only [Nat.reducePow] at hv1 hv2;generalize hE:(if e2=0∧63 < v1+v2 then 8 else e2)=E;have HE:=hid hE;clear hE;obtain ⟨hbl,hgr,hgl⟩:=h.blt;have n1:=h.n1;have H1:=hid fun W (hN:Nw w W)=>dbits_any W g last err gr b win bytes r 6 (h.nw hN) (by omega)
 have H2:=hid fun W (hS:DecS W g last win e1 gr b bytes r1)=>dbits_any W g last e1 gr b win bytes r1 6 hS (by omega)
 have H3:=hid fun W ok (hS:DecS W g last win e2 gr b bytes r2)=>check_any W g last e2 gr b win bytes r2 ok hS
 rw [h1] at H1;rw [h2] at H2;simp only at H1 H2;clear h h1 h2;go_enter Tryz.func302,Tryz.ntmps302
 go_wp2_with fail;refine (H1.out _ ((Nw.refl w).alloc' _)).mono ?_;rintro e w1 ⟨rfl,hS1,hK1⟩;have hc0:w1.heap[w.heap.size]? = some (.cells #[.int .i64 0,.int .i64 0] 355):=(hK1.block _ (by simp) (by omega) (by omega)).trans (heap_alloc_new w _);have hk1:Kp g gr w w1:=(((Nw.refl w).alloc' _).kp g gr).trans hK1 (.inl rfl) (.inr (.inl rfl));have hs1:=hk1.size;have hs1':w.heap.size < w1.heap.size:=lt_of_block hc0;have HS1:=hid hS1;have HK1:=hid hk1;have HC0:=hid hc0;clear hS1 hK1 hc0 hk1;go_wp2_with fail;refine (H2.out _ (HS1.out.nw ((Nw.refl w1).alloc' _))).mono ?_;rintro e w2 ⟨rfl,hS2,hK2⟩;have hc2:w2.heap[w1.heap.size]? = some (.cells #[.int .i64 (v1:Int),.int .i64 0] 355):=(hK2.block _ (by simp) (by omega) (by omega)).trans (heap_alloc_new w1 _);have hc0:w2.heap[w.heap.size]? = some (.cells #[.int .i64 0,.int .i64 0] 355):=(hK2.block _ (by simp;omega) (by omega) (by omega)).trans ((Below.heap_alloc w1 _ _ (by omega)).trans HC0.out);have hk2:Kp g gr w w2:=(HK1.out.alloc' _).trans hK2 (.inl rfl) (.inr (.inl rfl));have hd1:w2.cell? ⟨w1.heap.size,0,none⟩=some (.int .i64 (v1:Int)):=by simp [World.cell?,hc2]
 have hd2:w2.cell? ⟨w1.heap.size,1,none⟩=some (.int .i64 0):=by simp [World.cell?,hc2]
 have hd3:w2.frozen? ⟨w1.heap.size,1,none⟩=false:=by simp [World.frozen?,hc2]
 have HC2:=hid hc2;have HC0':=hid hc0;have HK2:=hid hk2;have hkw:Kp w1.heap.size w1.heap.size w2 (w2.setCell ⟨w1.heap.size,1,none⟩ (.int .i64 ((v2:Int)+1))):=(Kp.refl _ _ _).setCell' (p:=⟨w1.heap.size,1,none⟩) (.inl rfl) _;have HS2:=hid (hS2.off hkw (by omega) (by omega) (by omega) (by omega) (by rcases hbl with h | h;exact .inl h;right;omega));have HKW:=hid hkw;clear hS2 hK2 hc2 hc0 hk2 hkw;go_wp2_with fail;refine (H3.out _ _ HS2.out).mono ?_;rintro e w4 ⟨rfl,hS4,hK4⟩;have hb4:w4.heap[w1.heap.size]? = some (.cells #[.int .i64 (v1:Int),.int .i64 ((v2:Int)+1)] 355):=(hK4.block _ (by have:=HKW.out.size;have:=lt_of_block HC2.out;omega) (by omega) (by omega)).trans (by simp [World.setCell,Array.getElem?_modify,HC2.out]);have hb0:w4.heap[w.heap.size]? = some (.cells #[.int .i64 0,.int .i64 0] 355):=(hK4.block _ (by have:=HKW.out.size;have:=lt_of_block HC2.out;omega) (by omega) (by omega)).trans ((HKW.out.block _ (lt_of_block HC0'.out) (by omega) (by omega)).trans HC0'.out);have he1:w4.cell? ⟨w1.heap.size,0,none⟩=some (.int .i64 (v1:Int)):=by simp [World.cell?,hb4]
 have he2:w4.cell? ⟨w1.heap.size,1,none⟩=some (.int .i64 ((v2:Int)+1)):=by simp [World.cell?,hb4]
 have hf1:w4.cell? ⟨w.heap.size,0,none⟩=some (.int .i64 0):=by simp [World.cell?,hb0]
 have hf2:w4.cell? ⟨w.heap.size,1,none⟩=some (.int .i64 0):=by simp [World.cell?,hb0]
 have hf3:w4.frozen? ⟨w.heap.size,0,none⟩=false:=by simp [World.frozen?,hb0]
 have hf4:w4.frozen? ⟨w.heap.size,1,none⟩=false:=by simp [World.frozen?,hb0]
 have HB0:=hid hb0;have HS4:=hid hS4;have HK4:=hid hK4;clear hb4 hb0 hS4 hK4;go_wp2;have hfin:Hid (((w4.setCell ⟨w.heap.size,0,none⟩ (.int .i64 (v1:Int))).setCell ⟨w.heap.size,1,none⟩ (.int .i64 ((v2:Int)+1))).heap[w.heap.size]? = some (.cells #[.int .i64 (v1:Int),.int .i64 ((v2:Int)+1)] 355 (0,0))):=hid (by simp [World.setCell,Array.getElem?_modify,HB0.out]);refine bodyPost_ret (results_cell_row rfl _ _ w.heap.size 355 _ _ _ rfl hfin.out Tryz.underlying355 rfl (by kernel_rfl)) rfl ?_;have hee:(if e2=0∧decide ((v1:Int)+((v2:Int)+1)≤64)=false then 8 else e2)=E:=by
  rw [← HE.out];congr 1
  rw [decide_eq_false_iff_not];apply propext
  constructor<;>(rintro ⟨x,y⟩;exact ⟨x,by omega⟩)
 have hS4:=HS4.out;rw [hee] at hS4;have hkf:Kp w.heap.size w.heap.size w4 ((w4.setCell ⟨w.heap.size,0,none⟩ (.int .i64 (v1:Int))).setCell ⟨w.heap.size,1,none⟩ (.int .i64 ((v2:Int)+1))):=((Kp.refl _ _ _).setCell' (p:=⟨w.heap.size,0,none⟩) (.inl rfl) _).setCell' (p:=⟨w.heap.size,1,none⟩) (.inl rfl) _;refine ⟨rfl,hS4.off hkf (by omega) (by omega) (by omega) (by omega) (by rcases hbl with h | h;exact .inl h;right;omega),?_⟩;have k1:Kp g gr w (w2.setCell ⟨w1.heap.size,1,none⟩ (.int .i64 ((v2:Int)+1))):=HK2.out.trans HKW.out (.inr (.inr hs1)) (.inr (.inr hs1));exact (k1.trans HK4.out (.inl rfl) (.inl rfl)).trans hkf (.inr (.inr (Nat.le_refl _))) (.inr (.inr (Nat.le_refl _)))
end
section
open Go Go.RowKit Go.Sort
def DGot (w:World) (g gr b:Nat) (bytes:List Nat) (X:Except Nat (Nat × Win × List Bool)) (e:Ending) (w':World):Prop :=
 (match X with
  | .ok (v,win,r)=>e=.returned (.int .u64 (v:Int))∧DecS w' g v win 0 gr b bytes r
  | .error k=>(∃ v:Nat,e=.returned (.int .u64 (v:Int)))∧∃ last win r,DecS w' g last win k gr b bytes r)∧Kp g gr w w'
theorem cell_skip {w:World} {p a:Addr} {u v:Value} (h:a.block≠p.block) (hc:w.cell? a=some v):(w.setCell p u).cell? a=some v :=
 (World.cell?_of_block (Below.heap_setCell w p u a.block h)).trans hc
theorem check_err (w:World) (g last err gr b:Nat) (win:Win) (bytes:List Nat) (r:List Bool) (ok:Bool) (h:DecS w g last win err gr b bytes r) (he:err≠0) :
  Calls Tryz.prog 303 #[.pointer (some ⟨g,0,none⟩),.bool ok] w fun e w'=>e=.returned (.tuple #[])∧DecS w' g last win err gr b bytes r∧Kp g g w w'∧w'.cell? ⟨g,4,none⟩=some (.int .i64 (err:Int)):=by
 have h1:=check_any w g last err gr b win bytes r ok h;rw [if_neg (fun h=>he h.1)] at h1;refine h1.mono ?_;rintro e w' ⟨h1,h2,h3⟩;obtain ⟨a,n,_,hb⟩:=h2.dec;exact ⟨h1,h2,h3,by simp [World.cell?,hb]⟩
theorem check_true (w:World) (g last gr b:Nat) (win:Win) (bytes:List Nat) (r:List Bool) (h:DecS w g last win 0 gr b bytes r) :
  Calls Tryz.prog 303 #[.pointer (some ⟨g,0,none⟩),.bool true] w fun e w'=>e=.returned (.tuple #[])∧DecS w' g last win 0 gr b bytes r∧Kp g g w w'∧w'.cell? ⟨g,4,none⟩=some (.int .i64 0):=by
 have h1:=check_any w g last 0 gr b win bytes r true h;rw [if_neg (fun h=>by cases h.2)] at h1;refine h1.mono ?_;rintro e w' ⟨h1,h2,h3⟩;obtain ⟨a,n,_,hb⟩:=h2.dec;exact ⟨h1,h2,h3,by simp [World.cell?,hb]⟩
theorem check_false (w:World) (g last gr b:Nat) (win:Win) (bytes:List Nat) (r:List Bool) (h:DecS w g last win 0 gr b bytes r) :
  Calls Tryz.prog 303 #[.pointer (some ⟨g,0,none⟩),.bool false] w fun e w'=>e=.returned (.tuple #[])∧DecS w' g last win 8 gr b bytes r∧Kp g g w w'∧w'.cell? ⟨g,4,none⟩=some (.int .i64 8):=by
 have h1:=check_any w g last 0 gr b win bytes r false h;rw [if_pos ⟨rfl,rfl⟩] at h1;refine h1.mono ?_;rintro e w' ⟨h1,h2,h3⟩;obtain ⟨a,n,_,hb⟩:=h2.dec;exact ⟨h1,h2,h3,by simp [World.cell?,hb]⟩
theorem dbits_one (x:Bool) (r:List Bool):dbits 0 (x::r) 1=(b2n x,0,r):=by
 unfold dbits;rw [if_neg (by simp),if_neg (by simp)];cases x<;>rfl
theorem dget_zero (w:World) (g last gr b:Nat) (win:Win) (bytes:List Nat) (r:List Bool) (h:DecS w g last win 0 gr b bytes r) (hr:∀ r',r≠true::r') :
  Calls Tryz.prog 263 #[.pointer (some ⟨g,0,none⟩)] w (DGot w g gr b bytes (xget1 last win r)):=by
 have H:Hid (Calls Tryz.prog 262 #[.pointer (some ⟨g,0,none⟩),.int .i64 1] w fun e w'=>e=.returned (.int .u64 0)∧DGot w g gr b bytes (xget1 last win r) (.returned (.int .u64 (last:Int))) w'∧w'.cell? ⟨g,0,none⟩=some (.int .u64 (last:Int))):=by
  refine hid ((dbits_any w g last 0 gr b win bytes r 1 h (by omega)).mono ?_);rintro e w' ⟨rfl,hS,hK⟩;have hc:w'.cell? ⟨g,0,none⟩=some (.int .u64 (last:Int)):=by
   obtain ⟨a,n,_,hb⟩:=hS.dec;simp [World.cell?,hb]
  match r,hr,hS with
  | [],_,hS=>exact ⟨rfl,⟨⟨⟨last,rfl⟩,last,win,[],hS⟩,hK⟩,hc⟩
  | false::r',_,hS =>
   rw [dbits_one] at hS;exact ⟨by rw [dbits_one];rfl,⟨⟨rfl,hS⟩,hK⟩,hc⟩
  | true::r',hr,_=>exact (hr r' rfl).elim
 clear h hr;generalize xget1 last win r=X at *;go_enter Tryz.func263,Tryz.ntmps263
 go_wp2_with fail;refine H.out.mono ?_;rintro e w1 ⟨rfl,hS,hc⟩;go_wp2;go_ret;exact hS
theorem DecS.setLast {W:World} {g last err gr b:Nat} {win:Win} {bytes:List Nat} {r:List Bool} (h:DecS W g last win err gr b bytes r) (Y:Nat):DecS (W.setCell ⟨g,0,none⟩ (.int .u64 (Y:Int))) g Y win err gr b bytes r∧Kp g g W (W.setCell ⟨g,0,none⟩ (.int .u64 (Y:Int))):=by
 have hk:Kp g g W (W.setCell ⟨g,0,none⟩ (.int .u64 (Y:Int))):=(Kp.refl _ _ _).setCell' (p:=⟨g,0,none⟩) (.inl rfl) _;obtain ⟨⟨a,n,h1,hb⟩,⟨pos,h2,h3⟩,h4,h5⟩:=h;exact ⟨⟨⟨a,n,h1,by simp [World.setCell,Array.getElem?_modify,hb]⟩,⟨pos,h2.kp hk (Ne.symm h4) (Ne.symm h4) h5 h5,h3⟩,h4,h5⟩,hk⟩
theorem DecS.last {W:World} {g last err gr b:Nat} {win:Win} {bytes:List Nat} {r:List Bool} (h:DecS W g last win err gr b bytes r):W.cell? ⟨g,0,none⟩=some (.int .u64 (last:Int))∧W.frozen? ⟨g,0,none⟩=false:=by
 obtain ⟨a,n,h1,hb⟩:=h.dec;exact ⟨by simp [World.cell?,hb],by simp [World.frozen?,hb]⟩
theorem DecS.setWin {W:World} {g last err gr b:Nat} {win:Win} {bytes:List Nat} {r:List Bool} (h:DecS W g last win err gr b bytes r) (a n c:Nat) (hn:n+a+c=64) :
  DecS ((W.setCell ⟨g,1,none⟩ (.int .i64 (a:Int))).setCell ⟨g,2,none⟩ (.int .i64 (n:Int))) g last (some (a,c)) err gr b bytes r∧Kp g g W ((W.setCell ⟨g,1,none⟩ (.int .i64 (a:Int))).setCell ⟨g,2,none⟩ (.int .i64 (n:Int))):=by
 have hk:Kp g g W ((W.setCell ⟨g,1,none⟩ (.int .i64 (a:Int))).setCell ⟨g,2,none⟩ (.int .i64 (n:Int))):=((Kp.refl _ _ _).setCell' (p:=⟨g,1,none⟩) (.inl rfl) _).setCell' (p:=⟨g,2,none⟩) (.inl rfl) _;obtain ⟨⟨a0,n0,h1,hb⟩,⟨pos,h2,h3⟩,h4,h5⟩:=h;refine ⟨⟨⟨a,n,?_,by simp [World.setCell,Array.getElem?_modify,hb]⟩,⟨pos,h2.kp hk (Ne.symm h4) (Ne.symm h4) h5 h5,h3⟩,h4,h5⟩,hk⟩;show winV a ((64 - a - c:Nat):Int)=_
 rw [show 64 - a - c=n from by omega]
theorem DecS.winc {W:World} {g last err gr b:Nat} {win:Win} {bytes:List Nat} {r:List Bool} (h:DecS W g last win err gr b bytes r):∃ a n:Int,W.cell? ⟨g,1,none⟩=some (.int .i64 a)∧W.cell? ⟨g,2,none⟩=some (.int .i64 n)∧W.frozen? ⟨g,1,none⟩=false∧W.frozen? ⟨g,2,none⟩=false:=by
 obtain ⟨a,n,h1,hb⟩:=h.dec;exact ⟨a,n,by simp [World.cell?,hb],by simp [World.cell?,hb],by simp [World.frozen?,hb],by simp [World.frozen?,hb]⟩
theorem DecS.errc {W:World} {g last err gr b:Nat} {win:Win} {bytes:List Nat} {r:List Bool} (h:DecS W g last win err gr b bytes r):W.cell? ⟨g,4,none⟩=some (.int .i64 (err:Int)):=by
 obtain ⟨a,n,h1,hb⟩:=h.dec;simp [World.cell?,hb]
theorem dbits_ok {r:List Bool} {n:Nat} (h:n≤r.length):dbits 0 r n=(bv (r.take n),0,r.drop n):=by
 unfold dbits;rw [if_neg (by simp),if_neg (by omega)]
theorem dbits_eof {r:List Bool} {n:Nat} (h:r.length < n):dbits 0 r n=(0,3,r):=by
 unfold dbits;rw [if_neg (by simp),if_pos h]
def act3 (g k v2:Nat) (a0 n0:Int):Act:={ tmps:=#[.pointer (some ⟨g,0,none⟩),undef,.int .u64 0,.pointer (some ⟨k,0,none⟩),.bool ((v2:Int) == 1),undef,.pointer (some ⟨g,0,none⟩),.int .u64 1,.bool false,undef,undef,undef,undef,undef,.pointer (some ⟨g,0,none⟩),.pointer (some ⟨g,0,none⟩),.pointer (some ⟨g,0,none⟩),.pointer (some ⟨g,1,none⟩),.agg #[.int .i64 a0,.int .i64 n0],.pointer (some ⟨g,0,none⟩),.int .u64 (v2:Int),.bool ((v2:Int) == 1),undef,undef,undef,undef,undef,undef,undef,undef,undef,undef,undef,undef,undef,undef,undef,undef,undef,undef,undef,undef,undef,undef,undef,undef,undef,undef,undef,undef,undef,undef,undef,undef,undef,undef,undef,undef,undef,undef,undef,undef,undef,undef,undef,undef,undef,undef,undef,undef,undef,undef,undef,undef,undef,undef,undef,undef,undef,undef,undef,undef,undef,undef,undef,undef,undef,undef],defers:=[] }
set_option maxRecDepth 100000 in
set_option maxHeartbeats 8000000 in
theorem dget_true (w:World) (g last gr b:Nat) (win:Win) (bytes:List Nat) (r:List Bool) (h:DecS w g last win 0 gr b bytes (true::r)) (hG:Gl w) (hw:WinOk win) (hl:last < 18446744073709551616) (hg2:3≤g) (hgr2:3≤gr) :
  Calls Tryz.prog 263 #[.pointer (some ⟨g,0,none⟩)] w (DGot w g gr b bytes (xget1 last win (true::r))):=by
 have hd1:Hid (∃ a n:Int,winOf win=winV a n):=hid (by obtain ⟨a,n,h1,_⟩:=h.dec;exact ⟨a,n,h1⟩);obtain ⟨a0,n0,hwv⟩:=hd1.out;have HWV:=hid hwv;have HC:Hid (∀ (W:World) (e2:Nat) (R:List Bool),DecS W g last win e2 gr b bytes R→W.cell? ⟨g,1,none⟩=some (.int .i64 a0)∧W.cell? ⟨g,2,none⟩=some (.int .i64 n0)):=by
  refine hid ?_;intro W e2 R hS;obtain ⟨a,n,h1,hb⟩:=hS.dec;rw [hwv] at h1;injection h1 with e;injection e with e;injection e with e1 e2;injection e2 with e2 _;injection e1 with _ e1;injection e2 with _ e2
  subst e1 e2;exact ⟨by simp [World.cell?,hb],by simp [World.cell?,hb]⟩
 have HB1:=hid (dbits_any w g last 0 gr b win bytes (true::r) 1 h (by omega));simp only [dbits_one] at HB1;obtain ⟨v2,e2,r2,hv⟩:∃ v2 e2 r2,dbits 0 r 1=(v2,e2,r2):=⟨_,_,_,rfl⟩;have HV:=hid hv;have HB:=hid fun W (hS:DecS W g last win 0 gr b bytes r)=>dbits_any W g last 0 gr b win bytes r 1 hS (by omega)
 rw [hv] at HB;simp only at HB;have HG:=hid hG;obtain ⟨hbl,hgr,hgl⟩:=h.blt;have n1:=h.n1;clear h hG hv hwv hd1;go_enter Tryz.func263,Tryz.ntmps263
 go_wp2_with fail;refine HB1.out.mono ?_;rintro e w1 ⟨rfl,hS1,hK1⟩;have e1:((b2n true:Nat):Int)=1:=rfl;rw [e1];have hs1:=hK1.size;obtain ⟨hc1,hc2⟩:=HC.out _ _ _ hS1;have HS1:=hid hS1;have HK1:=hid hK1;clear hS1 hK1 HB1 e1;have hgw1:g < w1.heap.size:=by omega
 have hne1:g≠w1.heap.size:=by omega
 have HB2:Hid (∀ W,Nw w1 W→Calls Tryz.prog 262 #[.pointer (some ⟨g,0,none⟩),.int .i64 1] W fun e w'=>e=.returned (.int .u64 (v2:Int))∧w'.cell? ⟨g,1,none⟩=some (.int .i64 a0)∧w'.cell? ⟨g,2,none⟩=some (.int .i64 n0) ∧
   (w1.heap.size < W.heap.size→w'.cell? ⟨w1.heap.size,0,none⟩=W.cell? ⟨w1.heap.size,0,none⟩∧w'.cell? ⟨w1.heap.size,1,none⟩=W.cell? ⟨w1.heap.size,1,none⟩∧w'.frozen? ⟨w1.heap.size,0,none⟩=W.frozen? ⟨w1.heap.size,0,none⟩∧w'.frozen? ⟨w1.heap.size,1,none⟩=W.frozen? ⟨w1.heap.size,1,none⟩)∧g < w'.heap.size∧DecS w' g last win e2 gr b bytes r2∧Kp g gr w1 w'∧(w1.heap.size < W.heap.size→w'.heap[w1.heap.size]? = W.heap[w1.heap.size]?)):=by
  refine hid fun W hN=>(HB.out W (HS1.out.nw hN)).mono ?_
  rintro e w' ⟨rfl,hS,hK⟩;obtain ⟨hx1,hx2⟩:=HC.out _ _ _ hS;refine ⟨rfl,hx1,hx2,fun hlt=>?_,hS.dec.lt,hS,(hN.kp g gr).trans hK (.inl rfl) (.inr (.inl rfl)),fun hlt=>hK.block w1.heap.size hlt (by omega) (by omega)⟩;have hz:=hK.block w1.heap.size hlt (by omega) (by omega);exact ⟨World.cell?_of_block hz,World.cell?_of_block hz,by unfold World.frozen?;rw [hz],by unfold World.frozen?;rw [hz]⟩
 clear HB;go_wp2_with fail;refine Code.wp_mono (Q:=fun e a W=>e=.normal∧∃ k,a=act3 g k v2 a0 n0∧w1.heap.size≤k∧W.heap[k]? = some (.cells #[.int .i64 a0,.int .i64 n0] 355 (0,0))∧DecS W g last win e2 gr b bytes r2∧Kp g gr w1 W) ?_ ?_
 ·clear hc1 hc2 HB2 hgw1 hne1;rintro e a W ⟨rfl,k,rfl,hk1,hbk,hS,hK⟩;have hkw:Kp g gr w W:=HK1.out.trans hK (.inl rfl) (.inr (.inl rfl));have hg0:k≠g:=by omega
  have hg1:k≠gr:=by omega
  have HS:=hid hS;have HK:=hid hkw;have hsW:=hkw.size;have hd0:W.cell? ⟨k,0,none⟩=some (.int .i64 a0):=by simp [World.cell?,hbk]
  have hd1:W.cell? ⟨k,1,none⟩=some (.int .i64 n0):=by simp [World.cell?,hbk]
  have he:W.cell? ⟨g,4,none⟩=some (.int .i64 (e2:Int)):=by
   obtain ⟨a,n,h1,hb⟩:=hS.dec;simp [World.cell?,hb]
  clear hS hK hkw HK1 HS1;unfold act3
  match r,HV with
  | [],HV =>
   obtain ⟨rfl,rfl,rfl⟩:v2=0∧e2=3∧r2=[]:=by
    have:=HV.out;simp [dbits] at this;exact ⟨this.1.symm,this.2.1.symm,this.2.2⟩
   have HCk:=hid fun ok=>check_err W g last 3 gr b win bytes [] ok HS.out (by omega)
   go_wp2_with (first | (go_at_call 303;refine (HCk.out _).mono ?_;rintro e w5 ⟨rfl,hS5,hK5,he5⟩))
   all_goals
    go_ret;exact ⟨⟨⟨0,rfl⟩,_,_,_,hS5⟩,HK.out.trans hK5 (.inl rfl) (.inl rfl)⟩
  | false::r,HV =>
   obtain ⟨rfl,rfl,rfl⟩:v2=0∧e2=0∧r2=r:=by
    have:=HV.out;rw [dbits_one] at this;injection this with h1 h2
    injection h2 with h2 h3
    exact ⟨h1.symm,h2.symm,h3.symm⟩
   cases win with
   | none =>
    have e:=HWV.out;injection e with e;injection e with e;injection e with e1 e2;injection e2 with e2 _;injection e1 with _ e1;injection e2 with _ e2
    subst e1 e2;have HCk:=hid (check_false W g last gr b none bytes r2 HS.out);clear HC HWV;go_wp2_with (first | (go_at_call 303;refine HCk.out.mono ?_;rintro e w5 ⟨rfl,hS5,hK5,he5⟩))
    go_ret;exact ⟨⟨⟨0,rfl⟩,_,_,_,hS5⟩,HK.out.trans hK5 (.inl rfl) (.inl rfl)⟩
   | some ab =>
    obtain ⟨a,c⟩:=ab;have e:=HWV.out;injection e with e;injection e with e;injection e with e1 e2;injection e2 with e2 _;injection e1 with _ e1;injection e2 with _ e2
    subst e1 e2;have hac:a+c≤63:=hw;have HCk:=hid (check_true W g last gr b (some (a,c)) bytes r2 HS.out);obtain ⟨n,hn⟩:∃ n,n=64 - a - c:=⟨_,rfl⟩;rw [← hn] at hbk hd1 HC HWV;rw [← hn];have hn1:n+a+c=64:=by omega
    have hn0:(((n:Nat):Int) == 0)=false:=by rw [beq_eq_false_iff_ne];omega
    clear hn;have HBK:=hid hbk;go_wp2_with (first | (go_at_call 303;refine HCk.out.mono ?_;rintro e w5 ⟨rfl,hS5,hK5,he5⟩))
    have hb5:=(hK5.block k (lt_of_block HBK.out) hg0 hg0).trans HBK.out;have hs5:=hK5.size;clear hbk hd0 hd1 he;have hk5l:=lt_of_block hb5;have hx1:w5.cell? ⟨k,0,none⟩=some (.int .i64 (a:Int)):=by simp [World.cell?,hb5]
    have hx2:w5.cell? ⟨k,1,none⟩=some (.int .i64 (n:Int)):=by simp [World.cell?,hb5]
    obtain ⟨v3,e3,r3,hv3⟩:∃ v3 e3 r3,dbits 0 r2 n=(v3,e3,r3):=⟨_,_,_,rfl⟩;have hv3l:=dbits_lt 0 r2 n;rw [hv3] at hv3l;have HBb:Hid (∀ W',Nw w5 W'→Calls Tryz.prog 262 #[.pointer (some ⟨g,0,none⟩),.int .i64 (n:Int)] W' fun e w'=>e=.returned (.int .u64 (v3:Int))∧w'.cell? ⟨k,0,none⟩=some (.int .i64 (a:Int))∧w'.cell? ⟨k,1,none⟩=some (.int .i64 (n:Int))∧DecS w' g last (some (a,c)) e3 gr b bytes r3∧Kp g gr w5 w'):=by
     refine hid fun W' hN=>?_
     have h:=dbits_any W' g last 0 gr b (some (a,c)) bytes r2 n (hS5.nw hN) (by omega);rw [hv3] at h;refine h.mono ?_;rintro e w' ⟨rfl,h2,h3⟩;have hkp:Kp g gr w5 w':=(hN.kp g gr).trans h3 (.inl rfl) (.inr (.inl rfl));have hb:=(hkp.block k hk5l hg0 hg1).trans hb5;exact ⟨rfl,by simp [World.cell?,hb],by simp [World.cell?,hb],h2,hkp⟩
    have HT:Hid (∀ W':World,W'.cell? ⟨k,0,none⟩=some (.int .i64 (a:Int))→W'.cell? ⟨k,1,none⟩=some (.int .i64 (n:Int))→Calls Tryz.prog 304 #[winV a (n:Int)] W' fun e w'=>e=.returned (.int .i64 (c:Int))∧w'.cell? ⟨k,0,none⟩=some (.int .i64 (a:Int))∧w'.cell? ⟨k,1,none⟩=some (.int .i64 (n:Int))∧Nw W' w'):=by
     refine hid fun W' h1 h2=>?_
     have h:=trail_any W' a n (by omega);rw [show 64 - a - n=c from by omega] at h;refine h.mono ?_;rintro e w' ⟨rfl,h3⟩;have hkl:k < W'.heap.size:=by
      unfold World.cell? at h1;cases hh:W'.heap[k]? with
      | none=>rw [hh] at h1;cases h1
      | some o=>exact lt_of_block hh
     exact ⟨rfl,cell_old h3.nw hkl h1,cell_old h3.nw hkl h2,h3.nw⟩
    obtain ⟨X,hX⟩:∃ X,X=v3*2 ^ c:=⟨_,rfl⟩;have hXl:X < 18446744073709551616:=by
     have h1:v3*2 ^ c < 2 ^ n*2 ^ c:=(Nat.mul_lt_mul_right (Nat.pow_pos (by omega))).2 hv3l;rw [← Nat.pow_add] at h1;have h2:2 ^ (n+c)≤2 ^ 64:=Nat.pow_le_pow_right (by omega) (by omega);rw [pow64] at h2;omega
    have hshl:IntKind.u64.wrap ((v3:Int)*2 ^ c)=(X:Int):=by
     rw [show (v3:Int)*2 ^ c=(X:Int) from by rw [hX];simp,IntWalk.u64_in _ (by omega)]
    have HX:=hid hX;have HV3:=hid hv3;have HB5:=hid hb5;clear hX hv3 hv3l hb5 hS5;go_region_held3 (fun w'=>w'.cell? ⟨k,0,none⟩=some (.int .i64 (a:Int))∧w'.cell? ⟨k,1,none⟩=some (.int .i64 (n:Int)))
     (first | exact ⟨hz1,hz2⟩ | exact ⟨hy1,hy2⟩ | exact ⟨hx1,hx2⟩)
     (first
      | (go_at_call 262;refine (HBb.out _ (by first | exact Nw.refl _ | exact Nw.drewO _)).mono ?_;rintro e w6 ⟨rfl,hy1,hy2,hS6,hK6⟩)
      | (go_at_call 304;refine (HT.out _ hy1 hy2).mono ?_;rintro e w7 ⟨rfl,hz1,hz2,hNt⟩))
    have hS7:=hS6.nw hNt;have hK7:=hK6.nw' hNt;clear hS6 hK6 hNt hy1 hy2 hx1 hx2 hz1 hz2 HBb HT;obtain ⟨Y,hY⟩:∃ Y,Y=last ^^^ X:=⟨_,rfl⟩;have hxor:bits .xor .u64 (last:Int) (X:Int)=(Y:Int):=by rw [hY];exact u64_xor_nat last X hl hXl
    have hKK:Kp g gr w w7:=(HK.out.trans hK5 (.inl rfl) (.inl rfl)).trans hK7 (.inl rfl) (.inr (.inl rfl));have HKK:=hid hKK;have HY:=hid hY;have HS7:=hid hS7;clear hS7 hK7 hKK hY;by_cases hlen:r2.length < n
    ·obtain ⟨rfl,rfl,rfl⟩:v3=0∧e3=3∧r2=r3:=by
      have:=HV3.out;unfold dbits at this;rw [if_neg (by simp),if_pos hlen] at this;injection this with h1 h2
      injection h2 with h2 h3
      exact ⟨h1.symm,h2.symm,h3⟩
     have HCk3:=hid fun ok=>check_err w7 g last 3 gr b (some (a,c)) bytes r2 ok HS7.out (by omega)
     go_wp2_with (first | (go_at_call 303;refine (HCk3.out _).mono ?_;rintro e w8 ⟨rfl,hS8,hK8,he8⟩;obtain ⟨hl8,hf8⟩:=hS8.last;have HS8:=hid hS8;clear hS8))
     go_ret;obtain ⟨hS9,hK9⟩:=HS8.out.setLast Y;have hxg:xget1 last (some (a,c)) (true::false::r2)=.error 3:=by
      show xbody last (some (a,c)) false a c r2=_;unfold xbody
      rw [show 64 - a - c=n from by omega,if_pos hlen]
     rw [hxg];exact ⟨⟨⟨Y,rfl⟩,_,_,_,hS9⟩,(HKK.out.trans hK8 (.inl rfl) (.inl rfl)).trans hK9 (.inl rfl) (.inl rfl)⟩
    ·obtain ⟨hv3,rfl,hr3⟩:v3=bv (r2.take n)∧e3=0∧r3=r2.drop n:=by
      have:=HV3.out;unfold dbits at this;rw [if_neg (by simp),if_neg hlen] at this;injection this with h1 h2
      injection h2 with h2 h3
      exact ⟨h1.symm,h2.symm,h3.symm⟩
     have HV4:=hid hv3;have HR3:=hid hr3;clear hv3 hr3;by_cases hX0':X=0
     ·have hX0:((X:Int) != 0)=false:=by simp [hX0']
      have HX0:=hid hX0';clear hX0';have HCk3:=hid (check_false w7 g last gr b (some (a,c)) bytes r3 HS7.out);go_wp2_with (first | (go_at_call 303;refine HCk3.out.mono ?_;rintro e w8 ⟨rfl,hS8,hK8,he8⟩;obtain ⟨hl8,hf8⟩:=hS8.last;have HS8:=hid hS8;clear hS8))
      go_ret;obtain ⟨hS9,hK9⟩:=HS8.out.setLast Y;have hxg:xget1 last (some (a,c)) (true::false::r2)=.error 8:=by
       show xbody last (some (a,c)) false a c r2=_;unfold xbody
       rw [show 64 - a - c=n from by omega,if_neg hlen,← HV4.out,← HX.out,if_pos HX0.out]
      rw [hxg];exact ⟨⟨⟨Y,rfl⟩,_,_,_,hS9⟩,(HKK.out.trans hK8 (.inl rfl) (.inl rfl)).trans hK9 (.inl rfl) (.inl rfl)⟩
     ·have hX0:((X:Int) != 0)=true:=by simp;omega
      have HX0:=hid hX0';clear hX0';have HCk3:=hid (check_true w7 g last gr b (some (a,c)) bytes r3 HS7.out);go_wp2_with (first | (go_at_call 303;refine HCk3.out.mono ?_;rintro e w8 ⟨rfl,hS8,hK8,he8⟩;obtain ⟨hl8,hf8⟩:=hS8.last;have HS8:=hid hS8;clear hS8))
      go_ret;obtain ⟨hS9,hK9⟩:=HS8.out.setLast Y;have hxg:xget1 last (some (a,c)) (true::false::r2)=.ok (Y,(some (a,c)),r3):=by
       show xbody last (some (a,c)) false a c r2=_;unfold xbody
       rw [show 64 - a - c=n from by omega,if_neg hlen,← HV4.out,← HX.out,if_neg HX0.out,if_neg (fun h=>by cases h.1),← HY.out,HR3.out];rfl
      rw [hxg];exact ⟨⟨rfl,hS9⟩,(HKK.out.trans hK8 (.inl rfl) (.inl rfl)).trans hK9 (.inl rfl) (.inl rfl)⟩
  | true::r,HV =>
   obtain ⟨rfl,rfl,hr2⟩:v2=1∧e2=0∧r=r2:=by
    have:=HV.out;rw [dbits_one] at this;injection this with h1 h2
    injection h2 with h2 h3
    exact ⟨h1.symm,h2.symm,h3⟩
   subst hr2;obtain ⟨a,ea,ra,hda⟩:∃ v e q,dbits 0 r 6=(v,e,q):=⟨_,_,_,rfl⟩;obtain ⟨vb,eb,r2,hdb⟩:∃ v e q,dbits ea ra 6=(v,e,q):=⟨_,_,_,rfl⟩;have HF:=hid (fresh_any W g last 0 gr b win bytes r HS.out a ea vb eb ra r2 hda hdb);have hal:=dbits_lt 0 r 6;have hbl2:=dbits_lt ea ra 6;rw [hda] at hal;rw [hdb] at hbl2;simp only [Nat.reducePow] at hal hbl2;obtain ⟨n,hn⟩:∃ n,n=vb+1:=⟨_,rfl⟩;rw [← hn] at HF;generalize hE:(if eb=0∧63 < a+vb then 8 else eb)=E1 at HF;have HE:=hid hE;have HDA:=hid hda;have HDB:=hid hdb;have HBK:=hid hbk;have HN:=hid hn;clear hE hda hdb hbk he hn;have hf0:W.frozen? ⟨k,0,none⟩=false:=by simp [World.frozen?,HBK.out]
   go_wp2_with fail;refine HF.out.mono ?_;rintro e w4 ⟨rfl,hS4,hK4⟩;have hb4:=(hK4.block k (lt_of_block HBK.out) hg0 hg1).trans HBK.out;have hz0:w4.cell? ⟨k,0,none⟩=some (.int .i64 a0):=by simp [World.cell?,hb4]
   have hz1:w4.cell? ⟨k,1,none⟩=some (.int .i64 n0):=by simp [World.cell?,hb4]
   have hz2:w4.frozen? ⟨k,0,none⟩=false:=by simp [World.frozen?,hb4]
   have hz3:w4.frozen? ⟨k,1,none⟩=false:=by simp [World.frozen?,hb4]
   have hb5:((w4.setCell ⟨k,0,none⟩ (.int .i64 (a:Int))).setCell ⟨k,1,none⟩ (.int .i64 (n:Int))).heap[k]? = some (.cells #[.int .i64 (a:Int),.int .i64 (n:Int)] 355 (0,0)):=by simp [World.setCell,Array.getElem?_modify,hb4]
   have hkf:Kp k k w4 ((w4.setCell ⟨k,0,none⟩ (.int .i64 (a:Int))).setCell ⟨k,1,none⟩ (.int .i64 (n:Int))):=((Kp.refl _ _ _).setCell' (p:=⟨k,0,none⟩) (.inl rfl) _).setCell' (p:=⟨k,1,none⟩) (.inl rfl) _;have hS5:=hS4.off hkf (Ne.symm hg0) (Ne.symm hg0) (Ne.symm hg1) (Ne.symm hg1) (by rcases hbl with h | h;exact .inl h;right;omega);have hK5:Kp g gr w ((w4.setCell ⟨k,0,none⟩ (.int .i64 (a:Int))).setCell ⟨k,1,none⟩ (.int .i64 (n:Int))):=(HK.out.trans hK4 (.inl rfl) (.inr (.inl rfl))).trans hkf (.inr (.inr (by omega))) (.inr (.inr (by omega)));have he5:=hS5.errc;have HS5:=hid hS5;have HK5:=hid hK5;have HB5':=hid hb5;clear hb4 hkf hS4 hK4 hS5 hK5 hb5 hd0 hd1 hf0;by_cases hlen:r.length < 12
   ·have hE3:E1=3:=by
     have h0:=HE.out;have h1:=HDA.out;have h2:=HDB.out;have hb3:eb=3:=by
      by_cases h6:r.length < 6
      ·rw [dbits_eof h6] at h1;injection h1 with h1 h3
       injection h3 with h3 h4
       subst h3;unfold dbits at h2;rw [if_pos (by omega)] at h2;injection h2 with h2 h5
       injection h5 with h5 h6
       exact h5.symm
      ·rw [dbits_ok (by omega)] at h1;injection h1 with h1 h3
       injection h3 with h3 h4
       subst h3 h4;rw [dbits_eof (by rw [List.length_drop];omega)] at h2;injection h2 with h2 h5
       injection h5 with h5 h6
       exact h5.symm
     rw [← h0,hb3,if_neg (fun h=>by cases h.1)]
    subst hE3;go_wp2;go_ret;have hxg:xget1 last win (true::true::r)=.error 3:=by simp only [xget1];rw [if_pos hlen]
    rw [hxg];exact ⟨⟨⟨0,rfl⟩,_,_,_,HS5.out⟩,HK5.out⟩
   ·obtain ⟨ha,hvb,heb,hr2⟩:a=bv (r.take 6)∧vb=bv ((r.drop 6).take 6)∧eb=0∧r2=r.drop 12:=by
     have h1:=HDA.out;have h2:=HDB.out;rw [dbits_ok (by omega)] at h1;injection h1 with h1 h3
     injection h3 with h3 h4
     subst h3 h4;rw [dbits_ok (by rw [List.length_drop];omega)] at h2;injection h2 with h2 h5
     injection h5 with h5 h6
     exact ⟨h1.symm,h2.symm,h5.symm,by rw [← h6,List.drop_drop]⟩
    have HA:=hid ha;have HVB:=hid hvb;have HR2:=hid hr2;clear ha hvb hr2;by_cases h63:63 < a+vb
    ·have hE8:E1=8:=by rw [← HE.out,if_pos ⟨heb,h63⟩]
     subst hE8;go_wp2;go_ret;have hxg:xget1 last win (true::true::r)=.error 8:=by simp only [xget1];rw [if_neg hlen,← HA.out,← HVB.out,if_pos h63]
     rw [hxg];exact ⟨⟨⟨0,rfl⟩,_,_,_,HS5.out⟩,HK5.out⟩
    ·have hE0:E1=0:=by rw [← HE.out,if_neg (fun h=>h63 h.2),heb]
     subst hE0;obtain ⟨c,hc⟩:∃ c,c=63 - a - vb:=⟨_,rfl⟩;have hxg0:xget1 last win (true::true::r)=xbody last win true a c r2:=by
      simp only [xget1];rw [if_neg hlen,← HA.out,← HVB.out,if_neg h63,← hc,HR2.out]
     have HXG:=hid hxg0;have hn1:n+a+c=64:=by have:=HN.out;omega
     clear hxg0 hc HA HVB HR2 HDA HDB HE HN HF;go_wp2_with fail;generalize hw5:(w4.setCell ⟨k,0,none⟩ (.int .i64 (a:Int))).setCell ⟨k,1,none⟩ (.int .i64 (n:Int))=w5 at *;have hS5:=HS5.out;have hb5:=HB5'.out;clear hw5 hz0 hz1 hz2 hz3;have hk5l:=lt_of_block hb5;have hx1:w5.cell? ⟨k,0,none⟩=some (.int .i64 (a:Int)):=by simp [World.cell?,hb5]
     have hx2:w5.cell? ⟨k,1,none⟩=some (.int .i64 (n:Int)):=by simp [World.cell?,hb5]
     obtain ⟨v3,e3,r3,hv3⟩:∃ v3 e3 r3,dbits 0 r2 n=(v3,e3,r3):=⟨_,_,_,rfl⟩;have hv3l:=dbits_lt 0 r2 n;rw [hv3] at hv3l;have HBb:Hid (∀ W',Nw w5 W'→Calls Tryz.prog 262 #[.pointer (some ⟨g,0,none⟩),.int .i64 (n:Int)] W' fun e w'=>e=.returned (.int .u64 (v3:Int))∧w'.cell? ⟨k,0,none⟩=some (.int .i64 (a:Int))∧w'.cell? ⟨k,1,none⟩=some (.int .i64 (n:Int))∧DecS w' g last win e3 gr b bytes r3∧Kp g gr w5 w'):=by
      refine hid fun W' hN=>?_
      have h:=dbits_any W' g last 0 gr b win bytes r2 n (hS5.nw hN) (by omega);rw [hv3] at h;refine h.mono ?_;rintro e w' ⟨rfl,h2,h3⟩;have hkp:Kp g gr w5 w':=(hN.kp g gr).trans h3 (.inl rfl) (.inr (.inl rfl));have hb:=(hkp.block k hk5l hg0 hg1).trans hb5;exact ⟨rfl,by simp [World.cell?,hb],by simp [World.cell?,hb],h2,hkp⟩
     have HT:Hid (∀ W':World,W'.cell? ⟨k,0,none⟩=some (.int .i64 (a:Int))→W'.cell? ⟨k,1,none⟩=some (.int .i64 (n:Int))→Calls Tryz.prog 304 #[winV a (n:Int)] W' fun e w'=>e=.returned (.int .i64 (c:Int))∧w'.cell? ⟨k,0,none⟩=some (.int .i64 (a:Int))∧w'.cell? ⟨k,1,none⟩=some (.int .i64 (n:Int))∧Nw W' w'):=by
      refine hid fun W' h1 h2=>?_
      have h:=trail_any W' a n (by omega);rw [show 64 - a - n=c from by omega] at h;refine h.mono ?_;rintro e w' ⟨rfl,h3⟩;have hkl:k < W'.heap.size:=by
       unfold World.cell? at h1;cases hh:W'.heap[k]? with
       | none=>rw [hh] at h1;cases h1
       | some o=>exact lt_of_block hh
      exact ⟨rfl,cell_old h3.nw hkl h1,cell_old h3.nw hkl h2,h3.nw⟩
     obtain ⟨X,hX⟩:∃ X,X=v3*2 ^ c:=⟨_,rfl⟩;have hXl:X < 18446744073709551616:=by
      have h1:v3*2 ^ c < 2 ^ n*2 ^ c:=(Nat.mul_lt_mul_right (Nat.pow_pos (by omega))).2 hv3l;rw [← Nat.pow_add] at h1;have h2:2 ^ (n+c)≤2 ^ 64:=Nat.pow_le_pow_right (by omega) (by omega);rw [pow64] at h2;omega
     have hshl:IntKind.u64.wrap ((v3:Int)*2 ^ c)=(X:Int):=by
      rw [show (v3:Int)*2 ^ c=(X:Int) from by rw [hX];simp,IntWalk.u64_in _ (by omega)]
     have HX:=hid hX;have HV3:=hid hv3;have HB5:=hid hb5;clear hX hv3 hv3l hb5 hS5;go_region_held3 (fun w'=>w'.cell? ⟨k,0,none⟩=some (.int .i64 (a:Int))∧w'.cell? ⟨k,1,none⟩=some (.int .i64 (n:Int)))
      (first | exact ⟨hz1,hz2⟩ | exact ⟨hy1,hy2⟩ | exact ⟨hx1,hx2⟩)
      (first
       | (go_at_call 262;refine (HBb.out _ (by first | exact Nw.refl _ | exact Nw.drewO _)).mono ?_;rintro e w6 ⟨rfl,hy1,hy2,hS6,hK6⟩)
       | (go_at_call 304;refine (HT.out _ hy1 hy2).mono ?_;rintro e w7 ⟨rfl,hz1,hz2,hNt⟩))
     have hS7:=hS6.nw hNt;have hK7:=hK6.nw' hNt;clear hS6 hK6 hNt hy1 hy2 hx1 hx2 hz1 hz2 HBb HT;have HB7:Hid (w7.heap[k]? = some (.cells #[.int .i64 (a:Int),.int .i64 (n:Int)] 355 (0,0))):=hid ((hK7.block k (lt_of_block HB5.out) hg0 hg1).trans HB5.out);obtain ⟨Y,hY⟩:∃ Y,Y=last ^^^ X:=⟨_,rfl⟩;have hxor:bits .xor .u64 (last:Int) (X:Int)=(Y:Int):=by rw [hY];exact u64_xor_nat last X hl hXl
     have hKK:Kp g gr w w7:=HK5.out.trans hK7 (.inl rfl) (.inr (.inl rfl));have HKK:=hid hKK;have HY:=hid hY;have HS7:=hid hS7;clear hS7 hK7 hKK hY;by_cases hlen:r2.length < n
     ·obtain ⟨rfl,rfl,rfl⟩:v3=0∧e3=3∧r2=r3:=by
       have:=HV3.out;unfold dbits at this;rw [if_neg (by simp),if_pos hlen] at this;injection this with h1 h2
       injection h2 with h2 h3
       exact ⟨h1.symm,h2.symm,h3⟩
      have HCk3:=hid fun ok=>check_err w7 g last 3 gr b win bytes r2 ok HS7.out (by omega)
      go_wp2_with (first | (go_at_call 303;refine (HCk3.out _).mono ?_;rintro e w8 ⟨rfl,hS8,hK8,he8⟩;obtain ⟨hl8,hf8⟩:=hS8.last;have HS8:=hid hS8;clear hS8))
      go_ret;obtain ⟨hS9,hK9⟩:=HS8.out.setLast Y;have hxg:xbody last win true a c r2=.error 3:=by
       unfold xbody;rw [show 64 - a - c=n from by omega,if_pos hlen]
      rw [HXG.out,hxg];exact ⟨⟨⟨Y,rfl⟩,_,_,_,hS9⟩,(HKK.out.trans hK8 (.inl rfl) (.inl rfl)).trans hK9 (.inl rfl) (.inl rfl)⟩
     ·obtain ⟨hv3,rfl,hr3⟩:v3=bv (r2.take n)∧e3=0∧r3=r2.drop n:=by
       have:=HV3.out;unfold dbits at this;rw [if_neg (by simp),if_neg hlen] at this;injection this with h1 h2
       injection h2 with h2 h3
       exact ⟨h1.symm,h2.symm,h3.symm⟩
      have HV4:=hid hv3;have HR3:=hid hr3;clear hv3 hr3;by_cases hX0':X=0
      ·have hX0:((X:Int) != 0)=false:=by simp [hX0']
       have HX0:=hid hX0';clear hX0';have HCk3:=hid (check_false w7 g last gr b win bytes r3 HS7.out);go_wp2_with (first | (go_at_call 303;refine HCk3.out.mono ?_;rintro e w8 ⟨rfl,hS8,hK8,he8⟩;obtain ⟨hl8,hf8⟩:=hS8.last;have HS8:=hid hS8;clear hS8))
       go_ret;obtain ⟨hS9,hK9⟩:=HS8.out.setLast Y;have hxg:xbody last win true a c r2=.error 8:=by
        unfold xbody;rw [show 64 - a - c=n from by omega,if_neg hlen,← HV4.out,← HX.out,if_pos HX0.out]
       rw [HXG.out,hxg];exact ⟨⟨⟨Y,rfl⟩,_,_,_,hS9⟩,(HKK.out.trans hK8 (.inl rfl) (.inl rfl)).trans hK9 (.inl rfl) (.inl rfl)⟩
      ·have hX0:((X:Int) != 0)=true:=by simp;omega
       have HX0:=hid hX0';clear hX0';have HCk3:=hid (check_true w7 g last gr b win bytes r3 HS7.out);obtain ⟨p,hp⟩:∃ p,p=lz X:=⟨_,rfl⟩;obtain ⟨q,hq⟩:∃ q,q=tz X:=⟨_,rfl⟩;have hpq:=lz_tz HX0.out hXl;obtain ⟨m,hm⟩:∃ m,m=64 - p - q:=⟨_,rfl⟩;have hG7:Gl w7:=HG.out.kp HKK.out hg2 hgr2;have HWo:Hid (∀ W',Nw w7 W'→Calls Tryz.prog 305 #[.int .u64 (X:Int)] W' fun e w'=>e=.returned (winV (p:Int) (m:Int))∧Gr W' w'):=hid fun W' hN=>by
        have h:=windowOf_any W' X (hG7.nw hN) HX0.out hXl
        rwa [← hp,← hq,← hm] at h
       have HG7:=hid hG7;have HP:=hid hp;have HQq:=hid hq;have hm1:m+p+q=64:=by omega
       clear hG7 hp hq hm;have hXn:3≤w7.heap.size:=HG7.out.lt;go_wp2_with (first | (go_at_call 303;refine HCk3.out.mono ?_;rintro e w8 ⟨rfl,hS8,hK8,he8⟩))
       have HS8:=hid hS8;have hb8:w8.heap[k]? = some (.cells #[.int .i64 (a:Int),.int .i64 (n:Int)] 355 (0,0)):=(hK8.block k (lt_of_block HB7.out) hg0 hg0).trans HB7.out;have hk8l:=lt_of_block hb8;have hd0:∀ p:Gp,(grow (w8.drewN p.n) p.os).cell? ⟨k,0,none⟩=some (.int .i64 (a:Int)):=cell_gr hk8l (by simp [World.cell?,hb8]);have hd1:∀ p:Gp,(grow (w8.drewN p.n) p.os).cell? ⟨k,1,none⟩=some (.int .i64 (n:Int)):=cell_gr hk8l (by simp [World.cell?,hb8]);have hsz8:=hK8.size;have HK8:=hid hK8;have HB8:=hid hb8;have hgl8:=hS8.dec.lt;have hwc:∃ x y:Int,winOf win=winV x y∧w8.cell? ⟨g,1,none⟩=some (.int .i64 x)∧w8.cell? ⟨g,2,none⟩=some (.int .i64 y):=by
        obtain ⟨x,y,h1,hb⟩:=hS8.dec;exact ⟨x,y,h1,by simp [World.cell?,hb],by simp [World.cell?,hb]⟩
       have hG8:Gl w8:=HG7.out.kp hK8 hg2 hg2;have HFi:Hid (∀ W',Nw w8 W'→Calls Tryz.prog 306 #[.pointer (some ⟨g,0,none⟩),.int .u64 (X:Int)] W' fun e w'=>e=.returned (.bool (decide (fits win X)))∧Gr W' w'):=hid fun W' hN=>by
        obtain ⟨x,y,h1,h2,h3⟩:=hwc;exact fits_any W' g X win (hG8.nw hN) hw HX0.out hXl (Nat.lt_of_lt_of_le hgl8 hN.size) ⟨x,y,h1,cell_old hN hgl8 h2,cell_old hN hgl8 h3⟩
       have HW8:Hid (∀ W',Nw w8 W'→Calls Tryz.prog 305 #[.int .u64 (X:Int)] W' fun e w'=>e=.returned (winV (p:Int) (m:Int))∧Gr W' w'):=hid fun W' hN=>by
        have h:=windowOf_any W' X (hG8.nw hN) HX0.out hXl;rw [← HP.out,← HQq.out,show 64 - p - q=m from by omega] at h;exact h
       clear hS8 hb8 hK8 hwc hG8 HWo;by_cases hpa:p=a
       ·by_cases hqc:q=c
        ·have hmn:m=n:=by omega
         subst hpa hmn;have HQC:=hid hqc;clear hqc;by_cases hfit:fits win X
         ·rw [decide_eq_true hfit] at HFi;have HFT:=hid hfit;clear hfit;refine wp_region_gr_tail 13 (by kernel_rfl) (by kernel_rfl) ?_;simp only [List.take_succ_cons,List.take_zero,List.drop_succ_cons,List.drop_zero]
          repeat (with_reducible refine wpQuiet_step ?_;intro K hK;go_simp;first | (refine hK _ ?_;clear hK K) | (apply Exists.intro;refine ⟨fun _=>?_,hK _ ?_⟩;(first | (go_at_call 305;refine Calls.gr (HW8.out _ (Gr.nw ⟨_,rfl⟩))) | (go_at_call 306;refine Calls.gr (HFi.out _ (Gr.nw ⟨_,rfl⟩))));clear hK K))
          with_reducible refine wpQuiet_nil ?_
          rintro _ ⟨pp,rfl⟩;generalize hw9:grow (w8.drewN pp.n) pp.os=w9;have hn9:Nw w8 w9:=by rw [← hw9];exact Gr.nw ⟨pp,rfl⟩
          clear hd0 hd1 hw9;have HCk4:=hid (check_false w9 g last gr b win bytes r3 (HS8.out.nw hn9));have HN9:=hid hn9;go_wp2_with fail;refine HCk4.out.mono ?_;rintro e w10 ⟨rfl,hS10,hK10,he10⟩;obtain ⟨hl10,hf10⟩:=hS10.last;obtain ⟨x1,x2,hq1,hq2,hq3,hq4⟩:=hS10.winc;have hb10:=(hK10.block k (Nat.lt_of_lt_of_le hk8l HN9.out.size) hg0 hg0).trans ((HN9.out.block k hk8l).trans HB8.out);have hk0:w10.cell? ⟨k,0,none⟩=some (.int .i64 (p:Int)):=by simp [World.cell?,hb10]
          have hk1:w10.cell? ⟨k,1,none⟩=some (.int .i64 (m:Int)):=by simp [World.cell?,hb10]
          have HS10:=hid hS10;have HK10:=hid hK10;clear hS10 hK10 hb10 hn9;go_wp2;go_ret;obtain ⟨hS11,hK11⟩:=HS10.out.setWin p m c hn1;obtain ⟨hS12,hK12⟩:=hS11.setLast Y;have hxg:xbody last win true p c r2=.error 8:=by
           unfold xbody;rw [show 64 - p - c=m from by omega,if_neg hlen,← HV4.out,← HX.out,if_neg HX0.out,← HP.out,← HQq.out,if_pos ⟨rfl,.inr (.inr HFT.out)⟩]
          rw [HXG.out,hxg];have hKf:Kp g gr w w10:=((HKK.out.trans HK8.out (.inl rfl) (.inl rfl)).nw' HN9.out).trans HK10.out (.inl rfl) (.inl rfl);exact ⟨⟨⟨Y,rfl⟩,_,_,_,hS12⟩,(hKf.trans hK11 (.inl rfl) (.inl rfl)).trans hK12 (.inl rfl) (.inl rfl)⟩
         ·rw [decide_eq_false hfit] at HFi;have HFT:=hid hfit;clear hfit;refine wp_region_gr_tail 13 (by kernel_rfl) (by kernel_rfl) ?_;simp only [List.take_succ_cons,List.take_zero,List.drop_succ_cons,List.drop_zero]
          repeat (with_reducible refine wpQuiet_step ?_;intro K hK;go_simp;first | (refine hK _ ?_;clear hK K) | (apply Exists.intro;refine ⟨fun _=>?_,hK _ ?_⟩;(first | (go_at_call 305;refine Calls.gr (HW8.out _ (Gr.nw ⟨_,rfl⟩))) | (go_at_call 306;refine Calls.gr (HFi.out _ (Gr.nw ⟨_,rfl⟩))));clear hK K))
          with_reducible refine wpQuiet_nil ?_
          rintro _ ⟨pp,rfl⟩;generalize hw9:grow (w8.drewN pp.n) pp.os=w9;have hn9:Nw w8 w9:=by rw [← hw9];exact Gr.nw ⟨pp,rfl⟩
          clear hd0 hd1 hw9;have HCk4:=hid (check_true w9 g last gr b win bytes r3 (HS8.out.nw hn9));have HN9:=hid hn9;go_wp2_with fail;refine HCk4.out.mono ?_;rintro e w10 ⟨rfl,hS10,hK10,he10⟩;obtain ⟨hl10,hf10⟩:=hS10.last;obtain ⟨x1,x2,hq1,hq2,hq3,hq4⟩:=hS10.winc;have hb10:=(hK10.block k (Nat.lt_of_lt_of_le hk8l HN9.out.size) hg0 hg0).trans ((HN9.out.block k hk8l).trans HB8.out);have hk0:w10.cell? ⟨k,0,none⟩=some (.int .i64 (p:Int)):=by simp [World.cell?,hb10]
          have hk1:w10.cell? ⟨k,1,none⟩=some (.int .i64 (m:Int)):=by simp [World.cell?,hb10]
          have HS10:=hid hS10;have HK10:=hid hK10;clear hS10 hK10 hb10 hn9;go_wp2;go_ret;obtain ⟨hS11,hK11⟩:=HS10.out.setWin p m c hn1;obtain ⟨hS12,hK12⟩:=hS11.setLast Y;have hxg:xbody last win true p c r2=.ok (Y,some (p,c),r3):=by
           unfold xbody;rw [show 64 - p - c=m from by omega,if_neg hlen,← HV4.out,← HX.out,if_neg HX0.out,← HP.out,← HQq.out,if_neg (fun h=>by rcases h.2 with h | h | h;exact h rfl;exact h HQC.out;exact HFT.out h),if_pos rfl,← HY.out,HR3.out]
          rw [HXG.out,hxg];have hKf:Kp g gr w w10:=((HKK.out.trans HK8.out (.inl rfl) (.inl rfl)).nw' HN9.out).trans HK10.out (.inl rfl) (.inl rfl);exact ⟨⟨rfl,hS12⟩,(hKf.trans hK11 (.inl rfl) (.inl rfl)).trans hK12 (.inl rfl) (.inl rfl)⟩
        ·have hmn:((n:Int) == (m:Int))=false:=by rw [beq_eq_false_iff_ne];omega
         subst hpa;have HQC:=hid hqc;clear hqc HFi;refine wp_region_gr_tail 13 (by kernel_rfl) (by kernel_rfl) ?_;simp only [List.take_succ_cons,List.take_zero,List.drop_succ_cons,List.drop_zero]
         repeat (with_reducible refine wpQuiet_step ?_;intro K hK;go_simp;first | (refine hK _ ?_;clear hK K) | (apply Exists.intro;refine ⟨fun _=>?_,hK _ ?_⟩;(first | (go_at_call 305;refine Calls.gr (HW8.out _ (Gr.nw ⟨_,rfl⟩))));clear hK K))
         with_reducible refine wpQuiet_nil ?_
         rintro _ ⟨pp,rfl⟩;generalize hw9:grow (w8.drewN pp.n) pp.os=w9;have hn9:Nw w8 w9:=by rw [← hw9];exact Gr.nw ⟨pp,rfl⟩
         clear hd0 hd1 hw9;have HCk4:=hid (check_false w9 g last gr b win bytes r3 (HS8.out.nw hn9));have HN9:=hid hn9;go_wp2_with fail;refine HCk4.out.mono ?_;rintro e w10 ⟨rfl,hS10,hK10,he10⟩;obtain ⟨hl10,hf10⟩:=hS10.last;obtain ⟨x1,x2,hq1,hq2,hq3,hq4⟩:=hS10.winc;have hb10:=(hK10.block k (Nat.lt_of_lt_of_le hk8l HN9.out.size) hg0 hg0).trans ((HN9.out.block k hk8l).trans HB8.out);have hk0:w10.cell? ⟨k,0,none⟩=some (.int .i64 (p:Int)):=by simp [World.cell?,hb10]
         have hk1:w10.cell? ⟨k,1,none⟩=some (.int .i64 (n:Int)):=by simp [World.cell?,hb10]
         have HS10:=hid hS10;have HK10:=hid hK10;clear hS10 hK10 hb10 hn9;go_wp2;go_ret;obtain ⟨hS11,hK11⟩:=HS10.out.setWin p n c hn1;obtain ⟨hS12,hK12⟩:=hS11.setLast Y;have hxg:xbody last win true p c r2=.error 8:=by
          unfold xbody;rw [show 64 - p - c=n from by omega,if_neg hlen,← HV4.out,← HX.out,if_neg HX0.out,← HP.out,← HQq.out,if_pos ⟨rfl,.inr (.inl HQC.out)⟩]
         rw [HXG.out,hxg];have hKf:Kp g gr w w10:=((HKK.out.trans HK8.out (.inl rfl) (.inl rfl)).nw' HN9.out).trans HK10.out (.inl rfl) (.inl rfl);exact ⟨⟨⟨Y,rfl⟩,_,_,_,hS12⟩,(hKf.trans hK11 (.inl rfl) (.inl rfl)).trans hK12 (.inl rfl) (.inl rfl)⟩
       ·have hpn:((a:Int) == (p:Int))=false:=by rw [beq_eq_false_iff_ne];omega
        have HPA:=hid hpa;clear hpa HFi;refine wp_region_gr_tail 13 (by kernel_rfl) (by kernel_rfl) ?_;simp only [List.take_succ_cons,List.take_zero,List.drop_succ_cons,List.drop_zero]
        repeat (with_reducible refine wpQuiet_step ?_;intro K hK;go_simp;first | (refine hK _ ?_;clear hK K) | (apply Exists.intro;refine ⟨fun _=>?_,hK _ ?_⟩;(first | (go_at_call 305;refine Calls.gr (HW8.out _ (Gr.nw ⟨_,rfl⟩))));clear hK K))
        with_reducible refine wpQuiet_nil ?_
        rintro _ ⟨pp,rfl⟩;generalize hw9:grow (w8.drewN pp.n) pp.os=w9;have hn9:Nw w8 w9:=by rw [← hw9];exact Gr.nw ⟨pp,rfl⟩
        clear hd0 hd1 hw9;have HCk4:=hid (check_false w9 g last gr b win bytes r3 (HS8.out.nw hn9));have HN9:=hid hn9;go_wp2_with fail;refine HCk4.out.mono ?_;rintro e w10 ⟨rfl,hS10,hK10,he10⟩;obtain ⟨hl10,hf10⟩:=hS10.last;obtain ⟨x1,x2,hq1,hq2,hq3,hq4⟩:=hS10.winc;have hb10:=(hK10.block k (Nat.lt_of_lt_of_le hk8l HN9.out.size) hg0 hg0).trans ((HN9.out.block k hk8l).trans HB8.out);have hk0:w10.cell? ⟨k,0,none⟩=some (.int .i64 (a:Int)):=by simp [World.cell?,hb10]
        have hk1:w10.cell? ⟨k,1,none⟩=some (.int .i64 (n:Int)):=by simp [World.cell?,hb10]
        have HS10:=hid hS10;have HK10:=hid hK10;clear hS10 hK10 hb10 hn9;go_wp2;go_ret;obtain ⟨hS11,hK11⟩:=HS10.out.setWin a n c hn1;obtain ⟨hS12,hK12⟩:=hS11.setLast Y;have hxg:xbody last win true a c r2=.error 8:=by
         unfold xbody;rw [show 64 - a - c=n from by omega,if_neg hlen,← HV4.out,← HX.out,if_neg HX0.out,← HP.out,← HQq.out,if_pos ⟨rfl,.inl HPA.out⟩]
        rw [HXG.out,hxg];have hKf:Kp g gr w w10:=((HKK.out.trans HK8.out (.inl rfl) (.inl rfl)).nw' HN9.out).trans HK10.out (.inl rfl) (.inl rfl);exact ⟨⟨⟨Y,rfl⟩,_,_,_,hS12⟩,(hKf.trans hK11 (.inl rfl) (.inl rfl)).trans hK12 (.inl rfl) (.inl rfl)⟩
 ·go_region_held3 (fun w'=>w'.cell? ⟨g,1,none⟩=some (.int .i64 a0)∧w'.cell? ⟨g,2,none⟩=some (.int .i64 n0))
   (first | exact ⟨hx1,hx2⟩ | exact ⟨hc1,hc2⟩ | exact ⟨cell_past hgw2 hx1,cell_past hgw2 hx2⟩ | exact ⟨cell_past hgw1 hc1,cell_past hgw1 hc2⟩ | exact ⟨cell_skip hne1 (cell_skip hne1 hx1),cell_skip hne1 (cell_skip hne1 hx2)⟩ | (constructor<;>simp [*]))
   (first
    | (go_at_call 262;refine (HB2.out _ (by first | exact Nw.refl _ | exact Nw.drewO _ | exact Nw.alloc' (Nw.drewO _) _ | exact Nw.drewP (Nw.alloc' (Nw.refl _) _))).mono ?_;rintro e w2 ⟨rfl,hx1,hx2,hz,hgw2,hS2,hK2,hblk⟩))
  ·refine ⟨rfl,w2.heap.size,rfl,hK2.size,heap_alloc_new w2 _,hS2.nw ((Nw.refl w2).alloc' _),hK2.alloc' _⟩
  ·have hbk:=hblk (by simp);rw [show ((w1.alloc (.cells #[.int .i64 0,.int .i64 0] 355)).drew.heap[w1.heap.size]?)=some (.cells #[.int .i64 0,.int .i64 0] 355) from heap_alloc_new w1 _] at hbk;have hkf:Kp w1.heap.size w1.heap.size w2 ((w2.setCell ⟨w1.heap.size,0,none⟩ (.int .i64 a0)).setCell ⟨w1.heap.size,1,none⟩ (.int .i64 n0)):=((Kp.refl _ _ _).setCell' (p:=⟨w1.heap.size,0,none⟩) (.inl rfl) _).setCell' (p:=⟨w1.heap.size,1,none⟩) (.inl rfl) _;refine ⟨rfl,w1.heap.size,rfl,Nat.le_refl _,by simp [World.setCell,Array.getElem?_modify,hbk],hS2.off hkf (by omega) (by omega) (by omega) (by omega) (by rcases hbl with h | h;exact .inl h;right;omega),hK2.trans hkf (.inr (.inr (Nat.le_refl _))) (.inr (.inr (Nat.le_refl _)))⟩
end
section
open Go Go.RowKit Go.Sort
def glue {α β:Type} (l:List α) (X:Except Nat (List α × β)):Except Nat (List α × β) :=
 match X with
 | .error e=>.error e
 | .ok (l2,r)=>.ok (l++l2,r)
theorem xgetF_glue (l:List Nat) (last:Nat) (win:Win) (m:Nat) (r:List Bool):glue l (xgetF last win (m+1) r) =
  match xget1 last win r with
  | .error e=>.error e
  | .ok (v,win',r')=>glue (l++[v]) (xgetF v win' m r'):=by
 conv=>lhs;rw [xgetF]
 cases xget1 last win r with
 | error e=>rfl
 | ok x =>
  obtain ⟨v,win',r'⟩:=x;simp only;cases xgetF v win' m r' with
  | error e=>rfl
  | ok y =>
   obtain ⟨l2,r2⟩:=y;simp [glue]
theorem xbody_err {last a b e:Nat} {win:Win} {fresh:Bool} {r:List Bool} (h:xbody last win fresh a b r=.error e):e≠0:=by
 unfold xbody at h;split at h
 ·cases h;omega
 ·split at h
  ·cases h;omega
  ·split at h
   ·cases h;omega
   ·cases h
theorem xget1_err {last e:Nat} {win:Win} {r:List Bool} (h:xget1 last win r=.error e):e≠0:=by
 match r,h with
 | [],h=>cases h;omega
 | false::r,h=>cases h
 | [true],h=>cases h;omega
 | true::false::r,h =>
  cases win with
  | none=>cases h;omega
  | some ab=>exact xbody_err h
 | true::true::r,h =>
  simp only [xget1] at h;split at h
  ·cases h;omega
  ·split at h
   ·cases h;omega
   ·exact xbody_err h
theorem dget_any (w:World) (g last gr b:Nat) (win:Win) (bytes:List Nat) (r:List Bool) (h:DecS w g last win 0 gr b bytes r) (hG:Gl w) (hw:WinOk win) (hl:last < 18446744073709551616) (hg2:3≤g) (hgr2:3≤gr) :
  Calls Tryz.prog 263 #[.pointer (some ⟨g,0,none⟩)] w (DGot w g gr b bytes (xget1 last win r)):=by
 match r,h with
 | [],h=>exact dget_zero w g last gr b win bytes [] h (fun _ h=>by cases h)
 | false::r,h=>exact dget_zero w g last gr b win bytes (false::r) h (fun _ h=>by cases h)
 | true::r,h=>exact dget_true w g last gr b win bytes r h hG hw hl hg2 hgr2
def XGot (w:World) (gr b:Nat) (bytes:List Nat) (X:Except Nat (List Nat × List Bool)) (e:Ending) (w':World):Prop :=
 (match X with
  | .ok (l,r)=>(∃ b' A c,e=.returned (.tuple #[.slice A l.length c,.int .i64 0])∧Ow w' b' 97 1 A l.length c (cN .u64 l)∧w.heap.size≤b')∧∃ pos,Rdr w' gr b bytes pos∧rest bytes pos=r
  | .error k=>e=.returned (.tuple #[.slice none 0 0,.int .i64 (k:Int)])∧k≠0)∧Kp gr gr w w'
set_option maxRecDepth 100000 in
theorem xGet_any (w:World) (gr b:Nat) (bytes:List Nat) (pos n:Nat) (h:Rdr w gr b bytes pos) (hb:b < w.heap.size) (hG:Gl w) (hgr2:3≤gr) (h1:1≤n) (hn:n≤10000) :
  Calls Tryz.prog 201 #[.pointer (some ⟨gr,0,none⟩),.int .i64 (n:Int)] w (XGot w gr b bytes (xget n (rest bytes pos))):=by
 have hs:=hG.lt;have hgl:=h.lt;have hnil:∀ W,(binOp .eql 219 (.pointer (some ⟨gr,0,none⟩)) (.pointer none)).run Tryz.prog W=.ok (.bool false) W:=fun _=>by kernel_rfl
 have hw1:Nw w (w.alloc (.cells #[.int .u64 0,.int .i64 0,.int .i64 0,.pointer (some ⟨gr,0,none⟩),.int .i64 0] 359)):=(Nw.refl w).alloc' _;have HS0:Hid (DecS (w.alloc (.cells #[.int .u64 0,.int .i64 0,.int .i64 0,.pointer (some ⟨gr,0,none⟩),.int .i64 0] 359)) w.heap.size 0 none 0 gr b bytes (rest bytes pos)) :=
  hid ⟨⟨0,0,rfl,heap_alloc_new w _⟩,⟨pos,h.nw hw1,rfl⟩,by omega,by omega⟩
 have n0:((n:Int) == 0)=false:=by rw [beq_eq_false_iff_ne];omega
 have HG:=hid hG;clear h hG hw1;generalize rest bytes pos=R at *;obtain ⟨v0,e0,r0,hv⟩:∃ v e r,dbits 0 R 64=(v,e,r):=⟨_,_,_,rfl⟩;have HB:=hid (dbits_any _ w.heap.size 0 0 gr b none bytes R 64 HS0.out (by omega));rw [hv] at HB;have hv0:=dbits_lt 0 R 64;rw [hv,pow64] at hv0;simp only at HB hv0;have HV:=hid hv;clear hv;go_enter Tryz.func201,Tryz.ntmps201
 go_wp2_with fail;refine HB.out.mono ?_;rintro e w1 ⟨rfl,hS1,hK1⟩;obtain ⟨hc1,hf1⟩:=hS1.last;obtain ⟨hS2,hK2⟩:=hS1.setLast v0;have hKw:Kp gr gr w (w1.setCell ⟨w.heap.size,0,none⟩ (.int .u64 (v0:Int))):=by
  have h1:Kp gr gr w w1:=((Kp.refl gr gr w).alloc' _).trans hK1 (.inr (.inr (Nat.le_refl _))) (.inl rfl);exact h1.trans hK2 (.inr (.inr (Nat.le_refl _))) (.inr (.inr (Nat.le_refl _)))
 have HS2:=hid hS2;have HKw:=hid hKw;clear hS1 hS2 hK1 hK2 hKw;go_wp2;have hO0:Ow ((w1.setCell ⟨w.heap.size,0,none⟩ (.int .u64 (v0:Int))).alloc (.cells #[.int .u64 (v0:Int)] 97)) w1.heap.size 97 1 (some ⟨w1.heap.size,0,none⟩) 1 1 (cN .u64 [v0]):=by
  have h:=Ow.lit (w1.setCell ⟨w.heap.size,0,none⟩ (.int .u64 (v0:Int))) 97 1 1 #[.int .u64 (v0:Int)] rfl (by omega);simpa [World.setCell] using h
 have hS3:=HS2.out.nw ((Nw.refl _).alloc' (.cells #[.int .u64 (v0:Int)] 97));have hK3:=HKw.out.alloc' (.cells #[.int .u64 (v0:Int)] 97);have hsz1:w.heap.size < w1.heap.size:=by
  have:=HS2.out.dec.lt;simpa [World.setCell] using this
 have HO0:=hid hO0;have HS3:=hid hS3;have HK3:=hid hK3;clear hO0 hS3 hK3 hc1 hf1 HS0 HB HS2 HKw;go_loopw [7,8] (fun s i wr=>∃ k:Nat,1≤k∧k≤n∧i=.int .i64 k∧∃ (l:List Nat) (bk:Nat) (Ak:Option Addr) (ck last err:Nat) (win:Win) (r:List Bool),l.length=k∧s=.slice Ak k ck∧Ow wr bk 97 1 Ak k ck (cN .u64 l)∧w.heap.size < bk ∧
  DecS wr w.heap.size last win err gr b bytes r∧Kp gr gr w wr∧((err=0∧last < 18446744073709551616∧WinOk win∧xget n R=glue l (xgetF last win (n - k) r))∨(err≠0∧xget n R=.error err))) (fun _ i _=>n - (intOf i).toNat)
 case atStart =>
  refine ⟨1,Nat.le_refl _,h1,rfl,[v0],w1.heap.size,_,1,v0,e0,none,r0,rfl,rfl,HO0.out,hsz1,HS3.out,HK3.out,?_⟩;obtain ⟨m,rfl⟩:∃ m,n=m+1:=⟨n - 1,by omega⟩;by_cases hlen:R.length < 64
  ·right
   have h:=HV.out;rw [dbits_eof hlen] at h;injection h with h1 h2
   injection h2 with h2 h3
   subst h2;exact ⟨by omega,by simp only [xget];rw [if_pos hlen]⟩
  ·left
   have h:=HV.out;rw [dbits_ok (by omega)] at h;injection h with h1 h2
   injection h2 with h2 h3
   subst h1 h2 h3;refine ⟨rfl,hv0,trivial,?_⟩;simp only [xget];rw [if_neg hlen,Nat.add_sub_cancel];cases xgetF (bv (R.take 64)) none m (R.drop 64) with
   | error e=>rfl
   | ok x=>rfl
 case round =>
  obtain ⟨k,hk1,hk,rfl,l,bk,Ak,ck,last,err,win,r,hl,rfl,hO,hbk,hS,hK,hE⟩:=hrel;have herr:=hS.errc;have hGr:Gl wr:=HG.out.kp hK hgr2 hgr2;rcases hE with ⟨rfl,hll,hwin,hX⟩ | ⟨he,hX⟩
  ·by_cases hlt:k < n
   ·have hkI:(k:Int) < (n:Int):=by omega
    have HD:=hid (dget_any wr w.heap.size last gr b win bytes r hS hGr hwin hll hs hgr2);have HO:=hid hO;have HK:=hid hK;have hX':xget n R=match xget1 last win r with
     | .error e=>.error e
     | .ok (v,win',r')=>glue (l++[v]) (xgetF v win' (n - (k+1)) r'):=by
     rw [hX,show n - k=(n - (k+1))+1 from by omega,xgetF_glue]
    have HX:=hid hX';have HXE:=hid fun e (h:xget1 last win r=.error e)=>xget1_err h
    have hwl:=hS.blt;have HXW:Hid (∀ v win' r',xget1 last win r=.ok (v,win',r')→v < 18446744073709551616∧WinOk win'):=hid fun v win' r' h=>⟨(xget1_inv hwin hll h).1,(xget1_inv hwin hll h).2.2.2⟩
    clear hX hX' hO hK hS hGr;have hko:=HO.out.cap;go_wp2_with fail;refine HD.out.mono ?_;intro e w4 hD;cases hX1:xget1 last win r with
    | error ek =>
     rw [hX1] at hD;obtain ⟨⟨⟨v,rfl⟩,last',win',r',hS4⟩,hK4⟩:=hD;have hne:=HXE.out _ hX1;have hO4:=HO.out.kp hK4 (by omega) (by omega);have HX2:=hid (show xget n R=.error ek from by rw [HX.out,hX1]);have HS4:=hid hS4;have HK4:=hid hK4;clear hS4 hK4 hX1;go_wp2_with (at_builtin;refine wpList_app1 E_u64 rfl (.tmp 45) (.tmp 48) rfl rfl hO4 rfl rfl (by omega) (by omega) ?_;intro b1 A1 c1 w5 g1 g2 g3 g4)
     go_roundw
     case rel =>
      have hs4:=HK4.out.size;have hsr:=HK.out.size;refine ⟨k+1,by omega,by omega,by go_num,l++[v],b1,A1,c1,last',ek,win',r',by simp [hl],rfl,by simpa using g1,by rcases g2 with rfl | g2<;>omega,HS4.out.off g3 (by omega) (by omega) (by omega) (by omega) (by right;omega),?_,.inr ⟨hne,HX2.out⟩⟩;exact (HK.out.trans HK4.out (.inr (.inr (Nat.le_refl _))) (.inl rfl)).trans g3 (.inr (.inr (by omega))) (.inr (.inr (by omega)))
     case measure=>simp [intOf];omega
    | ok x =>
     obtain ⟨v,win',r'⟩:=x;rw [hX1] at hD;obtain ⟨⟨rfl,hS4⟩,hK4⟩:=hD;obtain ⟨hv,hw'⟩:=HXW.out _ _ _ hX1;have hO4:=HO.out.kp hK4 (by omega) (by omega);have HX2:=hid (show xget n R=glue (l++[v]) (xgetF v win' (n - (k+1)) r') from by rw [HX.out,hX1]);have HS4:=hid hS4;have HK4:=hid hK4;clear hS4 hK4 hX1;go_wp2_with (at_builtin;refine wpList_app1 E_u64 rfl (.tmp 45) (.tmp 48) rfl rfl hO4 rfl rfl (by omega) (by omega) ?_;intro b1 A1 c1 w5 g1 g2 g3 g4)
     go_roundw
     case rel =>
      have hs4:=HK4.out.size;have hsr:=HK.out.size;refine ⟨k+1,by omega,by omega,by go_num,l++[v],b1,A1,c1,v,0,win',r',by simp [hl],rfl,by simpa using g1,by rcases g2 with rfl | g2<;>omega,HS4.out.off g3 (by omega) (by omega) (by omega) (by omega) (by right;omega),?_,.inl ⟨rfl,hv,hw',HX2.out⟩⟩;exact (HK.out.trans HK4.out (.inr (.inr (Nat.le_refl _))) (.inl rfl)).trans g3 (.inr (.inr (by omega))) (.inr (.inr (by omega)))
     case measure=>simp [intOf];omega
   ·obtain rfl:k=n:=by omega
    have HX2:=hid (show xget k R=.ok (l,r) from by rw [hX,Nat.sub_self];simp [xgetF,glue]);have HS:=hid hS;have HO:=hid hO;have HK:=hid hK;clear hX hS hO hK hGr;subst hl;go_wp2;go_ret2;rw [HX2.out];exact ⟨⟨⟨bk,Ak,ck,rfl,HO.out,by omega⟩,HS.out.rdr⟩,HK.out⟩
  ·have he':((err:Int) == 0)=false:=by rw [beq_eq_false_iff_ne];omega
   have HX2:=hid hX;have HK:=hid hK;clear hX hS hO hK hGr;by_cases hlt:k < n
   ·have hkI:(k:Int) < (n:Int):=by omega
    go_wp2_with fail;go_quiet (fail)
    go_wp2;go_ret2;rw [HX2.out];exact ⟨⟨rfl,he⟩,HK.out.drewN' _⟩
   ·have hkI:¬ (k:Int) < (n:Int):=by omega
    go_wp2_with fail;go_quiet (fail)
    go_wp2;go_ret2;rw [HX2.out];exact ⟨⟨rfl,he⟩,HK.out.drewN' _⟩
end
section
open Go Go.RowKit Go.Sort
theorem ext7 (u:Nat):wrap64 (IntKind.u64.wrap ((u:Int)*144115188075855872)) / 144115188075855872=sext (u % 2 ^ 7) 7:=by
 rw [IntKind.wrap_u64];unfold wrap64 sext;simp only [Nat.reducePow,Nat.reduceSub];rw [if_neg (by omega)];split<;>omega
theorem ext12 (u:Nat):wrap64 (IntKind.u64.wrap ((u:Int)*4503599627370496)) / 4503599627370496=sext (u % 2 ^ 12) 12:=by
 rw [IntKind.wrap_u64];unfold wrap64 sext;simp only [Nat.reducePow,Nat.reduceSub];rw [if_neg (by omega)];split<;>omega
theorem ext32 (u:Nat):wrap64 (IntKind.u64.wrap ((u:Int)*4294967296)) / 4294967296=sext (u % 2 ^ 32) 32:=by
 rw [IntKind.wrap_u64];unfold wrap64 sext;simp only [Nat.reducePow,Nat.reduceSub];rw [if_neg (by omega)];split<;>omega
theorem ext64 (u:Nat):wrap64 (u:Int)=sext (u % 2 ^ 64) 64:=by
 unfold wrap64 sext;simp only [Nat.reducePow,Nat.reduceSub];rw [if_neg (by omega)];split<;>omega
set_option maxRecDepth 100000 in
theorem extend_any (w:World) (u k:Nat) (hu:u < 18446744073709551616) (hk:k≤4) :
  Calls Tryz.prog 257 #[.int .u64 (u:Int),.int .i64 (twid k:Int)] w fun e w'=>e=.returned (.int .i64 (sext (u % 2 ^ twid k) (twid k)))∧w=w':=by
 have:k=0∨k=1∨k=2∨k=3∨k=4:=by omega
 rcases this with rfl | rfl | rfl | rfl | rfl
 ·simp only [twid];go_enter Tryz.func257,Tryz.ntmps257
  go_wp2;go_ret;exact ⟨by simp [sext],rfl⟩
 ·simp only [twid];go_enter Tryz.func257,Tryz.ntmps257
  go_wp2;go_ret;refine ⟨congrArg Ending.returned (congrArg (Value.int IntKind.i64) ?_),rfl⟩;show wrap64 (IntKind.u64.wrap ((u:Int)*144115188075855872)) / 144115188075855872=_
  exact ext7 u
 ·simp only [twid];go_enter Tryz.func257,Tryz.ntmps257
  go_wp2;go_ret;refine ⟨congrArg Ending.returned (congrArg (Value.int IntKind.i64) ?_),rfl⟩;show wrap64 (IntKind.u64.wrap ((u:Int)*4503599627370496)) / 4503599627370496=_
  exact ext12 u
 ·simp only [twid];go_enter Tryz.func257,Tryz.ntmps257
  go_wp2;go_ret;refine ⟨congrArg Ending.returned (congrArg (Value.int IntKind.i64) ?_),rfl⟩;show wrap64 (IntKind.u64.wrap ((u:Int)*4294967296)) / 4294967296=_
  exact ext32 u
 ·simp only [twid];go_enter Tryz.func257,Tryz.ntmps257
  go_wp2;go_ret;refine ⟨congrArg Ending.returned (congrArg (Value.int IntKind.i64) ?_),rfl⟩;show wrap64 (u:Int)=_
  exact ext64 u
theorem tform_1 {x:Int} (h:-64≤x∧x≤63):tform x≤1:=by
 unfold tform;repeat' split
 all_goals omega
theorem tform_2 {x:Int} (h:-2048≤x∧x≤2047):tform x≤2:=by
 unfold tform;repeat' split
 all_goals omega
theorem tform_3 {x:Int} (h:-2147483648≤x∧x≤2147483647):tform x≤3:=by
 unfold tform;repeat' split
 all_goals omega
theorem sext_form {u k:Nat} (hk:k≤4) (h:u < 2 ^ twid k):tform (sext u (twid k))≤k:=by
 have:k=0∨k=1∨k=2∨k=3∨k=4:=by omega
 rcases this with rfl | rfl | rfl | rfl | rfl<;>simp only [twid] at h ⊢
 ·simp [sext,tform]
 ·refine tform_1 ?_;unfold sext;simp only [Nat.reducePow,Nat.reduceSub] at h ⊢;rw [if_neg (by omega)];split<;>omega
 ·refine tform_2 ?_;unfold sext;simp only [Nat.reducePow,Nat.reduceSub] at h ⊢;rw [if_neg (by omega)];split<;>omega
 ·refine tform_3 ?_;unfold sext;simp only [Nat.reducePow,Nat.reduceSub] at h ⊢;rw [if_neg (by omega)];split<;>omega
 ·exact tform_le _
theorem form_test {x:Int} {k:Nat} (hI:I6 x) (hk:k≤tform x):sext (uw x % 2 ^ twid k) (twid k)=x↔k=tform x:=by
 have h4:=tform_le x;constructor
 ·intro h;have:=sext_form (k:=k) (u:=uw x % 2 ^ twid k) (by omega) (Nat.mod_lt _ (Nat.pow_pos (by omega)));rw [h] at this;omega
 ·rintro rfl;exact sext_uw hI
set_option maxRecDepth 100000 in
set_option maxHeartbeats 2000000 in
theorem formOf_any (w:World) (x:Int) (hI:I6 x) (hG:Gl w):Calls Tryz.prog 258 #[.int .i64 x] w fun e w'=>e=.returned (.int .i64 (tform x:Int))∧Gr w w':=by
 have hux:IntKind.u64.wrap x=((uw x:Nat):Int):=by rw [IntKind.wrap_u64];unfold uw;omega
 have h4:=tform_le x;have c0:w.cell? ⟨0,0,none⟩=some (.int .u64 0):=hG.forms 0 _ rfl;have c1:w.cell? ⟨0,1,none⟩=some (.int .i64 1):=hG.forms 1 _ rfl;have c2:w.cell? ⟨0,2,none⟩=some (.int .i64 0):=hG.forms 2 _ rfl;have c3:w.cell? ⟨0,3,none⟩=some (.int .u64 2):=hG.forms 3 _ rfl;have c4:w.cell? ⟨0,4,none⟩=some (.int .i64 2):=hG.forms 4 _ rfl;have c5:w.cell? ⟨0,5,none⟩=some (.int .i64 7):=hG.forms 5 _ rfl;have c6:w.cell? ⟨0,6,none⟩=some (.int .u64 6):=hG.forms 6 _ rfl;have c7:w.cell? ⟨0,7,none⟩=some (.int .i64 3):=hG.forms 7 _ rfl;have c8:w.cell? ⟨0,8,none⟩=some (.int .i64 12):=hG.forms 8 _ rfl;have c9:w.cell? ⟨0,9,none⟩=some (.int .u64 14):=hG.forms 9 _ rfl;have c10:w.cell? ⟨0,10,none⟩=some (.int .i64 4):=hG.forms 10 _ rfl;have c11:w.cell? ⟨0,11,none⟩=some (.int .i64 32):=hG.forms 11 _ rfl;have c12:w.cell? ⟨0,12,none⟩=some (.int .u64 15):=hG.forms 12 _ rfl;have c13:w.cell? ⟨0,13,none⟩=some (.int .i64 4):=hG.forms 13 _ rfl;have c14:w.cell? ⟨0,14,none⟩=some (.int .i64 64):=hG.forms 14 _ rfl;have i0:∀ W,(Instr.index 350 (.agg #[.int .u64 0,.int .i64 1,.int .i64 0,.int .u64 2,.int .i64 2,.int .i64 7,.int .u64 6,.int .i64 3,.int .i64 12,.int .u64 14,.int .i64 4,.int .i64 32,.int .u64 15,.int .i64 4,.int .i64 64]) (.int .i64 0)).run Tryz.prog W=.ok (.agg #[.int .u64 0,.int .i64 1,.int .i64 0]) W:=fun _=>by kernel_rfl
 have i1:∀ W,(Instr.index 350 (.agg #[.int .u64 0,.int .i64 1,.int .i64 0,.int .u64 2,.int .i64 2,.int .i64 7,.int .u64 6,.int .i64 3,.int .i64 12,.int .u64 14,.int .i64 4,.int .i64 32,.int .u64 15,.int .i64 4,.int .i64 64]) (.int .i64 1)).run Tryz.prog W=.ok (.agg #[.int .u64 2,.int .i64 2,.int .i64 7]) W:=fun _=>by kernel_rfl
 have i2:∀ W,(Instr.index 350 (.agg #[.int .u64 0,.int .i64 1,.int .i64 0,.int .u64 2,.int .i64 2,.int .i64 7,.int .u64 6,.int .i64 3,.int .i64 12,.int .u64 14,.int .i64 4,.int .i64 32,.int .u64 15,.int .i64 4,.int .i64 64]) (.int .i64 2)).run Tryz.prog W=.ok (.agg #[.int .u64 6,.int .i64 3,.int .i64 12]) W:=fun _=>by kernel_rfl
 have i3:∀ W,(Instr.index 350 (.agg #[.int .u64 0,.int .i64 1,.int .i64 0,.int .u64 2,.int .i64 2,.int .i64 7,.int .u64 6,.int .i64 3,.int .i64 12,.int .u64 14,.int .i64 4,.int .i64 32,.int .u64 15,.int .i64 4,.int .i64 64]) (.int .i64 3)).run Tryz.prog W=.ok (.agg #[.int .u64 14,.int .i64 4,.int .i64 32]) W:=fun _=>by kernel_rfl
 have i4:∀ W,(Instr.index 350 (.agg #[.int .u64 0,.int .i64 1,.int .i64 0,.int .u64 2,.int .i64 2,.int .i64 7,.int .u64 6,.int .i64 3,.int .i64 12,.int .u64 14,.int .i64 4,.int .i64 32,.int .u64 15,.int .i64 4,.int .i64 64]) (.int .i64 4)).run Tryz.prog W=.ok (.agg #[.int .u64 15,.int .i64 4,.int .i64 64]) W:=fun _=>by kernel_rfl
 clear hG;go_enter Tryz.func258,Tryz.ntmps258
 go_wp2;go_loopw [6] (fun i wr=>∃ k:Nat,k≤tform x∧i=.int .i64 k∧Gr w wr) (fun i _=>5 - (intOf i).toNat)
 case atStart=>exact ⟨0,by omega,rfl,Gr.refl _⟩
 case round =>
  obtain ⟨k,hk,rfl,hgr⟩:=hrel;have hk5:k=0∨k=1∨k=2∨k=3∨k=4:=by omega
  rcases hk5 with rfl | rfl | rfl | rfl | rfl
  ·have HE:=hid fun W:World=>extend_any W (uw x) 0 (uw_lt x) (by omega)
   simp only [twid] at HE;by_cases hx:0=tform x
   ·have hq:((sext (uw x % 2 ^ twid 0) (twid 0)) == x)=true:=by rw [beq_iff_eq];exact (form_test hI hk).2 hx
    simp only [twid] at hq;generalize sext (uw x % 2 ^ 0) 0=y at *;have HXX:=hid hx;clear hx;go_wp2_with (go_at_call 257;refine (HE.out _).mono ?_;rintro e w1 ⟨rfl,rfl⟩)
    go_ret;exact ⟨by rw [← HXX.out];rfl,hgr.trans (Gr.alloc _ _)⟩
   ·have hq:((sext (uw x % 2 ^ twid 0) (twid 0)) == x)=false:=by rw [beq_eq_false_iff_ne];exact fun h=>hx ((form_test hI hk).1 h)
    simp only [twid] at hq;generalize sext (uw x % 2 ^ 0) 0=y at *;have HXX:=hid hx;clear hx;go_wp2_with (go_at_call 257;refine (HE.out _).mono ?_;rintro e w1 ⟨rfl,rfl⟩)
    go_roundw
    case rel=>exact ⟨1,by have:=HXX.out;omega,by simp,hgr.trans (Gr.alloc _ _)⟩
    case measure=>simp [intOf]
  ·have HE:=hid fun W:World=>extend_any W (uw x) 1 (uw_lt x) (by omega)
   simp only [twid] at HE;by_cases hx:1=tform x
   ·have hq:((sext (uw x % 2 ^ twid 1) (twid 1)) == x)=true:=by rw [beq_iff_eq];exact (form_test hI hk).2 hx
    simp only [twid] at hq;generalize sext (uw x % 2 ^ 7) 7=y at *;have HXX:=hid hx;clear hx;go_wp2_with (go_at_call 257;refine (HE.out _).mono ?_;rintro e w1 ⟨rfl,rfl⟩)
    go_ret;exact ⟨by rw [← HXX.out];rfl,hgr.trans (Gr.alloc _ _)⟩
   ·have hq:((sext (uw x % 2 ^ twid 1) (twid 1)) == x)=false:=by rw [beq_eq_false_iff_ne];exact fun h=>hx ((form_test hI hk).1 h)
    simp only [twid] at hq;generalize sext (uw x % 2 ^ 7) 7=y at *;have HXX:=hid hx;clear hx;go_wp2_with (go_at_call 257;refine (HE.out _).mono ?_;rintro e w1 ⟨rfl,rfl⟩)
    go_roundw
    case rel=>exact ⟨2,by have:=HXX.out;omega,by simp,hgr.trans (Gr.alloc _ _)⟩
    case measure=>simp [intOf]
  ·have HE:=hid fun W:World=>extend_any W (uw x) 2 (uw_lt x) (by omega)
   simp only [twid] at HE;by_cases hx:2=tform x
   ·have hq:((sext (uw x % 2 ^ twid 2) (twid 2)) == x)=true:=by rw [beq_iff_eq];exact (form_test hI hk).2 hx
    simp only [twid] at hq;generalize sext (uw x % 2 ^ 12) 12=y at *;have HXX:=hid hx;clear hx;go_wp2_with (go_at_call 257;refine (HE.out _).mono ?_;rintro e w1 ⟨rfl,rfl⟩)
    go_ret;exact ⟨by rw [← HXX.out];rfl,hgr.trans (Gr.alloc _ _)⟩
   ·have hq:((sext (uw x % 2 ^ twid 2) (twid 2)) == x)=false:=by rw [beq_eq_false_iff_ne];exact fun h=>hx ((form_test hI hk).1 h)
    simp only [twid] at hq;generalize sext (uw x % 2 ^ 12) 12=y at *;have HXX:=hid hx;clear hx;go_wp2_with (go_at_call 257;refine (HE.out _).mono ?_;rintro e w1 ⟨rfl,rfl⟩)
    go_roundw
    case rel=>exact ⟨3,by have:=HXX.out;omega,by simp,hgr.trans (Gr.alloc _ _)⟩
    case measure=>simp [intOf]
  ·have HE:=hid fun W:World=>extend_any W (uw x) 3 (uw_lt x) (by omega)
   simp only [twid] at HE;by_cases hx:3=tform x
   ·have hq:((sext (uw x % 2 ^ twid 3) (twid 3)) == x)=true:=by rw [beq_iff_eq];exact (form_test hI hk).2 hx
    simp only [twid] at hq;generalize sext (uw x % 2 ^ 32) 32=y at *;have HXX:=hid hx;clear hx;go_wp2_with (go_at_call 257;refine (HE.out _).mono ?_;rintro e w1 ⟨rfl,rfl⟩)
    go_ret;exact ⟨by rw [← HXX.out];rfl,hgr.trans (Gr.alloc _ _)⟩
   ·have hq:((sext (uw x % 2 ^ twid 3) (twid 3)) == x)=false:=by rw [beq_eq_false_iff_ne];exact fun h=>hx ((form_test hI hk).1 h)
    simp only [twid] at hq;generalize sext (uw x % 2 ^ 32) 32=y at *;have HXX:=hid hx;clear hx;go_wp2_with (go_at_call 257;refine (HE.out _).mono ?_;rintro e w1 ⟨rfl,rfl⟩)
    go_roundw
    case rel=>exact ⟨4,by have:=HXX.out;omega,by simp,hgr.trans (Gr.alloc _ _)⟩
    case measure=>simp [intOf]
  ·have HE:=hid fun W:World=>extend_any W (uw x) 4 (uw_lt x) (by omega)
   simp only [twid] at HE;by_cases hx:4=tform x
   ·have hq:((sext (uw x % 2 ^ twid 4) (twid 4)) == x)=true:=by rw [beq_iff_eq];exact (form_test hI hk).2 hx
    simp only [twid] at hq;generalize sext (uw x % 2 ^ 64) 64=y at *;have HXX:=hid hx;clear hx;go_wp2_with (go_at_call 257;refine (HE.out _).mono ?_;rintro e w1 ⟨rfl,rfl⟩)
    go_ret;exact ⟨by rw [← HXX.out];rfl,hgr.trans (Gr.alloc _ _)⟩
   ·have hq:((sext (uw x % 2 ^ twid 4) (twid 4)) == x)=false:=by rw [beq_eq_false_iff_ne];exact fun h=>hx ((form_test hI hk).1 h)
    simp only [twid] at hq;generalize sext (uw x % 2 ^ 64) 64=y at *;have HXX:=hid hx;clear hx;go_wp2_with (go_at_call 257;refine (HE.out _).mono ?_;rintro e w1 ⟨rfl,rfl⟩)
    go_roundw
    case rel=>exact ⟨5,by have:=HXX.out;omega,by simp,hgr.trans (Gr.alloc _ _)⟩
    case measure=>simp [intOf]
end
section
open Go Go.RowKit Go.Sort
theorem rest_take {bytes:List Nat} {pos:Nat} {r:List Bool} {n:Nat} (h:rest bytes pos=r):rest bytes (pos+n)=r.drop n:=by rw [← h];simp [rest]
def RGot {α:Type} (w:World) (gr b:Nat) (bytes:List Nat) (V:α→Nat→Ending) (X:Except Nat (α × List Bool)) (e:Ending) (w':World):Prop :=
 (match X with
  | .ok (x,r)=>e=V x 0∧∃ pos,Rdr w' gr b bytes pos∧rest bytes pos=r
  | .error k=>k≠0∧∃ x,e=V x k)∧Kp gr gr w w'
def formX (X:Option (Nat × List Bool)):Except Nat (Nat × List Bool):=match X with | none=>.error 3 | some y=>.ok y
theorem getForm_any (w:World) (gr b:Nat) (bytes:List Nat) (pos:Nat) (h:Rdr w gr b bytes pos) :
  Calls Tryz.prog 256 #[.pointer (some ⟨gr,0,none⟩)] w (RGot w gr b bytes (fun k e=>.returned (.tuple #[.int .i64 ((k:Nat):Int),.int .i64 (e:Int)])) (formX (gform 4 0 (rest bytes pos)))):=by
 obtain ⟨X,hX⟩:∃ X,X=formX (gform 4 0 (rest bytes pos)):=⟨_,rfl⟩;have hX0:=hid (show X=formX (gform 4 0 (rest bytes pos)) from hX);rw [← hX];have HR:=hid h;clear hX h;go_enter Tryz.func256,Tryz.ntmps256
 go_wp2;go_loopw [7] (fun i wr=>∃ k:Nat,k≤4∧i=.int .i64 k∧Kp gr gr w wr∧∃ p,Rdr wr gr b bytes p∧X=formX (gform (4 - k) k (rest bytes p))) (fun i _=>4 - (intOf i).toNat)
 case atStart=>exact ⟨0,by omega,rfl,Kp.refl _ _ _,pos,HR.out,hX0.out⟩
 case round =>
  obtain ⟨k,hk,rfl,hK,p,hR,hX⟩:=hrel;have HX:=hid hX;have HK:=hid hK;clear hX hK;by_cases hlt:k < 4
  ·have hwi:=hR.within;have hlen:=rest_length bytes p;have e4:4 - k=(3 - k)+1:=by omega
   cases hr:rest bytes p with
   | nil =>
    rw [hr] at hlen;have H:=hid (RBits_eof wr gr b bytes p 1 hR (by omega) (by simp at hlen;omega));have HX2:=hid (show X=.error 3 from by rw [HX.out,hr,e4];rfl);clear hR e4 hlen hr;go_wp2_with (go_at_call 197;refine H.out.mono ?_;rintro e w1 ⟨rfl,hD⟩)
    go_ret2;rw [HX2.out];exact ⟨⟨by omega,_,rfl⟩,HK.out.nw' hD.nw⟩
   | cons x r =>
    rw [hr] at hlen;have H:=RBits_ok wr gr b bytes p 1 hR (by omega) (by simp at hlen;omega);rw [hr] at H;have hr1:=rest_take (n:=1) hr;cases x with
    | false =>
     have HX2:=hid (show X=.ok (k,r) from by rw [HX.out,hr,e4];rfl);have H:=hid H;have HR1:=hid hr1;clear hR e4 hlen hr hr1;go_wp2_with (go_at_call 197;refine H.out.mono ?_;rintro e w1 ⟨rfl,hR1,hK1⟩)
     go_ret2;rw [HX2.out];exact ⟨⟨rfl,p+1,hR1,HR1.out⟩,HK.out.trans hK1 (.inl rfl) (.inl rfl)⟩
    | true =>
     have HX2:=hid (show X=formX (gform (4 - (k+1)) (k+1) r) from by rw [HX.out,hr,e4,show 4 - (k+1)=3 - k from by omega];rfl);have H:=hid H;have HR1:=hid hr1;clear hR e4 hlen hr hr1;go_wp2_with (go_at_call 197;refine H.out.mono ?_;rintro e w1 ⟨rfl,hR1,hK1⟩)
     go_roundw
     case rel=>exact ⟨k+1,by omega,by go_num,HK.out.trans hK1 (.inl rfl) (.inl rfl),p+1,hR1,by rw [HX2.out,HR1.out];rfl⟩
     case measure=>simp [intOf];omega
  ·obtain rfl:k=4:=by omega
   go_wp2;go_ret2;rw [HX.out];exact ⟨⟨rfl,p,hR,rfl⟩,HK.out⟩
set_option maxRecDepth 100000 in
theorem getChange_0 (w:World) (gr b:Nat) (bytes:List Nat) (pos:Nat) (h:Rdr w gr b bytes pos) (hG:Gl w) (hgr2:3≤gr) (r:List Bool) (hX:gform 4 0 (rest bytes pos)=some (0,r)) :
  Calls Tryz.prog 198 #[.pointer (some ⟨gr,0,none⟩)] w (RGot w gr b bytes (fun x e=>.returned (.tuple #[.int .i64 x,.int .i64 (e:Int)])) (gchg (rest bytes pos))):=by
 have HF:=getForm_any w gr b bytes pos h;have hgx:gchg (rest bytes pos)=if r.length < 0 then .error 3 else if tform (sext (bv (r.take 0)) 0)=0 then .ok (sext (bv (r.take 0)) 0,r.drop 0) else .error 8:=by
  unfold gchg;rw [hX];rfl
 rw [hX] at HF;generalize gchg (rest bytes pos)=X at *;have HXE:=hid hgx;have HF:=hid HF;have HG:=hid hG;clear h hG hgx;go_enter Tryz.func198,Tryz.ntmps198
 go_wp2_with (go_at_call 256;refine HF.out.mono ?_;rintro e w1 ⟨⟨rfl,p,hR,hr⟩,hK⟩;have hc1:w1.cell? ⟨0,2,none⟩=some (.int .i64 0):=(HG.out.kp hK hgr2 hgr2).forms 2 _ rfl)
 have hG1:=HG.out.kp hK hgr2 hgr2;have hwi:=hR.within;have hlen:=rest_length bytes p;rw [hr] at hlen;by_cases hfit:r.length < 0
 ·omega
 ·have HXE:=hid (show X=if tform (sext (bv (r.take 0)) 0)=0 then .ok (sext (bv (r.take 0)) 0,r.drop 0) else .error 8 from by rw [HXE.out,if_neg hfit]);have hB:=RBits_ok w1 gr b bytes p 0 hR (by omega) (by omega);rw [hr] at hB;have hr2:=rest_take (n:=0) hr;obtain ⟨hb1,hb2⟩:=bits_take (r:=r) (n:=0) (by omega);generalize bv (r.take 0)=u at *;have hu:u < 18446744073709551616:=by
   have h64:2 ^ 0≤2 ^ 64:=Nat.pow_le_pow_right (by omega) (by omega);rw [pow64] at h64;omega
  have hE0:∀ W:World,Calls Tryz.prog 257 #[.int .u64 (u:Int),.int .i64 0] W fun e w'=>e=.returned (.int .i64 (sext u 0))∧W=w':=by
   intro W;have h:=extend_any W u 0 hu (by omega);simp only [twid] at h
   rwa [Nat.mod_eq_of_lt hb2] at h
  have hxI:I6 (sext u 0):=sext_in (k:=0) (by omega) (by simpa [twid] using hb2);generalize sext u 0=x at *;have HB:=hid hB;have HE:=hid hE0;have HR2:=hid hr2;have HK:=hid hK;have HFo:=hid fun W (hN:Kp gr gr w1 W)=>formOf_any W x hxI (hG1.kp hN hgr2 hgr2)
  have HG1:=hid hG1;clear hB hE0 hr2 hK hR hr hb1 hb2 hG1;by_cases hf:tform x=0
  ·have hfq:((tform x:Int) != 0)=false:=by simp;omega
   have HXF:=hid (show X=.ok (x,r.drop 0) from by rw [HXE.out,if_pos hf]);have HFF:=hid hf;generalize tform x=f at *;clear hf;go_wp2_with (first
    | (go_at_call 197;refine HB.out.mono ?_;rintro e w2 ⟨rfl,hR2,hK2⟩;have hc2:=(HG1.out.kp hK2 hgr2 hgr2).forms 2 _ rfl)
    | (go_at_call 257;refine (HE.out _).mono ?_;rintro e w3 ⟨rfl,rfl⟩)
    | (go_at_call 258;refine (HFo.out _ hK2).mono ?_;rintro e w4 ⟨rfl,hgr4⟩))
   go_ret2;rw [HXF.out];exact ⟨⟨rfl,p+0,hR2.nw hgr4.nw,HR2.out⟩,(HK.out.trans hK2 (.inl rfl) (.inl rfl)).nw' hgr4.nw⟩
  ·have hfq:((tform x:Int) != 0)=true:=by simp;omega
   have HXF:=hid (show X=.error 8 from by rw [HXE.out,if_neg hf]);have HFF:=hid hf;generalize tform x=f at *;clear hf;go_wp2_with (first
    | (go_at_call 197;refine HB.out.mono ?_;rintro e w2 ⟨rfl,hR2,hK2⟩;have hc2:=(HG1.out.kp hK2 hgr2 hgr2).forms 2 _ rfl)
    | (go_at_call 257;refine (HE.out _).mono ?_;rintro e w3 ⟨rfl,rfl⟩)
    | (go_at_call 258;refine (HFo.out _ hK2).mono ?_;rintro e w4 ⟨rfl,hgr4⟩))
   go_ret2;rw [HXF.out];exact ⟨⟨by omega,_,rfl⟩,(HK.out.trans hK2 (.inl rfl) (.inl rfl)).nw' hgr4.nw⟩
set_option maxRecDepth 100000 in
theorem getChange_1 (w:World) (gr b:Nat) (bytes:List Nat) (pos:Nat) (h:Rdr w gr b bytes pos) (hG:Gl w) (hgr2:3≤gr) (r:List Bool) (hX:gform 4 0 (rest bytes pos)=some (1,r)) :
  Calls Tryz.prog 198 #[.pointer (some ⟨gr,0,none⟩)] w (RGot w gr b bytes (fun x e=>.returned (.tuple #[.int .i64 x,.int .i64 (e:Int)])) (gchg (rest bytes pos))):=by
 have HF:=getForm_any w gr b bytes pos h;have hgx:gchg (rest bytes pos)=if r.length < 7 then .error 3 else if tform (sext (bv (r.take 7)) 7)=1 then .ok (sext (bv (r.take 7)) 7,r.drop 7) else .error 8:=by
  unfold gchg;rw [hX];rfl
 rw [hX] at HF;generalize gchg (rest bytes pos)=X at *;have HXE:=hid hgx;have HF:=hid HF;have HG:=hid hG;clear h hG hgx;go_enter Tryz.func198,Tryz.ntmps198
 go_wp2_with (go_at_call 256;refine HF.out.mono ?_;rintro e w1 ⟨⟨rfl,p,hR,hr⟩,hK⟩;have hc1:w1.cell? ⟨0,5,none⟩=some (.int .i64 7):=(HG.out.kp hK hgr2 hgr2).forms 5 _ rfl)
 have hG1:=HG.out.kp hK hgr2 hgr2;have hwi:=hR.within;have hlen:=rest_length bytes p;rw [hr] at hlen;by_cases hfit:r.length < 7
 ·have HXE:=hid (show X=.error 3 from by rw [HXE.out,if_pos hfit]);have HB:=hid (RBits_eof w1 gr b bytes p 7 hR (by omega) (by omega));have HE:=hid fun W:World=>extend_any W 0 1 (by omega) (by omega)
  simp only [twid] at HE;have HK:=hid hK;clear hR hG1 hK hr;go_wp2_with (first
   | (go_at_call 197;refine HB.out.mono ?_;rintro e w2 ⟨rfl,hD⟩;have hc2:=cell_old (v:=.int .i64 7) (a:=⟨0,5,none⟩) hD.nw (by have:=HG.out.lt;have:=HK.out.size;simp only;omega) hc1)
   | (go_at_call 257;refine (HE.out _).mono ?_;rintro e w3 ⟨rfl,rfl⟩))
  go_ret2;rw [HXE.out];exact ⟨⟨by omega,_,rfl⟩,HK.out.nw' hD.nw⟩
 ·have HXE:=hid (show X=if tform (sext (bv (r.take 7)) 7)=1 then .ok (sext (bv (r.take 7)) 7,r.drop 7) else .error 8 from by rw [HXE.out,if_neg hfit]);have hB:=RBits_ok w1 gr b bytes p 7 hR (by omega) (by omega);rw [hr] at hB;have hr2:=rest_take (n:=7) hr;obtain ⟨hb1,hb2⟩:=bits_take (r:=r) (n:=7) (by omega);generalize bv (r.take 7)=u at *;have hu:u < 18446744073709551616:=by
   have h64:2 ^ 7≤2 ^ 64:=Nat.pow_le_pow_right (by omega) (by omega);rw [pow64] at h64;omega
  have hE0:∀ W:World,Calls Tryz.prog 257 #[.int .u64 (u:Int),.int .i64 7] W fun e w'=>e=.returned (.int .i64 (sext u 7))∧W=w':=by
   intro W;have h:=extend_any W u 1 hu (by omega);simp only [twid] at h
   rwa [Nat.mod_eq_of_lt hb2] at h
  have hxI:I6 (sext u 7):=sext_in (k:=1) (by omega) (by simpa [twid] using hb2);generalize sext u 7=x at *;have HB:=hid hB;have HE:=hid hE0;have HR2:=hid hr2;have HK:=hid hK;have HFo:=hid fun W (hN:Kp gr gr w1 W)=>formOf_any W x hxI (hG1.kp hN hgr2 hgr2)
  have HG1:=hid hG1;clear hB hE0 hr2 hK hR hr hb1 hb2 hG1;by_cases hf:tform x=1
  ·have hfq:((tform x:Int) != 1)=false:=by simp;omega
   have HXF:=hid (show X=.ok (x,r.drop 7) from by rw [HXE.out,if_pos hf]);have HFF:=hid hf;generalize tform x=f at *;clear hf;go_wp2_with (first
    | (go_at_call 197;refine HB.out.mono ?_;rintro e w2 ⟨rfl,hR2,hK2⟩;have hc2:=(HG1.out.kp hK2 hgr2 hgr2).forms 5 _ rfl)
    | (go_at_call 257;refine (HE.out _).mono ?_;rintro e w3 ⟨rfl,rfl⟩)
    | (go_at_call 258;refine (HFo.out _ hK2).mono ?_;rintro e w4 ⟨rfl,hgr4⟩))
   go_ret2;rw [HXF.out];exact ⟨⟨rfl,p+7,hR2.nw hgr4.nw,HR2.out⟩,(HK.out.trans hK2 (.inl rfl) (.inl rfl)).nw' hgr4.nw⟩
  ·have hfq:((tform x:Int) != 1)=true:=by simp;omega
   have HXF:=hid (show X=.error 8 from by rw [HXE.out,if_neg hf]);have HFF:=hid hf;generalize tform x=f at *;clear hf;go_wp2_with (first
    | (go_at_call 197;refine HB.out.mono ?_;rintro e w2 ⟨rfl,hR2,hK2⟩;have hc2:=(HG1.out.kp hK2 hgr2 hgr2).forms 5 _ rfl)
    | (go_at_call 257;refine (HE.out _).mono ?_;rintro e w3 ⟨rfl,rfl⟩)
    | (go_at_call 258;refine (HFo.out _ hK2).mono ?_;rintro e w4 ⟨rfl,hgr4⟩))
   go_ret2;rw [HXF.out];exact ⟨⟨by omega,_,rfl⟩,(HK.out.trans hK2 (.inl rfl) (.inl rfl)).nw' hgr4.nw⟩
set_option maxRecDepth 100000 in
theorem getChange_2 (w:World) (gr b:Nat) (bytes:List Nat) (pos:Nat) (h:Rdr w gr b bytes pos) (hG:Gl w) (hgr2:3≤gr) (r:List Bool) (hX:gform 4 0 (rest bytes pos)=some (2,r)) :
  Calls Tryz.prog 198 #[.pointer (some ⟨gr,0,none⟩)] w (RGot w gr b bytes (fun x e=>.returned (.tuple #[.int .i64 x,.int .i64 (e:Int)])) (gchg (rest bytes pos))):=by
 have HF:=getForm_any w gr b bytes pos h;have hgx:gchg (rest bytes pos)=if r.length < 12 then .error 3 else if tform (sext (bv (r.take 12)) 12)=2 then .ok (sext (bv (r.take 12)) 12,r.drop 12) else .error 8:=by
  unfold gchg;rw [hX];rfl
 rw [hX] at HF;generalize gchg (rest bytes pos)=X at *;have HXE:=hid hgx;have HF:=hid HF;have HG:=hid hG;clear h hG hgx;go_enter Tryz.func198,Tryz.ntmps198
 go_wp2_with (go_at_call 256;refine HF.out.mono ?_;rintro e w1 ⟨⟨rfl,p,hR,hr⟩,hK⟩;have hc1:w1.cell? ⟨0,8,none⟩=some (.int .i64 12):=(HG.out.kp hK hgr2 hgr2).forms 8 _ rfl)
 have hG1:=HG.out.kp hK hgr2 hgr2;have hwi:=hR.within;have hlen:=rest_length bytes p;rw [hr] at hlen;by_cases hfit:r.length < 12
 ·have HXE:=hid (show X=.error 3 from by rw [HXE.out,if_pos hfit]);have HB:=hid (RBits_eof w1 gr b bytes p 12 hR (by omega) (by omega));have HE:=hid fun W:World=>extend_any W 0 2 (by omega) (by omega)
  simp only [twid] at HE;have HK:=hid hK;clear hR hG1 hK hr;go_wp2_with (first
   | (go_at_call 197;refine HB.out.mono ?_;rintro e w2 ⟨rfl,hD⟩;have hc2:=cell_old (v:=.int .i64 12) (a:=⟨0,8,none⟩) hD.nw (by have:=HG.out.lt;have:=HK.out.size;simp only;omega) hc1)
   | (go_at_call 257;refine (HE.out _).mono ?_;rintro e w3 ⟨rfl,rfl⟩))
  go_ret2;rw [HXE.out];exact ⟨⟨by omega,_,rfl⟩,HK.out.nw' hD.nw⟩
 ·have HXE:=hid (show X=if tform (sext (bv (r.take 12)) 12)=2 then .ok (sext (bv (r.take 12)) 12,r.drop 12) else .error 8 from by rw [HXE.out,if_neg hfit]);have hB:=RBits_ok w1 gr b bytes p 12 hR (by omega) (by omega);rw [hr] at hB;have hr2:=rest_take (n:=12) hr;obtain ⟨hb1,hb2⟩:=bits_take (r:=r) (n:=12) (by omega);generalize bv (r.take 12)=u at *;have hu:u < 18446744073709551616:=by
   have h64:2 ^ 12≤2 ^ 64:=Nat.pow_le_pow_right (by omega) (by omega);rw [pow64] at h64;omega
  have hE0:∀ W:World,Calls Tryz.prog 257 #[.int .u64 (u:Int),.int .i64 12] W fun e w'=>e=.returned (.int .i64 (sext u 12))∧W=w':=by
   intro W;have h:=extend_any W u 2 hu (by omega);simp only [twid] at h
   rwa [Nat.mod_eq_of_lt hb2] at h
  have hxI:I6 (sext u 12):=sext_in (k:=2) (by omega) (by simpa [twid] using hb2);generalize sext u 12=x at *;have HB:=hid hB;have HE:=hid hE0;have HR2:=hid hr2;have HK:=hid hK;have HFo:=hid fun W (hN:Kp gr gr w1 W)=>formOf_any W x hxI (hG1.kp hN hgr2 hgr2)
  have HG1:=hid hG1;clear hB hE0 hr2 hK hR hr hb1 hb2 hG1;by_cases hf:tform x=2
  ·have hfq:((tform x:Int) != 2)=false:=by simp;omega
   have HXF:=hid (show X=.ok (x,r.drop 12) from by rw [HXE.out,if_pos hf]);have HFF:=hid hf;generalize tform x=f at *;clear hf;go_wp2_with (first
    | (go_at_call 197;refine HB.out.mono ?_;rintro e w2 ⟨rfl,hR2,hK2⟩;have hc2:=(HG1.out.kp hK2 hgr2 hgr2).forms 8 _ rfl)
    | (go_at_call 257;refine (HE.out _).mono ?_;rintro e w3 ⟨rfl,rfl⟩)
    | (go_at_call 258;refine (HFo.out _ hK2).mono ?_;rintro e w4 ⟨rfl,hgr4⟩))
   go_ret2;rw [HXF.out];exact ⟨⟨rfl,p+12,hR2.nw hgr4.nw,HR2.out⟩,(HK.out.trans hK2 (.inl rfl) (.inl rfl)).nw' hgr4.nw⟩
  ·have hfq:((tform x:Int) != 2)=true:=by simp;omega
   have HXF:=hid (show X=.error 8 from by rw [HXE.out,if_neg hf]);have HFF:=hid hf;generalize tform x=f at *;clear hf;go_wp2_with (first
    | (go_at_call 197;refine HB.out.mono ?_;rintro e w2 ⟨rfl,hR2,hK2⟩;have hc2:=(HG1.out.kp hK2 hgr2 hgr2).forms 8 _ rfl)
    | (go_at_call 257;refine (HE.out _).mono ?_;rintro e w3 ⟨rfl,rfl⟩)
    | (go_at_call 258;refine (HFo.out _ hK2).mono ?_;rintro e w4 ⟨rfl,hgr4⟩))
   go_ret2;rw [HXF.out];exact ⟨⟨by omega,_,rfl⟩,(HK.out.trans hK2 (.inl rfl) (.inl rfl)).nw' hgr4.nw⟩
set_option maxRecDepth 100000 in
theorem getChange_3 (w:World) (gr b:Nat) (bytes:List Nat) (pos:Nat) (h:Rdr w gr b bytes pos) (hG:Gl w) (hgr2:3≤gr) (r:List Bool) (hX:gform 4 0 (rest bytes pos)=some (3,r)) :
  Calls Tryz.prog 198 #[.pointer (some ⟨gr,0,none⟩)] w (RGot w gr b bytes (fun x e=>.returned (.tuple #[.int .i64 x,.int .i64 (e:Int)])) (gchg (rest bytes pos))):=by
 have HF:=getForm_any w gr b bytes pos h;have hgx:gchg (rest bytes pos)=if r.length < 32 then .error 3 else if tform (sext (bv (r.take 32)) 32)=3 then .ok (sext (bv (r.take 32)) 32,r.drop 32) else .error 8:=by
  unfold gchg;rw [hX];rfl
 rw [hX] at HF;generalize gchg (rest bytes pos)=X at *;have HXE:=hid hgx;have HF:=hid HF;have HG:=hid hG;clear h hG hgx;go_enter Tryz.func198,Tryz.ntmps198
 go_wp2_with (go_at_call 256;refine HF.out.mono ?_;rintro e w1 ⟨⟨rfl,p,hR,hr⟩,hK⟩;have hc1:w1.cell? ⟨0,11,none⟩=some (.int .i64 32):=(HG.out.kp hK hgr2 hgr2).forms 11 _ rfl)
 have hG1:=HG.out.kp hK hgr2 hgr2;have hwi:=hR.within;have hlen:=rest_length bytes p;rw [hr] at hlen;by_cases hfit:r.length < 32
 ·have HXE:=hid (show X=.error 3 from by rw [HXE.out,if_pos hfit]);have HB:=hid (RBits_eof w1 gr b bytes p 32 hR (by omega) (by omega));have HE:=hid fun W:World=>extend_any W 0 3 (by omega) (by omega)
  simp only [twid] at HE;have HK:=hid hK;clear hR hG1 hK hr;go_wp2_with (first
   | (go_at_call 197;refine HB.out.mono ?_;rintro e w2 ⟨rfl,hD⟩;have hc2:=cell_old (v:=.int .i64 32) (a:=⟨0,11,none⟩) hD.nw (by have:=HG.out.lt;have:=HK.out.size;simp only;omega) hc1)
   | (go_at_call 257;refine (HE.out _).mono ?_;rintro e w3 ⟨rfl,rfl⟩))
  go_ret2;rw [HXE.out];exact ⟨⟨by omega,_,rfl⟩,HK.out.nw' hD.nw⟩
 ·have HXE:=hid (show X=if tform (sext (bv (r.take 32)) 32)=3 then .ok (sext (bv (r.take 32)) 32,r.drop 32) else .error 8 from by rw [HXE.out,if_neg hfit]);have hB:=RBits_ok w1 gr b bytes p 32 hR (by omega) (by omega);rw [hr] at hB;have hr2:=rest_take (n:=32) hr;obtain ⟨hb1,hb2⟩:=bits_take (r:=r) (n:=32) (by omega);generalize bv (r.take 32)=u at *;have hu:u < 18446744073709551616:=by
   have h64:2 ^ 32≤2 ^ 64:=Nat.pow_le_pow_right (by omega) (by omega);rw [pow64] at h64;omega
  have hE0:∀ W:World,Calls Tryz.prog 257 #[.int .u64 (u:Int),.int .i64 32] W fun e w'=>e=.returned (.int .i64 (sext u 32))∧W=w':=by
   intro W;have h:=extend_any W u 3 hu (by omega);simp only [twid] at h
   rwa [Nat.mod_eq_of_lt hb2] at h
  have hxI:I6 (sext u 32):=sext_in (k:=3) (by omega) (by simpa [twid] using hb2);generalize sext u 32=x at *;have HB:=hid hB;have HE:=hid hE0;have HR2:=hid hr2;have HK:=hid hK;have HFo:=hid fun W (hN:Kp gr gr w1 W)=>formOf_any W x hxI (hG1.kp hN hgr2 hgr2)
  have HG1:=hid hG1;clear hB hE0 hr2 hK hR hr hb1 hb2 hG1;by_cases hf:tform x=3
  ·have hfq:((tform x:Int) != 3)=false:=by simp;omega
   have HXF:=hid (show X=.ok (x,r.drop 32) from by rw [HXE.out,if_pos hf]);have HFF:=hid hf;generalize tform x=f at *;clear hf;go_wp2_with (first
    | (go_at_call 197;refine HB.out.mono ?_;rintro e w2 ⟨rfl,hR2,hK2⟩;have hc2:=(HG1.out.kp hK2 hgr2 hgr2).forms 11 _ rfl)
    | (go_at_call 257;refine (HE.out _).mono ?_;rintro e w3 ⟨rfl,rfl⟩)
    | (go_at_call 258;refine (HFo.out _ hK2).mono ?_;rintro e w4 ⟨rfl,hgr4⟩))
   go_ret2;rw [HXF.out];exact ⟨⟨rfl,p+32,hR2.nw hgr4.nw,HR2.out⟩,(HK.out.trans hK2 (.inl rfl) (.inl rfl)).nw' hgr4.nw⟩
  ·have hfq:((tform x:Int) != 3)=true:=by simp;omega
   have HXF:=hid (show X=.error 8 from by rw [HXE.out,if_neg hf]);have HFF:=hid hf;generalize tform x=f at *;clear hf;go_wp2_with (first
    | (go_at_call 197;refine HB.out.mono ?_;rintro e w2 ⟨rfl,hR2,hK2⟩;have hc2:=(HG1.out.kp hK2 hgr2 hgr2).forms 11 _ rfl)
    | (go_at_call 257;refine (HE.out _).mono ?_;rintro e w3 ⟨rfl,rfl⟩)
    | (go_at_call 258;refine (HFo.out _ hK2).mono ?_;rintro e w4 ⟨rfl,hgr4⟩))
   go_ret2;rw [HXF.out];exact ⟨⟨by omega,_,rfl⟩,(HK.out.trans hK2 (.inl rfl) (.inl rfl)).nw' hgr4.nw⟩
set_option maxRecDepth 100000 in
theorem getChange_4 (w:World) (gr b:Nat) (bytes:List Nat) (pos:Nat) (h:Rdr w gr b bytes pos) (hG:Gl w) (hgr2:3≤gr) (r:List Bool) (hX:gform 4 0 (rest bytes pos)=some (4,r)) :
  Calls Tryz.prog 198 #[.pointer (some ⟨gr,0,none⟩)] w (RGot w gr b bytes (fun x e=>.returned (.tuple #[.int .i64 x,.int .i64 (e:Int)])) (gchg (rest bytes pos))):=by
 have HF:=getForm_any w gr b bytes pos h;have hgx:gchg (rest bytes pos)=if r.length < 64 then .error 3 else if tform (sext (bv (r.take 64)) 64)=4 then .ok (sext (bv (r.take 64)) 64,r.drop 64) else .error 8:=by
  unfold gchg;rw [hX];rfl
 rw [hX] at HF;generalize gchg (rest bytes pos)=X at *;have HXE:=hid hgx;have HF:=hid HF;have HG:=hid hG;clear h hG hgx;go_enter Tryz.func198,Tryz.ntmps198
 go_wp2_with (go_at_call 256;refine HF.out.mono ?_;rintro e w1 ⟨⟨rfl,p,hR,hr⟩,hK⟩;have hc1:w1.cell? ⟨0,14,none⟩=some (.int .i64 64):=(HG.out.kp hK hgr2 hgr2).forms 14 _ rfl)
 have hG1:=HG.out.kp hK hgr2 hgr2;have hwi:=hR.within;have hlen:=rest_length bytes p;rw [hr] at hlen;by_cases hfit:r.length < 64
 ·have HXE:=hid (show X=.error 3 from by rw [HXE.out,if_pos hfit]);have HB:=hid (RBits_eof w1 gr b bytes p 64 hR (by omega) (by omega));have HE:=hid fun W:World=>extend_any W 0 4 (by omega) (by omega)
  simp only [twid] at HE;have HK:=hid hK;clear hR hG1 hK hr;go_wp2_with (first
   | (go_at_call 197;refine HB.out.mono ?_;rintro e w2 ⟨rfl,hD⟩;have hc2:=cell_old (v:=.int .i64 64) (a:=⟨0,14,none⟩) hD.nw (by have:=HG.out.lt;have:=HK.out.size;simp only;omega) hc1)
   | (go_at_call 257;refine (HE.out _).mono ?_;rintro e w3 ⟨rfl,rfl⟩))
  go_ret2;rw [HXE.out];exact ⟨⟨by omega,_,rfl⟩,HK.out.nw' hD.nw⟩
 ·have HXE:=hid (show X=if tform (sext (bv (r.take 64)) 64)=4 then .ok (sext (bv (r.take 64)) 64,r.drop 64) else .error 8 from by rw [HXE.out,if_neg hfit]);have hB:=RBits_ok w1 gr b bytes p 64 hR (by omega) (by omega);rw [hr] at hB;have hr2:=rest_take (n:=64) hr;obtain ⟨hb1,hb2⟩:=bits_take (r:=r) (n:=64) (by omega);generalize bv (r.take 64)=u at *;have hu:u < 18446744073709551616:=by
   have h64:2 ^ 64≤2 ^ 64:=Nat.pow_le_pow_right (by omega) (by omega);rw [pow64] at h64;omega
  have hE0:∀ W:World,Calls Tryz.prog 257 #[.int .u64 (u:Int),.int .i64 64] W fun e w'=>e=.returned (.int .i64 (sext u 64))∧W=w':=by
   intro W;have h:=extend_any W u 4 hu (by omega);simp only [twid] at h
   rwa [Nat.mod_eq_of_lt hb2] at h
  have hxI:I6 (sext u 64):=sext_in (k:=4) (by omega) (by simpa [twid] using hb2);generalize sext u 64=x at *;have HB:=hid hB;have HE:=hid hE0;have HR2:=hid hr2;have HK:=hid hK;have HFo:=hid fun W (hN:Kp gr gr w1 W)=>formOf_any W x hxI (hG1.kp hN hgr2 hgr2)
  have HG1:=hid hG1;clear hB hE0 hr2 hK hR hr hb1 hb2 hG1;by_cases hf:tform x=4
  ·have hfq:((tform x:Int) != 4)=false:=by simp;omega
   have HXF:=hid (show X=.ok (x,r.drop 64) from by rw [HXE.out,if_pos hf]);have HFF:=hid hf;generalize tform x=f at *;clear hf;go_wp2_with (first
    | (go_at_call 197;refine HB.out.mono ?_;rintro e w2 ⟨rfl,hR2,hK2⟩;have hc2:=(HG1.out.kp hK2 hgr2 hgr2).forms 14 _ rfl)
    | (go_at_call 257;refine (HE.out _).mono ?_;rintro e w3 ⟨rfl,rfl⟩)
    | (go_at_call 258;refine (HFo.out _ hK2).mono ?_;rintro e w4 ⟨rfl,hgr4⟩))
   go_ret2;rw [HXF.out];exact ⟨⟨rfl,p+64,hR2.nw hgr4.nw,HR2.out⟩,(HK.out.trans hK2 (.inl rfl) (.inl rfl)).nw' hgr4.nw⟩
  ·have hfq:((tform x:Int) != 4)=true:=by simp;omega
   have HXF:=hid (show X=.error 8 from by rw [HXE.out,if_neg hf]);have HFF:=hid hf;generalize tform x=f at *;clear hf;go_wp2_with (first
    | (go_at_call 197;refine HB.out.mono ?_;rintro e w2 ⟨rfl,hR2,hK2⟩;have hc2:=(HG1.out.kp hK2 hgr2 hgr2).forms 14 _ rfl)
    | (go_at_call 257;refine (HE.out _).mono ?_;rintro e w3 ⟨rfl,rfl⟩)
    | (go_at_call 258;refine (HFo.out _ hK2).mono ?_;rintro e w4 ⟨rfl,hgr4⟩))
   go_ret2;rw [HXF.out];exact ⟨⟨by omega,_,rfl⟩,(HK.out.trans hK2 (.inl rfl) (.inl rfl)).nw' hgr4.nw⟩
theorem getChange_any (w:World) (gr b:Nat) (bytes:List Nat) (pos:Nat) (h:Rdr w gr b bytes pos) (hG:Gl w) (hgr2:3≤gr) :
  Calls Tryz.prog 198 #[.pointer (some ⟨gr,0,none⟩)] w (RGot w gr b bytes (fun x e=>.returned (.tuple #[.int .i64 x,.int .i64 (e:Int)])) (gchg (rest bytes pos))):=by
 cases hX:gform 4 0 (rest bytes pos) with
 | some y =>
  obtain ⟨k,r⟩:=y;obtain ⟨hk,_⟩:=gform_inv hX;have hk5:k=0∨k=1∨k=2∨k=3∨k=4:=by omega
  rcases hk5 with rfl | rfl | rfl | rfl | rfl
  ·exact getChange_0 w gr b bytes pos h hG hgr2 r hX
  ·exact getChange_1 w gr b bytes pos h hG hgr2 r hX
  ·exact getChange_2 w gr b bytes pos h hG hgr2 r hX
  ·exact getChange_3 w gr b bytes pos h hG hgr2 r hX
  ·exact getChange_4 w gr b bytes pos h hG hgr2 r hX
 | none =>
  have HF:=getForm_any w gr b bytes pos h;have hgx:gchg (rest bytes pos)=.error 3:=by unfold gchg;rw [hX]
  rw [hX] at HF;have HF:=hid HF;rw [hgx];clear h hG hX hgx;go_enter Tryz.func198,Tryz.ntmps198
  go_wp2_with (go_at_call 256;refine HF.out.mono ?_;rintro e w1 ⟨⟨_,k,rfl⟩,hK⟩)
  go_ret2;exact ⟨⟨by omega,0,rfl⟩,hK⟩
theorem tgetF_glue (l:List Int) (t d:Int) (m:Nat) (r:List Bool):glue l (tgetF t d (m+1) r) =
  match gchg r with
  | .error e=>.error e
  | .ok (x,r')=>glue (l++[wrap64 (t+wrap64 (d+x))]) (tgetF (wrap64 (t+wrap64 (d+x))) (wrap64 (d+x)) m r'):=by
 conv=>lhs;rw [tgetF]
 cases gchg r with
 | error e=>rfl
 | ok x =>
  obtain ⟨v,r'⟩:=x;simp only;cases tgetF (wrap64 (t+wrap64 (d+v))) (wrap64 (d+v)) m r' with
  | error e=>rfl
  | ok y =>
   obtain ⟨l2,r2⟩:=y;simp [glue]
theorem E_i64:ElemT Tryz.prog 221 2 (.int .i64 0) 1 8:=ElemT.mk' Tryz.underlying221 (by kernel_rfl) rfl (by omega)
def TGot (w:World) (gr b:Nat) (bytes:List Nat) (X:Except Nat (List Int × List Bool)) (e:Ending) (w':World):Prop :=
 (match X with
  | .ok (l,r)=>(∃ b' A c,e=.returned (.tuple #[.slice A l.length c,.int .i64 0])∧Ow w' b' 2 1 A l.length c (cI .i64 l)∧w.heap.size≤b')∧∃ pos,Rdr w' gr b bytes pos∧rest bytes pos=r
  | .error k=>e=.returned (.tuple #[.slice none 0 0,.int .i64 (k:Int)])∧k≠0)∧Kp gr gr w w'
set_option maxRecDepth 100000 in
theorem tGet_any (w:World) (gr b:Nat) (bytes:List Nat) (pos n:Nat) (h:Rdr w gr b bytes pos) (hb:b < w.heap.size∨bytes=[]) (hG:Gl w) (hgr2:3≤gr) (h1:1≤n) (hn:n≤10000) :
  Calls Tryz.prog 138 #[.pointer (some ⟨gr,0,none⟩),.int .i64 (n:Int)] w (TGot w gr b bytes (tget n (rest bytes pos))):=by
 have hs:=hG.lt;have hgl:=h.lt;have hnil:∀ W,(binOp .eql 219 (.pointer (some ⟨gr,0,none⟩)) (.pointer none)).run Tryz.prog W=.ok (.bool false) W:=fun _=>by kernel_rfl
 have n0:((n:Int) == 0)=false:=by rw [beq_eq_false_iff_ne];omega
 have hwi:=h.within;have hlen:=rest_length bytes pos;obtain ⟨m,rfl⟩:∃ m,n=m+1:=⟨n - 1,by omega⟩;have hm:((m+1:Nat):Int) - 1=(m:Int):=by omega
 by_cases hfit:(rest bytes pos).length < 64
 ·have HB:=hid (RBits_eof w gr b bytes pos 64 h (by omega) (by omega));have hX:tget (m+1) (rest bytes pos)=.error 3:=by simp only [tget];rw [if_pos hfit]
  rw [hX];clear h hG hX;go_enter Tryz.func138,Tryz.ntmps138
  go_wp2_with (go_at_call 197;refine HB.out.mono ?_;rintro e w1 ⟨rfl,hD⟩)
  go_ret2;exact ⟨⟨rfl,by omega⟩,hD.nw.kp _ _⟩
 ·have hB:=RBits_ok w gr b bytes pos 64 h (by omega) (by omega);obtain ⟨X,hX⟩:∃ X,X=tget (m+1) (rest bytes pos):=⟨_,rfl⟩;have hX0:X=glue [wrap64 (bv ((rest bytes pos).take 64))] (tgetF (wrap64 (bv ((rest bytes pos).take 64))) 0 m (rest bytes (pos+64))):=by
   rw [hX,rest_take rfl];simp only [tget];rw [if_neg hfit];cases tgetF (wrap64 (bv ((rest bytes pos).take 64))) 0 m ((rest bytes pos).drop 64) with
   | error e=>rfl
   | ok x=>rfl
  rw [← hX];obtain ⟨_,hu⟩:=bits_take (r:=rest bytes pos) (n:=64) (by omega);rw [pow64] at hu;generalize bv ((rest bytes pos).take 64)=u at *;have HB:=hid hB;have HX0:=hid hX0;have HG:=hid hG;clear h hG hX hX0 hB hfit hlen hwi;go_enter Tryz.func138,Tryz.ntmps138
  go_wp2_with (go_at_call 197;refine HB.out.mono ?_;rintro e w1 ⟨rfl,hR1,hK1⟩)
  have hO0:Ow (w1.alloc (.cells #[.int .i64 (wrap64 u)] 2)) w1.heap.size 2 1 (some ⟨w1.heap.size,0,none⟩) 1 1 (cI .i64 [wrap64 u]):=by
   have h:=Ow.lit w1 2 1 1 #[.int .i64 (wrap64 u)] rfl (by omega);simpa using h
  have HO0:=hid hO0;have HR1:=hid (hR1.nw ((Nw.refl _).alloc' (.cells #[.int .i64 (wrap64 u)] 2)));have HK1:=hid (hK1.alloc' (.cells #[.int .i64 (wrap64 u)] 2));have hs1:=hK1.size;clear hO0 hR1 hK1 HB;go_loopw [8,9,10,36] (fun vt vd vl i wr=>∃ k:Nat,k≤m∧i=.int .i64 k∧∃ (l:List Int) (t d:Int) (bk:Nat) (Ak:Option Addr) (ck p:Nat),l.length=k+1∧vl=.slice Ak (k+1) ck∧vt=.int .i64 t∧vd=.int .i64 d∧Ow wr bk 2 1 Ak (k+1) ck (cI .i64 l)∧w.heap.size≤bk ∧
   Rdr wr gr b bytes p∧Kp gr gr w wr∧X=glue l (tgetF t d (m - k) (rest bytes p))) (fun _ _ _ i _=>m - (intOf i).toNat)
  case atStart=>exact ⟨0,by omega,rfl,[wrap64 u],wrap64 u,0,w1.heap.size,_,1,pos+64,rfl,rfl,rfl,rfl,HO0.out,hs1,HR1.out,HK1.out,HX0.out⟩
  case round =>
   obtain ⟨k,hk,rfl,l,t,d,bk,Ak,ck,p,hl,rfl,rfl,rfl,hO,hbk,hR,hK,hX⟩:=hrel;by_cases hlt:k < m
   ·have hkI:(k:Int) < (m:Int):=by omega
    have hC:=getChange_any wr gr b bytes p hR (HG.out.kp hK hgr2 hgr2) hgr2;rw [show m - k=(m - (k+1))+1 from by omega,tgetF_glue] at hX;have HO:=hid hO;have HK:=hid hK;cases hg:gchg (rest bytes p) with
    | error ek =>
     rw [hg] at hC hX;have HC:=hid hC;have HX:=hid hX;clear hC hX hg hR hO hK;go_wp2_with fail;refine HC.out.mono ?_;rintro e w2 ⟨⟨hne,x,rfl⟩,hK2⟩;have he':((ek:Int) == 0)=false:=by rw [beq_eq_false_iff_ne];omega
     go_wp2;go_ret2;rw [HX.out];exact ⟨⟨rfl,hne⟩,HK.out.trans hK2 (.inl rfl) (.inl rfl)⟩
    | ok y =>
     obtain ⟨x,r'⟩:=y;rw [hg] at hC hX;have HC:=hid hC;have HX:=hid hX;have hko:=hO.cap;clear hC hX hg hR hO hK;go_wp2_with fail;refine HC.out.mono ?_;rintro e w2 ⟨⟨rfl,p2,hR2,hr2⟩,hK2⟩;have hO2:=HO.out.kp hK2 (by omega) (by omega);have HR2:=hid hR2;have HK2:=hid hK2;have HRR:=hid hr2;clear hR2 hK2 hr2;go_wp2_with (at_builtin;refine wpList_app1 E_i64 rfl (.tmp 52) (.tmp 54) rfl rfl hO2 rfl rfl (by omega) (by omega) ?_;intro b1 A1 c1 w5 g1 g2 g3 g4)
     go_roundw
     case rel =>
      have hs4:=HK2.out.size;have hsr:=HK.out.size;refine ⟨k+1,by omega,by go_num,l++[wrap64 (t+wrap64 (d+x))],_,_,b1,A1,c1,p2,by simp [hl],rfl,rfl,rfl,by simpa using g1,by rcases g2 with rfl | g2<;>omega,HR2.out.off g3 (by omega) (by omega) ?_,?_,?_⟩
      ·rcases hb with hb | hb
       ·right;omega
       ·exact .inl hb
      ·exact (HK.out.trans HK2.out (.inl rfl) (.inl rfl)).trans g3 (.inr (.inr (by omega))) (.inr (.inr (by omega)))
      ·rw [HX.out,HRR.out]
     case measure=>simp [intOf];omega
   ·obtain rfl:k=m:=by omega
    have HX:=hid (show X=.ok (l,rest bytes p) from by rw [hX,Nat.sub_self];simp [tgetF,glue]);have HO:=hid hO;have HK:=hid hK;clear hX hO hK;go_wp2;go_ret2;rw [HX.out];refine ⟨⟨⟨bk,Ak,ck,by rw [hl];rfl,by rw [hl];exact HO.out,hbk⟩,p,hR,rfl⟩,HK.out⟩
end
section
open Go Go.RowKit Go.Sort Go.Shelf
attribute [local go_sem] Oper.semAt_some
def KpC (B bl:Nat) (W W':World):Prop:=W'.heap[B]? = W.heap[B]?∧W'.heap[bl]? = W.heap[bl]?∧W.heap.size≤W'.heap.size
theorem KpC.trans {B bl:Nat} {X Y Z:World} (h:KpC B bl X Y) (k:KpC B bl Y Z):KpC B bl X Z:=⟨k.1.trans h.1,k.2.1.trans h.2.1,Nat.le_trans h.2.2 k.2.2⟩
theorem Rd.kpc {b B:Nat} {w w':World} {A:Option Addr} {xs:List Value} (h:Rd w b A xs) (hk:KpC B b w w'):Rd w' b A xs:=by
 rcases h with rfl | ⟨o,e,hlt,hc⟩
 ·exact .inl rfl
 ·exact .inr ⟨o,e,Nat.lt_of_lt_of_le hlt hk.2.2,fun j u hu=>(World.cell?_of_block hk.2.1).trans (hc j u hu)⟩
end
section
open Go Go.RowKit Go.Sort Go.Shelf
attribute [local go_sem] Oper.semAt_some
theorem putObj_other (W:World) (l k:Nat) (o:Obj) (h:k≠l):(W.putObj l o).heap[k]? = W.heap[k]?:=by
 simp [World.putObj,Ne.symm h]
theorem KpC.putObj (B bl:Nat) (W:World) (l:Nat) (o:Obj) (h1:B≠l) (h2:bl≠l):KpC B bl W (W.putObj l o) :=
 ⟨putObj_other W l B o h1,putObj_other W l bl o h2,by simp [World.putObj]⟩
end
section
open Go Go.RowKit Go.Lib Go.Sort Go.Shelf
attribute [local go_sem] Oper.semAt_some
def symEnc (t:List ByteArray):List Nat:=vint t.length++t.flatMap fun s=>lenB (sB s)
theorem at_free {W:World} {g k:Nat} {cs:Array Value} {t:TypeId} (h:W.heap[g]? = some (.cells cs t (0,0))):W.frozen? ⟨g,k,none⟩=false:=by simp [World.frozen?,h]
theorem results_two {P:Program} {fn:Func} {p q:Tmp} {t1 t2:TypeId} {u v:Value} (h:fn.results=#[.cell p t1,.cell q t2]) (tmps:Array Value) (w:World) (a b:Addr) (hp:tmps.getD p undef=.pointer (some a)) (hq:tmps.getD q undef=.pointer (some b))
  (h1:(loadVar t1 a).run P w=.ok u w) (h2:(loadVar t2 b).run P w=.ok v w):(results fn tmps).run P w=.ok (.tuple #[u,v]) w:=by
 simp only [Array.getD_eq_getD_getElem?] at hp hq;simp only [results,h];simp [Sem.run_bind,Result.andThen,asAddr,hp,hq,h1,h2]
def idxS (t:List ByteArray) (s:ByteArray):Nat:=t.findIdx fun x=>decide (x.toList=s.toList)
theorem idxS_spec {t:List ByteArray} {s:ByteArray} (h:s∈t):∃ K,idxS t s=K∧∃ hk:K < t.length,t[K]=s:=by
 have hlt:t.findIdx (fun x=>decide (x.toList=s.toList)) < t.length:=List.findIdx_lt_length_of_exists ⟨s,h,by simp⟩;refine ⟨_,rfl,hlt,?_⟩;have:=List.findIdx_getElem (p:=fun x=>decide (x.toList=s.toList)) (xs:=t) (w:=hlt);exact bytes_ext (of_decide_eq_true this)
end
section
open Go Go.RowKit Go.Lib Go.Sort Go.Shelf
abbrev RecV:=List Lab × List Nat
def recEnc1 (t:List ByteArray) (x:RecV):List Nat:=vint x.1.length++((strsOf x.1).flatMap fun s=>vint (idxS t s))++vint x.2.length++x.2.flatMap vint
def recEnc (t:List ByteArray) (l:List RecV):List Nat:=vint l.length++l.flatMap (recEnc1 t)
structure RecS where
 labs:List Lab
 chks:List Nat
 bl:Nat
 al:Option Addr
 cl:Nat
 bc:Nat
 ac:Option Addr
 cc:Nat
abbrev valR (x:RecS):RecV:=(x.labs,x.chks)
def cRec (l:List RecS):List Value:=c2 (fun s:RecS=>.slice s.al s.labs.length s.cl) (fun s=>.slice s.ac s.chks.length s.cc) l
end
section
open Go Go.RowKit Go.Lib Go.Sort Go.Shelf
open Go.ChangeMaps (setBlock heap_setBlock_same heap_setBlock_other)
theorem lab_laid:laidOutB Tryz.prog=true:=by kernel_rfl
theorem lab_law:Go.WideMaps.KeyLaw Tryz.prog 96:=deep_law_laid lab_laid (m:=2) (by omega) (of_decide_eq_true (by kernel_rfl)) (by kernel_rfl) (by kernel_rfl)
abbrev labKey (x:Lab):Value:=.agg #[.string x.1,.string x.2]
theorem labKey_inj {x y:Lab} (h:labKey x=labKey y):x=y:=by
 obtain ⟨a,b⟩:=x;obtain ⟨c,d⟩:=y;simpa [labKey] using h
theorem lab_und:Tryz.prog.underlying 96=some (.struct #[⟨"Name",9,0,false, "", "",0⟩,⟨"Value",9,1,false, "", "",16⟩]):=by kernel_rfl
theorem str_und:Tryz.prog.underlying 9=some .string:=by kernel_rfl
theorem lab_keyOf (x:Lab) (h1:x.1.size≤maxLen) (h2:x.2.size≤maxLen):∃ l,keyOf Tryz.prog 96 (labKey x)=some l:=by
 have e1:Tryz.prog.keyType 96=true:=by kernel_rfl
 have e2:(labKey x).formed Tryz.prog 96=true:=by kernel_rfl
 have c1:Tryz.prog.cellsOf 96=2:=by kernel_rfl
 have c2:Tryz.prog.cellsOf 9=1:=by kernel_rfl
 have h3:0 < Tryz.prog.types.size:=of_decide_eq_true (by kernel_rfl);obtain ⟨d,hd⟩:∃ d,Tryz.prog.types.size=d+1:=⟨Tryz.prog.types.size - 1,by omega⟩;unfold keyOf;rw [lab_und,e1,e2,hd];simp [Program.keyLits,c1,c2,Value.cells,h1,h2]
def LOk (x:Lab):Prop:=x.1.size≤maxLen∧x.2.size≤maxLen
def entE (i:Nat) (p:Lab × Value):MapEntry:=⟨labKey p.1,p.2,i⟩
def entsE (l:List (Lab × Value)):Array MapEntry:=(l.mapIdx entE).toArray
theorem entsE_get (l:List (Lab × Value)) (j:Nat):(entsE l).toList[j]? = l[j]?.map (entE j):=by simp [entsE,List.getElem?_mapIdx]
theorem entsE_push (l:List (Lab × Value)) (p:Lab × Value):entsE (l++[p])=(entsE l).push (entE l.length p):=by
 unfold entsE;rw [List.mapIdx_append];simp
theorem entsE_set (l:List (Lab × Value)) (j:Nat) (v:Value) (h:j < l.length):(entsE l).modify j (fun e=>{ e with val:=v })=entsE (l.set j (l[j].1,v)):=by
 apply Array.ext'
 apply List.ext_getElem?
 intro i;rw [Array.toList_modify,List.getElem?_modify,entsE_get,entsE_get,List.getElem?_set];by_cases hij:j=i
 ·subst hij;simp [h,entE]
 ·simp [hij]
theorem entsE_keys {l:List (Lab × Value)} (hl:∀ p∈l,LOk p.1):∀ e∈(entsE l).toList,∃ k,keyOf Tryz.prog 96 e.key=some k:=by
 intro e he;obtain ⟨j,hj⟩:=List.getElem?_of_mem he;rw [entsE_get] at hj;obtain ⟨p,hp,rfl⟩:=Option.map_eq_some_iff.1 hj;exact lab_keyOf p.1 (hl p (List.mem_of_getElem? hp)).1 (hl p (List.mem_of_getElem? hp)).2
theorem map_und:Tryz.prog.underlying 206=some (.map 96 56):=by kernel_rfl
theorem nodup_inj {α:Type} {l:List α} (hd:l.Nodup) {i j:Nat} {hi:i < l.length} {hj:j < l.length} (h:l[i]=l[j]):i=j:=by
 rcases Nat.lt_trichotomy i j with h1 | h1 | h1
 ·exact (List.pairwise_iff_getElem.1 hd i j hi hj h1 h).elim
 ·exact h1
 ·exact (List.pairwise_iff_getElem.1 hd j i hj hi h1 h.symm).elim
theorem find_new {l:List (Lab × Value)} (hl:∀ p∈l,LOk p.1) {x:Lab} (hx:LOk x) (hn:∀ p∈l,p.1≠x) (w:World):(Instr.findKey 96 (labKey x) (entsE l).toList).run Tryz.prog w=.ok none w:=by
 obtain ⟨k,hk⟩:=lab_keyOf x hx.1 hx.2;rcases lab_law.find w hk _ (entsE_keys hl) with ⟨h,_⟩ | ⟨j,e,_,h2,h3⟩
 ·exact h
 ·rw [entsE_get] at h2;obtain ⟨p,hp,rfl⟩:=Option.map_eq_some_iff.1 h2;exact (hn p (List.mem_of_getElem? hp) (labKey_inj h3)).elim
theorem find_old {l:List (Lab × Value)} (hl:∀ p∈l,LOk p.1) {x:Lab} {v:Value} {j:Nat} (hx:LOk x) (hd:(l.map (·.1)).Nodup) (hj:l[j]? = some (x,v)) (w:World):(Instr.findKey 96 (labKey x) (entsE l).toList).run Tryz.prog w=.ok (some (j,v)) w:=by
 obtain ⟨k,hk⟩:=lab_keyOf x hx.1 hx.2;have hjl:j < l.length:=(List.getElem?_eq_some_iff.1 hj).1;rcases lab_law.find w hk _ (entsE_keys hl) with ⟨_,h⟩ | ⟨i,e,h1,h2,h3⟩
 ·refine (h (entE j (x,v)) (List.mem_of_getElem? (i:=j) ?_) rfl).elim;rw [entsE_get,hj];rfl
 ·rw [entsE_get] at h2;obtain ⟨p,hp,rfl⟩:=Option.map_eq_some_iff.1 h2;have hil:i < l.length:=(List.getElem?_eq_some_iff.1 hp).1;have hpx:p.1=x:=labKey_inj h3;have:i=j:=by
   have h4:(l.map (·.1))[i]'(by simpa using hil)=(l.map (·.1))[j]'(by simpa using hjl):=by
    rw [List.getElem_map,List.getElem_map,(List.getElem?_eq_some_iff.1 hp).2,(List.getElem?_eq_some_iff.1 hj).2,hpx]
   exact nodup_inj hd h4
  subst this;rw [hp] at hj;cases hj;exact h1
theorem run_entry_new {w:World} {b:Nat} {l:List (Lab × Value)} (hb:w.heap[b]? = some (.map (entsE l) l.length)) (hl:∀ p∈l,LOk p.1) {x:Lab} (hx:LOk x) (hn:∀ p∈l,p.1≠x) :
  (Instr.mapEntry 206 (.map (some b)) (labKey x)).run Tryz.prog w=.ok (.tuple #[.slice none 0 0,.int .i64 l.length]) (setBlock w b (.map (entsE (l++[(x,.slice none 0 0)])) (l.length+1))):=by
 obtain ⟨k,hk⟩:=lab_keyOf x hx.1 hx.2;rw [entsE_push];simp [Instr.mapEntry,run_underlying map_und,MapKept.run_getObj_map hb,lab_law.check w false hk,find_new hl hx hn,MapKept.run_setObj_map _ hb,Result.andThen,setBlock,goInt,entE]
theorem run_entry_old {w:World} {b j:Nat} {v:Value} {l:List (Lab × Value)} (hb:w.heap[b]? = some (.map (entsE l) l.length)) (hl:∀ p∈l,LOk p.1) {x:Lab} (hx:LOk x) (hd:(l.map (·.1)).Nodup) (hj:l[j]? = some (x,v)) :
  (Instr.mapEntry 206 (.map (some b)) (labKey x)).run Tryz.prog w=.ok (.tuple #[v,.int .i64 j]) (setBlock w b (.map (entsE l) l.length)):=by
 obtain ⟨k,hk⟩:=lab_keyOf x hx.1 hx.2;have he:(entsE l).toList[j]? = some (entE j (x,v)):=by rw [entsE_get,hj];rfl
 have hj2:(entsE l)[j]? = some (entE j (x,v)):=by simpa using he
 have hsame:(entsE l).modify j (fun e=>{ e with key:=labKey x })=entsE l:=by
  apply Array.ext'
  rw [Array.toList_modify,Go.ChangeMaps.modify_eq_set _ _ _ _ he];exact WideElems.set_self _ _ _ he
 simp [Instr.mapEntry,run_underlying map_und,MapKept.run_getObj_map hb,lab_law.check w false hk,find_old hl hx hd hj,hj2,entE,lab_law.stays w hk,hsame,MapKept.run_setObj_map _ hb,Result.andThen,setBlock,goInt]
theorem run_entry_store {w:World} {b j:Nat} {l:List (Lab × Value)} (hb:w.heap[b]? = some (.map (entsE l) l.length)) (h:j < l.length) (v:Value) :
  (Instr.entryStore 206 (.map (some b)) (.int .i64 j) v).run Tryz.prog w=.ok () (setBlock w b (.map (entsE (l.set j (l[j].1,v))) l.length)):=by
 have hidx:(entsE l).findIdx? (fun e=>((e.born:Nat):Int) == (j:Int))=some j:=by
  rw [WideElems.findIdx_arr];have:=WideElems.findIdx_born (l:=(entsE l).toList) (j:=j) (e0:=entE j l[j]) (by
   have:(entsE l).toList.map (·.born)=List.range l.length:=by
    apply List.ext_getElem?
    intro i;rw [List.getElem?_map,entsE_get];by_cases hi:i < l.length
    ·simp [hi,entE]
    ·simp [hi]
   rw [this];exact List.nodup_range) (by rw [entsE_get];simp [h])
  exact this
 simp [Instr.entryStore,MapKept.run_getObj_map hb,asInt,asIntOf,hidx,entsE_set l j v h,MapKept.run_setObj_map _ hb,Result.andThen,setBlock]
theorem run_look {w:World} {b j:Nat} {v:Value} {l:List (Lab × Value)} (hb:w.heap[b]? = some (.map (entsE l) l.length)) (hl:∀ p∈l,LOk p.1) {x:Lab} (hx:LOk x) (hd:(l.map (·.1)).Nodup) (hj:l[j]? = some (x,v)) :
  (Instr.lookup 206 (.map (some b)) (labKey x) false).run Tryz.prog w=.ok v w:=by
 obtain ⟨k,hk⟩:=lab_keyOf x hx.1 hx.2;simp [Instr.lookup,run_underlying map_und,MapKept.run_getObj_map hb,lab_law.check w _ hk,find_old hl hx hd hj,Result.andThen]
end
end Go.Proofs.YtmmonehfnfbpbaaGreatDoor
