/- Laws that the last text builds on. -/
import Derived.Test.YticphebaflnedaaGreatDoorD3
import Derived.Test.YticphebaflnedaaGreatDoorProg
namespace Go.Proofs.YticphebaflnedaaGreatDoor
open Go.Lib(hid)
section
open Go Go.RowKit
structure Wtr (w:World) (g b:Nat) (bs:List Bool):Prop where
 blk:∃ A c,w.heap[g]? = some (.cells #[.slice A (pk bs).length c,.int .i64 (bs.length:Int)] 344 (0,0))∧Ow w b 5 1 A (pk bs).length c (cN .u8 (pk bs))∧(A=none→c=0)∧(A=none∨b≠g)
 lt:b < w.heap.size
section
variable {w w':World} {g b:Nat} {bs:List Bool}
theorem Wtr.glt (h:Wtr w g b bs):g < w.heap.size:=by
 obtain ⟨A,c,hb,_⟩:=h.blk;exact lt_of_block hb
theorem Wtr.nw (h:Wtr w g b bs) (hk:Nw w w'):Wtr w' g b bs:=by
 have hlt:=h.glt;obtain ⟨⟨A,c,hb,hr,hA⟩,h3⟩:=h;exact ⟨⟨A,c,(hk.block g hlt).trans hb,hr.nw hk,hA⟩,Nat.lt_of_lt_of_le h3 hk.size⟩
theorem Wtr.kp {g1 g2:Nat} (h:Wtr w g b bs) (hk:Kp g1 g2 w w') (e1:g≠g1) (e2:g≠g2) (e3:b≠g1) (e4:b≠g2):Wtr w' g b bs:=by
 have hlt:=h.glt;obtain ⟨⟨A,c,hb,hr,hA⟩,h3⟩:=h;exact ⟨⟨A,c,(hk.block g hlt e1 e2).trans hb,hr.kp hk e3 e4,hA⟩,Nat.lt_of_lt_of_le h3 hk.size⟩
end
theorem NewWriter_any (w:World):Calls Tryz.prog 176 #[] w fun e w'=>∃ g,e=.returned (.pointer (some ⟨g,0,none⟩))∧Wtr w' g g []∧w.heap.size≤g∧Nw w w':=by
 go_enter Tryz.func176,Tryz.ntmps176
 go_wp2;go_ret;refine ⟨w.heap.size,by simp,⟨⟨none,0,?_,?_,fun _=>rfl,.inl rfl⟩,by simp⟩,Nat.le_refl _,(Nw.refl w).alloc' _⟩
 ·rw [heap_alloc_new];rfl
 ·exact Ow.nil _ _ _ _
theorem WBytes_any (w:World) (g b:Nat) (bs:List Bool) (h:Wtr w g b bs) (hs:bs.length≤1099511627776):Calls Tryz.prog 179 #[.pointer (some ⟨g,0,none⟩)] w fun e w' =>
  ∃ b' A' c',e=.returned (.slice A' (pk bs).length c')∧Ow w' b' 5 1 A' (pk bs).length c' (cN .u8 (pk bs))∧w.heap.size≤b'∧Nw w w':=by
 obtain ⟨⟨A,c,hb,hr,hA,_⟩,hne⟩:=h;have hc1:w.cell? ⟨g,0,none⟩=some (.slice A (pk bs).length c):=by simp [World.cell?,hb]
 have hnil:∀ W,(binOp .eql 273 (.pointer (some ⟨g,0,none⟩)) (.pointer none)).run Tryz.prog W=.ok (.bool false) W:=fun _=>by kernel_rfl
 have hl:(pk bs).length≤140737488355328:=by rw [pk_length];omega
 have H:=hid (CloneB_any w b A (pk bs).length c (pk bs) rfl hl hr.rd hA);clear hb hr hne hA hl;go_enter Tryz.func179,Tryz.ntmps179
 go_wp2_with (go_at_call 200;refine H.out.mono ?_;rintro e w' ⟨b',A',c',rfl,hO,hge,hN⟩)
 go_ret;exact ⟨b',A',c',by simp,hO,hge,hN⟩
theorem byte_value (cu:List Bool) (x s:Nat) (hx:x < 18446744073709551616) :
  bits .or .u8 ((byteAt cu (cu.length / 8):Nat):Int) (bits .and .u64 ((x:Int) / 2 ^ s) 1 % 256*2 ^ (7 - cu.length % 8) % 256) =
   ((byteAt cu (cu.length / 8)+b2n (decide (x / 2 ^ s % 2=1))*2 ^ (7 - cu.length % 8):Nat):Int):=by
 obtain ⟨t,ht,h0⟩:=byteAt_room cu;have hlt:=byteAt_lt cu (cu.length / 8);have h1:((x:Int) / 2 ^ s)=((x / 2 ^ s:Nat):Int):=by simp
 have h2:x / 2 ^ s≤x:=Nat.div_le_self _ _;rw [h1];have hd:b2n (decide (x / 2 ^ s % 2=1))=x / 2 ^ s % 2:=by
  have:x / 2 ^ s % 2=0∨x / 2 ^ s % 2=1:=by omega
  rcases this with h | h<;>simp [b2n,h]
 rw [hd];generalize x / 2 ^ s=y at *;rw [and_one_u64 _ (by omega) (by omega)];have hy:(y:Int) % 2=((y % 2:Nat):Int):=by omega
 rw [hy];generalize hbb:y % 2=d at *;have hd2:d≤1:=by omega
 generalize byteAt cu (cu.length / 8)=q at *;have hr:cu.length % 8 < 8:=by omega
 generalize cu.length % 8=r at *;have hp:2 ^ (8 - r)=2*2 ^ (7 - r):=by rw [← Nat.pow_succ'];congr 1;omega
 have hp2:2 ^ (7 - r)≤2 ^ 7:=Nat.pow_le_pow_right (by omega) (by omega);have hp3:(2:Nat) ^ 7=128:=rfl;have e1:(d:Int) % 256=(d:Int):=by omega
 have e2:(d:Int)*2 ^ (7 - r)=((d*2 ^ (7 - r):Nat):Int):=by simp
 rw [e1,e2];have hm:d*2 ^ (7 - r)≤2 ^ (7 - r):=by
  have:=Nat.mul_le_mul_right (2 ^ (7 - r)) hd2;omega
 generalize hz:d*2 ^ (7 - r)=z at *;have e3:(z:Int) % 256=(z:Int):=by omega
 have hpos:0 < 2 ^ (7 - r):=Nat.pow_pos (by omega);rw [e3,u8_or_nat _ _ hlt (by omega),nat_join (8 - r) _ _ (by rw [ht,Nat.mul_mod_left]) (by omega)]
theorem wtr_close {W:World} {g b2:Nat} {cu:List Bool} {v:Bool} {A2:Option Addr} {c2:Nat} {L:List Nat} (hL:L=if cu.length % 8=0 then pk cu++[0] else pk cu)
  (hb:W.heap[g]? = some (.cells #[.slice A2 L.length c2,.int .i64 (cu.length:Int)] 344 (0,0))) (hO:Ow W b2 5 1 A2 L.length c2 (cN .u8 L)) (hne:b2≠g) :
  Wtr ((W.setCell ⟨b2,cu.length / 8,none⟩ (.int .u8 ((byteAt cu (cu.length / 8)+b2n v*2 ^ (7 - cu.length % 8):Nat):Int))).setCell ⟨g,1,none⟩ (.int .i64 ((cu.length:Int)+1))) g b2 (cu++[v]):=by
 have hpk:=pk_snoc cu v;rw [← hL] at hpk;have hlen:(pk (cu++[v])).length=L.length:=by rw [hpk,List.length_set]
 have hpos:0 < L.length:=by rw [← hlen,pk_length];simp
 have hO1:=hO.set_ (cu.length / 8) (.int .u8 ((byteAt cu (cu.length / 8)+b2n v*2 ^ (7 - cu.length % 8):Nat):Int));refine ⟨⟨A2,c2,?_,?_,?_,.inr hne⟩,?_⟩
 ·rw [hlen];have h1:(W.setCell ⟨b2,cu.length / 8,none⟩ (.int .u8 ((byteAt cu (cu.length / 8)+b2n v*2 ^ (7 - cu.length % 8):Nat):Int))).heap[g]? = W.heap[g]? :=
   Below.heap_setCell _ _ _ _ (by exact fun h=>hne h.symm)
  rw [hb] at h1;generalize W.setCell ⟨b2,cu.length / 8,none⟩ _=W1 at h1;simp [World.setCell,Array.getElem?_modify,h1]
 ·rw [hlen];have h2:cN .u8 (pk (cu++[v]))=(cN .u8 L).set (cu.length / 8) (.int .u8 ((byteAt cu (cu.length / 8)+b2n v*2 ^ (7 - cu.length % 8):Nat):Int)):=by
   rw [hpk];exact List.map_set ..
  rw [h2];exact hO1.kp ((Kp.refl g g _).setCell' (.inl rfl) _) hne hne
 ·rintro rfl;rcases hO with ⟨_,h,_⟩ | ⟨h,_⟩
  ·omega
  ·cases h
 ·have:=hO.lt hpos;simpa [World.setCell] using this
theorem bits_next {bs cu:List Bool} {x n k:Nat} (h:bs++(bitsOf x n).take k=cu) (hk:k < n):bs++(bitsOf x n).take (k+1)=cu++[decide (x / 2 ^ (n - 1 - k) % 2=1)]:=by
 rw [List.take_succ_eq_append_getElem (by rw [bitsOf_length];exact hk),← List.append_assoc,h,bitsOf_get]
set_option maxRecDepth 100000 in
set_option maxHeartbeats 1600000 in
theorem WBits_any (w:World) (g b:Nat) (bs:List Bool) (x n:Nat) (h:Wtr w g b bs) (hn:n≤64) (hx:x < 18446744073709551616) (hs:bs.length+n≤1099511627776) :
  Calls Tryz.prog 177 #[.pointer (some ⟨g,0,none⟩),.int .u64 (x:Int),.int .i64 (n:Int)] w fun e w' =>
   e=.returned (.int .i64 0)∧∃ b',Wtr w' g b' (bs++bitsOf x n)∧(b'=b∨w.heap.size≤b')∧Kp g b w w':=by
 have hnil:∀ W,(binOp .eql 273 (.pointer (some ⟨g,0,none⟩)) (.pointer none)).run Tryz.prog W=.ok (.bool false) W:=fun _=>by kernel_rfl
 have H:=hid h;clear h;have HX:=hid hx;clear hx;go_enter Tryz.func177,Tryz.ntmps177
 go_wp2;go_loopw [19] (fun i wr=>∃ k:Nat,k≤n∧i=.int .i64 k∧∃ bk,Wtr wr g bk (bs++(bitsOf x n).take k)∧(bk=b∨w.heap.size≤bk)∧Kp g b w wr) (fun i _=>n - (intOf i).toNat)
 case atStart=>exact ⟨0,by omega,rfl,b,by simpa using H.out,.inl rfl,Kp.refl _ _ _⟩
 case round =>
  obtain ⟨k,hk,rfl,bk,hW,hbk,hK⟩:=hrel;by_cases hlt:k < n
  ·obtain ⟨⟨A,c,hb,hO,hA,hne⟩,hbl⟩:=hW;generalize hcu:bs++(bitsOf x n).take k=cu at *;have hlen:cu.length=bs.length+k:=by rw [← hcu,List.length_append,List.length_take,bitsOf_length];omega
   have hle:cu.length≤1099511627776:=by omega
   have hc0:wr.cell? ⟨g,0,none⟩=some (.slice A (pk cu).length c):=by simp [World.cell?,hb]
   have hc1:wr.cell? ⟨g,1,none⟩=some (.int .i64 (cu.length:Int)):=by simp [World.cell?,hb]
   have hf0:wr.frozen? ⟨g,0,none⟩=false:=by simp [World.frozen?,hb]
   have hf1:wr.frozen? ⟨g,1,none⟩=false:=by simp [World.frozen?,hb]
   have HL:=hid hlen;have HCU:=hid hcu;have HB:=hid hb;have HPL:=hid (pk_length cu);clear hlen hcu hb;by_cases h8:cu.length % 8=0
   ·have h8':(((cu.length:Nat):Int) % 8 == 0)=true:=by rw [beq_iff_eq];omega
    have H8:=hid h8;clear h8;have hkg:∀ w1 b1,Kp bk bk wr w1→(A=none→Nw wr w1∧wr.heap.size≤b1)→w1.heap[g]? = some (.cells #[.slice A (pk cu).length c,.int .i64 (cu.length:Int)] 344 (0,0)):=by
     intro w1 b1 h3 h4;refine Eq.trans ?_ HB.out;rcases hne with h | h
     ·exact (h4 h).1.block g (lt_of_block HB.out)
     ·exact h3.block g (lt_of_block HB.out) (Ne.symm h) (Ne.symm h)
    have HKG:=hid hkg;clear hkg;have hglt:=lt_of_block HB.out;go_wp2_with (at_builtin;refine wpList_app1 E_u8 rfl (.tmp 34) (.tmp 35) rfl rfl hO rfl rfl (by have:=HPL.out;omega) (by omega) ?_;intro b1 A1 c1 w1 h1 h2 h3 h4;have hbg:=hid (HKG.out w1 b1 h3 h4);have hd0:w1.cell? ⟨g,0,none⟩=some (.slice A (pk cu).length c):=(by simp [World.cell?,hbg.out]);have hd1:w1.frozen? ⟨g,0,none⟩=false:=(by simp [World.frozen?,hbg.out]))
    have hsz:=h3.size;have hb1g:b1≠g:=by
     rcases hne with h | h
     ·have:=(h4 h).2;omega
     ·rcases h2 with rfl | h2
      ·exact h
      ·omega
    have hK1:Kp g b w w1:=by
     have hKK:=hK.size;by_cases hAn:A=none
     ·exact hK.nw' (h4 hAn).1
     ·exact hK.trans h3 (by rcases hbk with h | h<;>simp [h]) (by rcases hbk with h | h<;>simp [h])
    have hbb1:b1=b∨w.heap.size≤b1:=by
     have hKK:=hK.size;rcases h2 with rfl | h2
     ·exact hbk
     ·right;omega
    have hO2:Ow (w1.setCell ⟨g,0,none⟩ (.slice A1 ((pk cu).length+1) c1)) b1 5 1 A1 (pk cu++[0]).length c1 (cN .u8 (pk cu++[0])):=by
     have:=h1.kp ((Kp.refl g g w1).setCell' (p:=⟨g,0,none⟩) (.inl rfl) (.slice A1 ((pk cu).length+1) c1)) hb1g hb1g;simpa using this
    have hb2:(w1.setCell ⟨g,0,none⟩ (.slice A1 ((pk cu).length+1) c1)).heap[g]? = some (.cells #[.slice A1 (pk cu++[0]).length c1,.int .i64 (cu.length:Int)] 344 (0,0)):=by
     have:=hbg.out;simp [World.setCell,Array.getElem?_modify,this]
    have hK2:=hK1.setCell' (p:=⟨g,0,none⟩) (.inl rfl) (.slice A1 ((pk cu).length+1) c1);generalize w1.setCell ⟨g,0,none⟩ (.slice A1 ((pk cu).length+1) c1)=w2 at *;have hj:cu.length / 8 < (pk cu++[0]).length:=by have:=HPL.out;have:=H8.out;rw [List.length_append,List.length_singleton];omega
    have hold:(pk cu++[0])[cu.length / 8]=byteAt cu (cu.length / 8):=by
     obtain ⟨t,ht,h0⟩:=byteAt_room cu;rw [ht,h0 H8.out,List.getElem_append_right (by have:=HPL.out;have:=H8.out;omega)];simp
    obtain ⟨rfl,hlt2,hcell,hfb⟩:=hO2.at_ (j:=cu.length / 8) (by omega);rw [List.getElem?_map,List.getElem?_eq_getElem hj,hold,Option.map_some] at hcell;have g0:w2.cell? ⟨g,0,none⟩=some (.slice (some ⟨b1,0,none⟩) ((pk cu).length+1) c1):=by simp [World.cell?,hb2]
    have g1:w2.cell? ⟨g,1,none⟩=some (.int .i64 (cu.length:Int)):=by simp [World.cell?,hb2]
    have f1:w2.frozen? ⟨g,1,none⟩=false:=by simp [World.frozen?,hb2]
    have i0:(0:Int)≤(cu.length:Int) / 8:=by omega
    have i1:(cu.length:Int) / 8 < (((pk cu).length+1:Nat):Int):=by simp at hj;omega
    have i1':(cu.length:Int) / 8 < ((pk cu).length:Int)+1:=by omega
    have i2:((cu.length:Int) / 8).toNat=cu.length / 8:=by omega
    have HO:=hid hO2;have HB2:=hid hb2;clear hO2 hb2 h1 h2 h3 h4 hO hA hold hd0 hd1 hc0 hc1 hf0 hf1;have e1:(cu.length:Int).tdiv 8=(cu.length:Int) / 8:=Int.tdiv_eq_ediv_of_nonneg (by omega);have e2:IntKind.i64.wrap ((cu.length:Int) / 8)=(cu.length:Int) / 8:=IntWalk.i64_in _ (by omega);have e3:(cu.length:Int).tmod 8=(cu.length:Int) % 8:=Int.tmod_eq_emod_of_nonneg (by omega);have e4:IntKind.i64.wrap ((cu.length:Int) % 8)=(cu.length:Int) % 8:=IntWalk.i64_in _ (by omega);have e5:IntKind.i64.wrap (7 - (cu.length:Int) % 8)=7 - (cu.length:Int) % 8:=IntWalk.i64_in _ (by omega);have e6:IntKind.i64.wrap ((n:Int) - 1)=(n:Int) - 1:=IntWalk.i64_in _ (by omega);have e7:IntKind.i64.wrap ((n:Int) - 1 - (k:Int))=(n:Int) - 1 - (k:Int):=IntWalk.i64_in _ (by omega);have e8:(0:Int)≤(n:Int) - 1 - (k:Int):=by omega
    have e9:(0:Int)≤7 - (cu.length:Int) % 8:=by omega
    have hne1:¬ b1=g:=hb1g;have hne2:¬ g=b1:=fun h=>hne1 h.symm
    go_still_tail 31,(by kernel_rfl)
    clear e1 e2 e3 e4 e5 e6 e7;change wpList _ _ _ _ _ w2.drew
    go_wp2;go_roundw
    case rel =>
     rw [byte_value cu x _ HX.out];refine ⟨k+1,by omega,by go_num,b1,?_,hbb1,?_⟩
     ·rw [bits_next HCU.out hlt];exact (wtr_close (v:=decide (x / 2 ^ (n - 1 - k) % 2=1)) (by rw [if_pos H8.out]) HB2.out HO.out hne1).nw (Nw.drewN _ 1)
     ·exact ((hK2.setCell' (p:=⟨b1,cu.length / 8,none⟩) (by rcases hbb1 with h | h<;>simp [h]) _).setCell' (p:=⟨g,1,none⟩) (.inl rfl) _).drewN' 1
    case measure=>simp [intOf];omega
   ·have h8':(((cu.length:Nat):Int) % 8 == 0)=false:=by rw [beq_eq_false_iff_ne];omega
    have H8:=hid h8;clear h8;have hj:cu.length / 8 < (pk cu).length:=by have:=HPL.out;have:=H8.out;omega
    obtain ⟨rfl,hlt2,hcell,hfb⟩:=hO.at_ (j:=cu.length / 8) (by omega);rw [List.getElem?_map,List.getElem?_eq_getElem hj,pk_get,Option.map_some] at hcell;have i0:(0:Int)≤(cu.length:Int) / 8:=by omega
    have i1:(cu.length:Int) / 8 < ((pk cu).length:Int):=by omega
    have i2:((cu.length:Int) / 8).toNat=cu.length / 8:=by omega
    have HO:=hid hO;clear hO hA;have e1:(cu.length:Int).tdiv 8=(cu.length:Int) / 8:=Int.tdiv_eq_ediv_of_nonneg (by omega);have e2:IntKind.i64.wrap ((cu.length:Int) / 8)=(cu.length:Int) / 8:=IntWalk.i64_in _ (by omega);have e3:(cu.length:Int).tmod 8=(cu.length:Int) % 8:=Int.tmod_eq_emod_of_nonneg (by omega);have e4:IntKind.i64.wrap ((cu.length:Int) % 8)=(cu.length:Int) % 8:=IntWalk.i64_in _ (by omega);have e5:IntKind.i64.wrap (7 - (cu.length:Int) % 8)=7 - (cu.length:Int) % 8:=IntWalk.i64_in _ (by omega);have e6:IntKind.i64.wrap ((n:Int) - 1)=(n:Int) - 1:=IntWalk.i64_in _ (by omega);have e7:IntKind.i64.wrap ((n:Int) - 1 - (k:Int))=(n:Int) - 1 - (k:Int):=IntWalk.i64_in _ (by omega);have e8:(0:Int)≤(n:Int) - 1 - (k:Int):=by omega
    have e9:(0:Int)≤7 - (cu.length:Int) % 8:=by omega
    have hne1:¬ bk=g:=by
     rcases hne with h | h
     ·cases h
     ·exact h
    have hne2:¬ g=bk:=fun h=>hne1 h.symm
    go_wp2
    go_still_tail 31,(by kernel_rfl)
    clear e1 e2 e3 e4 e5 e6 e7;change wpList _ _ _ _ _ wr.drew
    go_wp2;go_roundw
    case rel =>
     rw [byte_value cu x _ HX.out];refine ⟨k+1,by omega,by go_num,bk,?_,hbk,?_⟩
     ·rw [bits_next HCU.out hlt];exact (wtr_close (v:=decide (x / 2 ^ (n - 1 - k) % 2=1)) (by rw [if_neg H8.out]) HB.out HO.out hne1).nw (Nw.drewN _ 1)
     ·exact ((hK.setCell' (p:=⟨bk,cu.length / 8,none⟩) (by rcases hbk with h | h<;>simp [h]) _).setCell' (p:=⟨g,1,none⟩) (.inl rfl) _).drewN' 1
    case measure=>simp [intOf];omega
  ·go_wp2;go_ret;obtain rfl:k=n:=by omega
   exact ⟨rfl,bk,by rwa [List.take_of_length_le (by rw [bitsOf_length];omega)] at hW,hbk,hK⟩
end
section
open Go Go.RowKit Go.Sort Go.Shelf
attribute [local go_sem] Oper.semAt_some
theorem Wtr.own {w w':World} {g b:Nat} {bs:List Bool} {row:Option Nat} (h:Wtr w g b bs) (hg:w.grownBy w' row) (hr:∀ r,row=some r→∃ o:Obj,w.heap[r]? = some o∧o.isCells=false):Wtr w' g b bs:=by
 have hlt:=h.glt;obtain ⟨⟨A,c,hb,hO,hA1,hA2⟩,h3⟩:=h;refine ⟨⟨A,c,?_,?_,hA1,hA2⟩,Nat.lt_of_lt_of_le h3 hg.size⟩
 ·refine (hg.block g hlt ?_).trans hb;intro e;obtain ⟨o,h1,h2⟩:=hr _ e.symm;rw [hb] at h1;cases h1;cases h2
 ·rcases hO with ⟨rfl,h1,h2,h4⟩ | ⟨rfl,hlt2,hO⟩
  ·exact .inl ⟨rfl,h1,h2,h4⟩
  ·refine .inr ⟨rfl,Nat.lt_of_lt_of_le hlt2 hg.size,hO.1,?_⟩;rcases hO.2 with ⟨hv,_⟩ | ⟨g0,cap,cur,hv,hbg,hh,r⟩
   ·cases hv
   ·have hg0:b=g0:=by injection hv with x;injection x with x;injection x
    subst hg0;refine .inr ⟨b,cap,cur,hv,hbg,(hg.block b hlt2 ?_).trans hh,r⟩;intro e;obtain ⟨o,h1,h2⟩:=hr _ e.symm;rw [hh] at h1;cases h1;cases h2
theorem Wtr.cells {w:World} {g b:Nat} {bs:List Bool} (h:Wtr w g b bs) (hne:bs≠[]):∃ cs t fr,w.heap[b]? = some (.cells cs t fr):=by
 obtain ⟨⟨A,c,hb,hO,hA1,hA2⟩,h3⟩:=h;rcases hO with ⟨rfl,h1,h2,h4⟩ | ⟨rfl,hlt2,hO⟩
 ·rw [pk_length] at h1;exact absurd (List.eq_nil_of_length_eq_zero (by omega)) hne
 ·rcases hO.2 with ⟨hv,_⟩ | ⟨g0,cap,cur,hv,hbg,hh,r⟩
  ·cases hv
  ·have hg0:b=g0:=by injection hv with x;injection x with x;injection x
   subst hg0;exact ⟨_,_,_,hh⟩
def thead:List Int→List Bool
 | []=>[]
 | t::_=>bitsOf (uw t) 64
theorem tput_eq (l:List Int):tput l=thead l++(chg l).flatMap tbits:=by cases l<;>rfl
def TPI (w:World) (gw b0 Bw B:Nat) (bs:List Bool) (l:List Int) (pre:List I6S) (W:World):Prop :=
 (∃ b',Wtr W gw b' (bs++thead l++(pre.map (·.1)).flatMap tbits)∧(b'=b0∨(w.heap.size≤b'∧b'≠Bw∧b'≠B)))∧Kp gw b0 w W∧W.heap[Bw]? = some (.cells #[.pointer (some ⟨gw,0,none⟩)] 273 (0,0))∧B < W.heap.size
theorem chgF_length:∀ (l:List Int) (t d:Int),(chgF t d l).length=l.length:=by
 intro l;induction l with
 | nil=>intro t d;rfl
 | cons x l ih=>intro t d;simp [chgF,ih]
theorem chg_length (t:Int) (l:List Int):(chg (t::l)).length=l.length:=chgF_length l t 0
theorem tbits_le (x:Int):(tbits x).length≤68:=by
 unfold tbits;rw [List.length_append,bitsOf_length,bitsOf_length];have:=tform_le x;generalize tform x=k at *;have:k=0∨k=1∨k=2∨k=3∨k=4:=by omega
 rcases this with rfl | rfl | rfl | rfl | rfl<;>simp [tlen,twid]
theorem tbits_flat_le (l:List Int):(l.flatMap tbits).length≤68*l.length:=by
 induction l with
 | nil=>simp
 | cons x l ih =>
  have:=tbits_le x;simp only [List.flatMap_cons,List.length_append,List.length_cons];omega
theorem putObj_other (W:World) (l k:Nat) (o:Obj) (h:k≠l):(W.putObj l o).heap[k]? = W.heap[k]?:=by
 simp [World.putObj,Ne.symm h]
theorem KpC.putObj (B bl:Nat) (W:World) (l:Nat) (o:Obj) (h1:B≠l) (h2:bl≠l):KpC B bl W (W.putObj l o) :=
 ⟨putObj_other W l B o h1,putObj_other W l bl o h2,by simp [World.putObj]⟩
theorem TPI.own {w:World} {gw b0 Bw B D:Nat} {bs:List Bool} {l:List Int} (hD:w.heap.size≤D) (hBw:Bw < D):OwnFrom D (TPI w gw b0 Bw B bs l):=by
 intro pre W W' row h hg hr;obtain ⟨⟨b',hW,hb'⟩,hK,hBx,hBs⟩:=h;refine ⟨⟨b',hW.own hg (fun r e=>(hr r e).2),hb'⟩,hK.grown hg (fun k e=>.inr (.inr (Nat.le_trans hD (hr k e).1))),?_,Nat.lt_of_lt_of_le hBs hg.size⟩;exact (hg.block Bw (lt_of_block hBx) (fun e=>by have:=(hr Bw e.symm).1;omega)).trans hBx
theorem TPI.fin {w W:World} {gw b0 Bw B D:Nat} {bs:List Bool} {l:List Int} {pre:List I6S} {o o0:Obj} (h:TPI w gw b0 Bw B bs l pre W) (hK:W.heap[D]? = some o0) (ho:o0.isCells=false) (hD:w.heap.size≤D) (hS:pre.map (·.1)=chg l) :
  ∃ b',Wtr (W.putObj D o) gw b' (bs++tput l)∧(b'=b0∨w.heap.size≤b')∧Kp gw b0 w (W.putObj D o):=by
 obtain ⟨⟨b',hW,hb'⟩,hKp,_⟩:=h;have hg:=grownBy_putObj' W D o;refine ⟨b',?_,by rcases hb' with h | h;exact .inl h;exact .inr h.1,hKp.grown hg (fun k e=>by cases e;exact .inr (.inr hD))⟩;rw [tput_eq,← hS,← List.append_assoc];exact hW.own hg (fun r e=>by cases e;exact ⟨_,hK,ho⟩)
set_option maxRecDepth 100000 in
set_option maxHeartbeats 2000000 in
theorem tPut_any (w:World) (gw b0 bl:Nat) (A:Option Addr) (n c:Nat) (bs:List Bool) (l:List Int) (hW:Wtr w gw b0 bs) (hbs:bs.length≤1000000000) (hn:n=l.length) (hm:n≤10000) (hr:Rd w bl A (cI .i64 l)) (hbl:bl < w.heap.size) (hx:∀ x∈l,I6 x) (hG:Gl w)
  (h1:bl≠gw) (h2:bl≠b0) (e1:3≤gw) (e2:3≤b0) :
  Calls Tryz.prog 178 #[.pointer (some ⟨gw,0,none⟩),.slice A n c] w fun e w'=>e=.returned (.int .i64 0)∧∃ b',Wtr w' gw b' (bs++tput l)∧(b'=b0∨w.heap.size≤b')∧Kp gw b0 w w':=by
 subst hn;have hs:=hG.lt;have hgw:=hW.glt;have hb0:=hW.lt;have hnil:∀ W,(binOp .eql 273 (.pointer (some ⟨gw,0,none⟩)) (.pointer none)).run Tryz.prog W=.ok (.bool false) W:=fun _=>by kernel_rfl
 have hw1:Nw w (w.alloc (.cells #[.pointer (some ⟨gw,0,none⟩)] 273)):=(Nw.refl w).alloc' _;refine (callsIn_wide (n:=4)).1 ?_;refine callsIn_of_wp_marks Tryz.func178 rfl trivial ?_ rfl;simp only [Tryz.ntmps178,List.size_toArray,List.length_cons,List.length_nil,Nat.reduceAdd,Nat.reduceSub,Array.replicate_succ,Array.replicate_zero,List.push_toArray,List.append_toArray,List.nil_append,List.cons_append];have HC:=hid fun W A n c=>changes_any W A n c
 cases l with
 | nil =>
  gi_wp2_with (first | (refine ⟨trivial,?_⟩;gi_at_call 251;refine (callsIn_wide.2 (HC.out _ _ _ _)).mono ?_;rintro e w2 ⟨rfl,rfl⟩) | (gi_at_call 251;refine (callsIn_wide.2 (HC.out _ _ _ _)).mono ?_;rintro e w2 ⟨rfl,rfl⟩))
  have hsz:((w.alloc (.cells #[.pointer (some ⟨gw,0,none⟩)] 273)).alloc (.cells #[.slice A 0 c] 233)).heap.size=w.heap.size+2:=by simp
  have hbb:((w.alloc (.cells #[.pointer (some ⟨gw,0,none⟩)] 273)).alloc (.cells #[.slice A 0 c] 233)).heap[w.heap.size+1]? = some (.cells #[.slice A 0 c] 233 (0,0)):=by
   have:=heap_alloc_new (w.alloc (.cells #[.pointer (some ⟨gw,0,none⟩)] 273)) (.cells #[.slice A 0 c] 233)
   rwa [World.size_alloc] at this
  have hW0:Nw w ((w.alloc (.cells #[.pointer (some ⟨gw,0,none⟩)] 273)).alloc (.cells #[.slice A 0 c] 233)):=hw1.alloc' _;refine wpIn_rangeFunc_ownG (F:=Fence.wide) (n:=4) rfl (by omega) (gf:=300) (lb:=#[.pointer (some ⟨w.heap.size+1,0,none⟩)]) rfl trivial (enters_of Tryz.func300 (by kernel_rfl) rfl)
   (changes_stops 3 (by omega) _ (w.heap.size+1) bl A c [] (by simp at hm ⊢;try omega) hx hbb (Rd.nil _ _ _))
   KpC.trans (fun W lq o o' h1 _ _ _=>KpC.putObj _ _ W lq o' (by have:=hsz;omega) (by have:=hsz;omega)) (Below.refl _ _) (fun _=>rfl)
   (TPI w gw b0 w.heap.size (w.heap.size+1) bs []) (fun _ _ _=>False) (TPI.own (by have:=hsz;omega) (by have:=hsz;omega)) (fun _ _ _ _ _ hs _ _=>hs) ?start ?a1 ?assign ?body ?done ?stop
  case assign =>
   intro l x W K hK
   gi_wp2
   exact hK
  case stop =>
   intro D c pre W _ _ h _;exact h.elim
  case start =>
   refine ⟨⟨b0,?_,.inl rfl⟩,hW0.kp _ _,?_,by rw [hsz];omega⟩
   ·simpa [thead] using hW.nw hW0
   ·exact (Below.heap_alloc _ _ _ (by simp)).trans (heap_alloc_new w _)
  case body =>
   intro l pre x W _ hlt;exact absurd hlt (Nat.not_lt_zero _)
  case done =>
   intro D ys W hD hS hI hK
   gi_wp2
   refine ⟨by simp,.inl ⟨_,_,rfl,run_takeDeferred hK,?_⟩⟩;exact ⟨_,results_tmp rfl _ _ _,rfl,TPI.fin hI hK rfl (by have:=hsz;omega) hS⟩
 | cons t l =>
  gi_wp2
  refine wpIn_wide.2 ?_;have hux:IntKind.u64.wrap t=((uw t:Nat):Int):=by rw [IntKind.wrap_u64];unfold uw;omega
  obtain ⟨o,rfl,_,hc0⟩:=hr.get (k:=0) (by simp);simp only [Nat.add_zero] at hc0;have hc0':w.cell? ⟨bl,o,none⟩=some (.int .i64 t):=hc0;have hs1:(w.alloc (.cells #[.pointer (some ⟨gw,0,none⟩)] 273)).heap.size=w.heap.size+1:=by simp
  have hbx0:(w.alloc (.cells #[.pointer (some ⟨gw,0,none⟩)] 273)).heap[w.heap.size]? = some (.cells #[.pointer (some ⟨gw,0,none⟩)] 273):=heap_alloc_new w _;generalize hw1':w.alloc (.cells #[.pointer (some ⟨gw,0,none⟩)] 273)=w1 at *;have hd0:∀ p:Gp,(grow (w1.drewN p.n) p.os).cell? ⟨w.heap.size,0,none⟩=some (.pointer (some ⟨gw,0,none⟩)):=cell_gr (by simp only;omega) (by simp [World.cell?,hbx0]);have hd1:∀ p:Gp,(grow (w1.drewN p.n) p.os).cell? ⟨bl,o,none⟩=some (.int .i64 t):=cell_gr (by simp only;omega) (cell_old hw1 hbl hc0');refine wp_region_gr_tail 5 (by kernel_rfl) (by kernel_rfl) ?_;simp only [List.take_succ_cons,List.take_zero,List.drop_succ_cons,List.drop_zero]
  repeat (quiet_step (fail))
  refine wpQuiet_nil ?_;rintro _ ⟨p,rfl⟩;generalize hw2:grow (w1.drewN p.n) p.os=w2;have hn2:Nw w1 w2:=by rw [← hw2];exact Gr.nw ⟨p,rfl⟩
  have HB:=hid (WBits_any w2 gw b0 bs (uw t) 64 (hW.nw (hw1.trans hn2)) (by omega) (uw_lt t) (by omega));clear hd0 hd1 hw2;go_wp2_with (go_at_call 177;refine HB.out.mono ?_;rintro e w3 ⟨rfl,b3,hW3,hb3,hK3⟩)
  gi_wp2_with (first | (refine ⟨trivial,?_⟩;gi_at_call 251;refine (callsIn_wide.2 (HC.out _ _ _ _)).mono ?_;rintro e w4 ⟨rfl,rfl⟩) | (gi_at_call 251;refine (callsIn_wide.2 (HC.out _ _ _ _)).mono ?_;rintro e w4 ⟨rfl,rfl⟩))
  have hsz3:w.heap.size+1≤w3.heap.size:=by have:=hn2.size;have:=hK3.size;omega
  have hsz:(w3.alloc (.cells #[.slice (some ⟨bl,o,none⟩) (l.length+1) c] 233)).heap.size=w3.heap.size+1:=by simp
  have hbb:(w3.alloc (.cells #[.slice (some ⟨bl,o,none⟩) (l.length+1) c] 233)).heap[w3.heap.size]? = some (.cells #[.slice (some ⟨bl,o,none⟩) (l.length+1) c] 233 (0,0)):=heap_alloc_new w3 _;have hK1:Kp gw b0 w w3:=((hw1.trans hn2).kp gw b0).trans hK3 (.inl rfl) (.inr (.inl rfl));have hK4:Kp gw b0 w (w3.alloc (.cells #[.slice (some ⟨bl,o,none⟩) (l.length+1) c] 233)):=hK1.alloc' _;have hrd:=hr.kp hK4 h1 h2;have hbx3:w3.heap[w.heap.size]? = some (.cells #[.pointer (some ⟨gw,0,none⟩)] 273):=(hK3.block _ (by have:=hn2.size;omega) (by omega) (by omega)).trans ((hn2.block _ (by omega)).trans hbx0);refine wpIn_rangeFunc_ownG (F:=Fence.wide) (n:=4) rfl (by omega) (gf:=300) (lb:=#[.pointer (some ⟨w3.heap.size,0,none⟩)]) rfl trivial (enters_of Tryz.func300 (by kernel_rfl) rfl)
   (changes_stops 3 (by omega) _ w3.heap.size bl (some ⟨bl,o,none⟩) c (t::l) (by simp at hm ⊢;try omega) hx hbb hrd)
   KpC.trans (fun W lq o o' h1 _ _ _=>KpC.putObj _ _ W lq o' (by have:=hsz;omega) (by have:=hsz;omega)) (Below.refl _ _) (fun _=>rfl)
   (TPI w gw b0 w.heap.size w3.heap.size bs (t::l)) (fun _ _ _=>False) (TPI.own (by have:=hsz;omega) (by have:=hsz;omega)) (fun _ _ _ _ _ hs _ _=>hs) ?startc ?a2 ?assignc ?bodyc ?donec ?stopc
  case assignc =>
   intro l x W K hK
   gi_wp2
   exact hK
  case stopc =>
   intro D c pre W _ _ h _;exact h.elim
  case startc =>
   refine ⟨⟨b3,?_,?_⟩,hK4,(Below.heap_alloc _ _ _ (by omega)).trans hbx3,by rw [hsz];omega⟩
   ·simpa [thead] using hW3.nw ((Nw.refl _).alloc' (.cells #[.slice (some ⟨bl,o,none⟩) (l.length+1) c] 233))
   ·have:=hW3.lt;have:=hn2.size;rcases hb3 with h | h
    ·exact .inl h
    ·right;omega
  case donec =>
   intro D ys W hD hS hI hK
   gi_wp2
   refine ⟨by simp,.inl ⟨_,_,rfl,run_takeDeferred hK,?_⟩⟩;exact ⟨_,results_tmp rfl _ _ _,rfl,TPI.fin hI hK rfl (by have:=hsz;omega) hS⟩
  case bodyc =>
   intro lq pre x W hI hlt;obtain ⟨⟨b',hWt,hb'⟩,hKw,hbx,hBs⟩:=hI;have hGW:Gl W:=hG.kp hKw e1 e2;have hxn:IntKind.u64.wrap x.1=((uw x.1:Nat):Int):=by rw [IntKind.wrap_u64];unfold uw;omega
   have hxl:=uw_lt x.1;have hlen:pre.length≤l.length:=by
    have h1:(chg (t::l)).length=l.length:=chg_length t l;omega
   have hpl:((pre.map (·.1)).flatMap tbits).length≤68*pre.length:=by
    have:=tbits_flat_le (pre.map (·.1));simpa using this
   have hcs:=hWt.cells (by intro h;have:=congrArg List.length h;simp [thead,bitsOf_length] at this);have hlt1:bs.length+64+((pre.map (·.1)).flatMap tbits).length≤1000700000:=by simp at hm;omega
   have htl:(bs++thead (t::l)++(pre.map (·.1)).flatMap tbits).length=bs.length+64+((pre.map (·.1)).flatMap tbits).length:=by simp [thead,bitsOf_length];omega
   have hcb:W.cell? ⟨w.heap.size,0,none⟩=some (.pointer (some ⟨gw,0,none⟩)):=by simp [World.cell?,hbx]
   have hbl':=lt_of_block hbx;have hn1:w.heap.size≠gw:=by omega
   have hn2:w.heap.size≠b':=by rcases hb' with h | h<;>omega
   have hFo:=formOf_any W x.1 x.2 hGW;have hk5:tform x.1=0∨tform x.1=1∨tform x.1=2∨tform x.1=3∨tform x.1=4:=by have:=tform_le x.1;omega
   have hmap:(List.map (·.1) (pre++[x])).flatMap tbits=(pre.map (·.1)).flatMap tbits++tbits x.1:=by simp
   have fin:∀ (w5:World) (b5:Nat) (ac:Act),Wtr w5 gw b5 (bs++thead (t::l)++(pre.map (·.1)).flatMap tbits++bitsOf (tpre (tform x.1)) (tlen (tform x.1))++bitsOf (uw x.1) (twid (tform x.1)))→(b5=b'∨W.heap.size≤b5)→Kp gw b' W w5 →
     ownPostG ((w3.alloc (.cells #[.slice (some ⟨bl,o,none⟩) (l.length+1) c] 233)).heap.size) (KpC w3.heap.size bl) (TPI w gw b0 w.heap.size w3.heap.size bs (t::l)) (fun _ _ _=>False) (pre++[x]) W .normal ac w5:=by
    intro w5 b5 ac h1' h2' h3';have hWs:=hKw.size;refine ⟨⟨h3'.size,fun k o hk ho hoc=>?_⟩,⟨h3'.block _ hBs (by omega) (by rcases hb' with h | h<;>omega),h3'.block _ (by omega) h1 (by rcases hb' with h | h<;>omega),h3'.size⟩,⟨b5,?_,?_⟩,hKw.trans h3' (.inl rfl) (by rcases hb' with h | h;exact .inr (.inl h);exact .inr (.inr h.1)),(h3'.block _ hbl' hn1 hn2).trans hbx,Nat.lt_of_lt_of_le hBs h3'.size⟩
    ·refine (h3'.block k (lt_of_block ho) ?_ ?_).trans ho
     ·rintro rfl;omega
     ·rintro rfl;obtain ⟨cs,ty,fr,hcs⟩:=hcs;rw [hcs] at ho;cases ho;cases hoc
    ·rw [hmap];rw [show tbits x.1=bitsOf (tpre (tform x.1)) (tlen (tform x.1))++bitsOf (uw x.1) (twid (tform x.1)) from rfl];simpa only [List.append_assoc] using h1'
    ·rcases h2' with rfl | h2'
     ·exact hb'
     ·right;omega
   rcases hk5 with hk | hk | hk | hk | hk
   ·rw [hk] at hFo fin;have HFo:=hid hFo;have HFin:=hid fin;clear hFo fin
    gi_wp2_with fail
    refine ⟨trivial,?_⟩;refine (CallsIn.inRound lq (callsIn_wide.2 HFo.out)).mono ?_;rintro e w2 ⟨rfl,hgr⟩;have hn2':=hgr.nw;have hsw2:=hn2'.size;have hc0:=(hGW.nw hn2').forms 0 _ rfl;have hc1:=(hGW.nw hn2').forms 1 _ rfl;have hc2:=(hGW.nw hn2').forms 2 _ rfl;have hcb2:=cell_old (v:=.pointer (some ⟨gw,0,none⟩)) (a:=⟨w.heap.size,0,none⟩) hn2' hbl' hcb;have hltn:w.heap.size < w2.heap.size:=by omega
    have hnen:¬ w.heap.size=w2.heap.size:=by omega
    have hcb3:(w2.alloc (.cells #[.int .u64 0,.int .i64 1,.int .i64 0] 349)).cell? ⟨w.heap.size,0,none⟩=some (.pointer (some ⟨gw,0,none⟩)):=cell_old (a:=⟨w.heap.size,0,none⟩) ((Nw.refl w2).alloc' _) hltn hcb2;have hn3':Nw W (w2.alloc (.cells #[.int .u64 0,.int .i64 1,.int .i64 0] 349)):=hn2'.alloc' _;have HB1:=hid (WBits_any _ gw b' _ 0 1 (hWt.nw hn3') (by omega) (by omega) (by omega));clear hgr
    gi_wp2_with fail
    refine ⟨trivial,?_⟩;refine (CallsIn.inRound lq (callsIn_wide.2 HB1.out)).mono ?_;rintro e w4 ⟨rfl,b4,hW4,hb4,hK4'⟩;have hsz4:w2.heap.size+1≤w4.heap.size:=by have:=hK4'.size;simpa using this
    have hfb:w4.heap[w2.heap.size]? = some (.cells #[.int .u64 0,.int .i64 1,.int .i64 0] 349 (0,0)):=(hK4'.block _ (by simp) (by have:=hWt.glt;omega) (by have:=hWt.lt;omega)).trans (heap_alloc_new w2 _);have hc4:w4.cell? ⟨w2.heap.size,2,none⟩=some (.int .i64 0):=by simp [World.cell?,hfb]
    have hcb4:w4.cell? ⟨w.heap.size,0,none⟩=some (.pointer (some ⟨gw,0,none⟩)):=(World.cell?_of_block (hK4'.block _ (by simp;omega) hn1 hn2)).trans (cell_old (a:=⟨w.heap.size,0,none⟩) hn3' hbl' hcb);have HB2:=hid (WBits_any w4 gw b4 _ (uw x.1) 0 hW4 (by omega) hxl (by rw [List.length_append,bitsOf_length];omega));have HK4:=hid hK4';clear hc0 hc1 hc2 hcb2 hcb3 hfb hK4'
    gi_wp2_with fail
    refine ⟨trivial,?_⟩;refine (CallsIn.inRound lq (callsIn_wide.2 HB2.out)).mono ?_;rintro e w5 ⟨rfl,b5,hW5,hb5,hK5⟩
    gi_wp2
    refine HFin.out _ b5 _ hW5 ?_ ?_
    ·rcases hb5 with rfl | hb5
     ·rcases hb4 with rfl | hb4
      ·exact .inl rfl
      ·right;have:w2.heap.size+1≤b5:=(by simpa using hb4);omega
     ·right;omega
    ·refine ((hn3'.kp gw b').trans HK4.out (.inl rfl) (.inr (.inl rfl))).trans hK5 (.inl rfl) ?_;rcases hb4 with rfl | hb4
     ·exact .inr (.inl rfl)
     ·right;right;have:w2.heap.size+1≤b4:=(by simpa using hb4);omega
   ·rw [hk] at hFo fin;have HFo:=hid hFo;have HFin:=hid fin;clear hFo fin
    gi_wp2_with fail
    refine ⟨trivial,?_⟩;refine (CallsIn.inRound lq (callsIn_wide.2 HFo.out)).mono ?_;rintro e w2 ⟨rfl,hgr⟩;have hn2':=hgr.nw;have hsw2:=hn2'.size;have hc0:=(hGW.nw hn2').forms 3 _ rfl;have hc1:=(hGW.nw hn2').forms 4 _ rfl;have hc2:=(hGW.nw hn2').forms 5 _ rfl;have hcb2:=cell_old (v:=.pointer (some ⟨gw,0,none⟩)) (a:=⟨w.heap.size,0,none⟩) hn2' hbl' hcb;have hltn:w.heap.size < w2.heap.size:=by omega
    have hnen:¬ w.heap.size=w2.heap.size:=by omega
    have hcb3:(w2.alloc (.cells #[.int .u64 2,.int .i64 2,.int .i64 7] 349)).cell? ⟨w.heap.size,0,none⟩=some (.pointer (some ⟨gw,0,none⟩)):=cell_old (a:=⟨w.heap.size,0,none⟩) ((Nw.refl w2).alloc' _) hltn hcb2;have hn3':Nw W (w2.alloc (.cells #[.int .u64 2,.int .i64 2,.int .i64 7] 349)):=hn2'.alloc' _;have HB1:=hid (WBits_any _ gw b' _ 2 2 (hWt.nw hn3') (by omega) (by omega) (by omega));clear hgr
    gi_wp2_with fail
    refine ⟨trivial,?_⟩;refine (CallsIn.inRound lq (callsIn_wide.2 HB1.out)).mono ?_;rintro e w4 ⟨rfl,b4,hW4,hb4,hK4'⟩;have hsz4:w2.heap.size+1≤w4.heap.size:=by have:=hK4'.size;simpa using this
    have hfb:w4.heap[w2.heap.size]? = some (.cells #[.int .u64 2,.int .i64 2,.int .i64 7] 349 (0,0)):=(hK4'.block _ (by simp) (by have:=hWt.glt;omega) (by have:=hWt.lt;omega)).trans (heap_alloc_new w2 _);have hc4:w4.cell? ⟨w2.heap.size,2,none⟩=some (.int .i64 7):=by simp [World.cell?,hfb]
    have hcb4:w4.cell? ⟨w.heap.size,0,none⟩=some (.pointer (some ⟨gw,0,none⟩)):=(World.cell?_of_block (hK4'.block _ (by simp;omega) hn1 hn2)).trans (cell_old (a:=⟨w.heap.size,0,none⟩) hn3' hbl' hcb);have HB2:=hid (WBits_any w4 gw b4 _ (uw x.1) 7 hW4 (by omega) hxl (by rw [List.length_append,bitsOf_length];omega));have HK4:=hid hK4';clear hc0 hc1 hc2 hcb2 hcb3 hfb hK4'
    gi_wp2_with fail
    refine ⟨trivial,?_⟩;refine (CallsIn.inRound lq (callsIn_wide.2 HB2.out)).mono ?_;rintro e w5 ⟨rfl,b5,hW5,hb5,hK5⟩
    gi_wp2
    refine HFin.out _ b5 _ hW5 ?_ ?_
    ·rcases hb5 with rfl | hb5
     ·rcases hb4 with rfl | hb4
      ·exact .inl rfl
      ·right;have:w2.heap.size+1≤b5:=(by simpa using hb4);omega
     ·right;omega
    ·refine ((hn3'.kp gw b').trans HK4.out (.inl rfl) (.inr (.inl rfl))).trans hK5 (.inl rfl) ?_;rcases hb4 with rfl | hb4
     ·exact .inr (.inl rfl)
     ·right;right;have:w2.heap.size+1≤b4:=(by simpa using hb4);omega
   ·rw [hk] at hFo fin;have HFo:=hid hFo;have HFin:=hid fin;clear hFo fin
    gi_wp2_with fail
    refine ⟨trivial,?_⟩;refine (CallsIn.inRound lq (callsIn_wide.2 HFo.out)).mono ?_;rintro e w2 ⟨rfl,hgr⟩;have hn2':=hgr.nw;have hsw2:=hn2'.size;have hc0:=(hGW.nw hn2').forms 6 _ rfl;have hc1:=(hGW.nw hn2').forms 7 _ rfl;have hc2:=(hGW.nw hn2').forms 8 _ rfl;have hcb2:=cell_old (v:=.pointer (some ⟨gw,0,none⟩)) (a:=⟨w.heap.size,0,none⟩) hn2' hbl' hcb;have hltn:w.heap.size < w2.heap.size:=by omega
    have hnen:¬ w.heap.size=w2.heap.size:=by omega
    have hcb3:(w2.alloc (.cells #[.int .u64 6,.int .i64 3,.int .i64 12] 349)).cell? ⟨w.heap.size,0,none⟩=some (.pointer (some ⟨gw,0,none⟩)):=cell_old (a:=⟨w.heap.size,0,none⟩) ((Nw.refl w2).alloc' _) hltn hcb2;have hn3':Nw W (w2.alloc (.cells #[.int .u64 6,.int .i64 3,.int .i64 12] 349)):=hn2'.alloc' _;have HB1:=hid (WBits_any _ gw b' _ 6 3 (hWt.nw hn3') (by omega) (by omega) (by omega));clear hgr
    gi_wp2_with fail
    refine ⟨trivial,?_⟩;refine (CallsIn.inRound lq (callsIn_wide.2 HB1.out)).mono ?_;rintro e w4 ⟨rfl,b4,hW4,hb4,hK4'⟩;have hsz4:w2.heap.size+1≤w4.heap.size:=by have:=hK4'.size;simpa using this
    have hfb:w4.heap[w2.heap.size]? = some (.cells #[.int .u64 6,.int .i64 3,.int .i64 12] 349 (0,0)):=(hK4'.block _ (by simp) (by have:=hWt.glt;omega) (by have:=hWt.lt;omega)).trans (heap_alloc_new w2 _);have hc4:w4.cell? ⟨w2.heap.size,2,none⟩=some (.int .i64 12):=by simp [World.cell?,hfb]
    have hcb4:w4.cell? ⟨w.heap.size,0,none⟩=some (.pointer (some ⟨gw,0,none⟩)):=(World.cell?_of_block (hK4'.block _ (by simp;omega) hn1 hn2)).trans (cell_old (a:=⟨w.heap.size,0,none⟩) hn3' hbl' hcb);have HB2:=hid (WBits_any w4 gw b4 _ (uw x.1) 12 hW4 (by omega) hxl (by rw [List.length_append,bitsOf_length];omega));have HK4:=hid hK4';clear hc0 hc1 hc2 hcb2 hcb3 hfb hK4'
    gi_wp2_with fail
    refine ⟨trivial,?_⟩;refine (CallsIn.inRound lq (callsIn_wide.2 HB2.out)).mono ?_;rintro e w5 ⟨rfl,b5,hW5,hb5,hK5⟩
    gi_wp2
    refine HFin.out _ b5 _ hW5 ?_ ?_
    ·rcases hb5 with rfl | hb5
     ·rcases hb4 with rfl | hb4
      ·exact .inl rfl
      ·right;have:w2.heap.size+1≤b5:=(by simpa using hb4);omega
     ·right;omega
    ·refine ((hn3'.kp gw b').trans HK4.out (.inl rfl) (.inr (.inl rfl))).trans hK5 (.inl rfl) ?_;rcases hb4 with rfl | hb4
     ·exact .inr (.inl rfl)
     ·right;right;have:w2.heap.size+1≤b4:=(by simpa using hb4);omega
   ·rw [hk] at hFo fin;have HFo:=hid hFo;have HFin:=hid fin;clear hFo fin
    gi_wp2_with fail
    refine ⟨trivial,?_⟩;refine (CallsIn.inRound lq (callsIn_wide.2 HFo.out)).mono ?_;rintro e w2 ⟨rfl,hgr⟩;have hn2':=hgr.nw;have hsw2:=hn2'.size;have hc0:=(hGW.nw hn2').forms 9 _ rfl;have hc1:=(hGW.nw hn2').forms 10 _ rfl;have hc2:=(hGW.nw hn2').forms 11 _ rfl;have hcb2:=cell_old (v:=.pointer (some ⟨gw,0,none⟩)) (a:=⟨w.heap.size,0,none⟩) hn2' hbl' hcb;have hltn:w.heap.size < w2.heap.size:=by omega
    have hnen:¬ w.heap.size=w2.heap.size:=by omega
    have hcb3:(w2.alloc (.cells #[.int .u64 14,.int .i64 4,.int .i64 32] 349)).cell? ⟨w.heap.size,0,none⟩=some (.pointer (some ⟨gw,0,none⟩)):=cell_old (a:=⟨w.heap.size,0,none⟩) ((Nw.refl w2).alloc' _) hltn hcb2;have hn3':Nw W (w2.alloc (.cells #[.int .u64 14,.int .i64 4,.int .i64 32] 349)):=hn2'.alloc' _;have HB1:=hid (WBits_any _ gw b' _ 14 4 (hWt.nw hn3') (by omega) (by omega) (by omega));clear hgr
    gi_wp2_with fail
    refine ⟨trivial,?_⟩;refine (CallsIn.inRound lq (callsIn_wide.2 HB1.out)).mono ?_;rintro e w4 ⟨rfl,b4,hW4,hb4,hK4'⟩;have hsz4:w2.heap.size+1≤w4.heap.size:=by have:=hK4'.size;simpa using this
    have hfb:w4.heap[w2.heap.size]? = some (.cells #[.int .u64 14,.int .i64 4,.int .i64 32] 349 (0,0)):=(hK4'.block _ (by simp) (by have:=hWt.glt;omega) (by have:=hWt.lt;omega)).trans (heap_alloc_new w2 _);have hc4:w4.cell? ⟨w2.heap.size,2,none⟩=some (.int .i64 32):=by simp [World.cell?,hfb]
    have hcb4:w4.cell? ⟨w.heap.size,0,none⟩=some (.pointer (some ⟨gw,0,none⟩)):=(World.cell?_of_block (hK4'.block _ (by simp;omega) hn1 hn2)).trans (cell_old (a:=⟨w.heap.size,0,none⟩) hn3' hbl' hcb);have HB2:=hid (WBits_any w4 gw b4 _ (uw x.1) 32 hW4 (by omega) hxl (by rw [List.length_append,bitsOf_length];omega));have HK4:=hid hK4';clear hc0 hc1 hc2 hcb2 hcb3 hfb hK4'
    gi_wp2_with fail
    refine ⟨trivial,?_⟩;refine (CallsIn.inRound lq (callsIn_wide.2 HB2.out)).mono ?_;rintro e w5 ⟨rfl,b5,hW5,hb5,hK5⟩
    gi_wp2
    refine HFin.out _ b5 _ hW5 ?_ ?_
    ·rcases hb5 with rfl | hb5
     ·rcases hb4 with rfl | hb4
      ·exact .inl rfl
      ·right;have:w2.heap.size+1≤b5:=(by simpa using hb4);omega
     ·right;omega
    ·refine ((hn3'.kp gw b').trans HK4.out (.inl rfl) (.inr (.inl rfl))).trans hK5 (.inl rfl) ?_;rcases hb4 with rfl | hb4
     ·exact .inr (.inl rfl)
     ·right;right;have:w2.heap.size+1≤b4:=(by simpa using hb4);omega
   ·rw [hk] at hFo fin;have HFo:=hid hFo;have HFin:=hid fin;clear hFo fin
    gi_wp2_with fail
    refine ⟨trivial,?_⟩;refine (CallsIn.inRound lq (callsIn_wide.2 HFo.out)).mono ?_;rintro e w2 ⟨rfl,hgr⟩;have hn2':=hgr.nw;have hsw2:=hn2'.size;have hc0:=(hGW.nw hn2').forms 12 _ rfl;have hc1:=(hGW.nw hn2').forms 13 _ rfl;have hc2:=(hGW.nw hn2').forms 14 _ rfl;have hcb2:=cell_old (v:=.pointer (some ⟨gw,0,none⟩)) (a:=⟨w.heap.size,0,none⟩) hn2' hbl' hcb;have hltn:w.heap.size < w2.heap.size:=by omega
    have hnen:¬ w.heap.size=w2.heap.size:=by omega
    have hcb3:(w2.alloc (.cells #[.int .u64 15,.int .i64 4,.int .i64 64] 349)).cell? ⟨w.heap.size,0,none⟩=some (.pointer (some ⟨gw,0,none⟩)):=cell_old (a:=⟨w.heap.size,0,none⟩) ((Nw.refl w2).alloc' _) hltn hcb2;have hn3':Nw W (w2.alloc (.cells #[.int .u64 15,.int .i64 4,.int .i64 64] 349)):=hn2'.alloc' _;have HB1:=hid (WBits_any _ gw b' _ 15 4 (hWt.nw hn3') (by omega) (by omega) (by omega));clear hgr
    gi_wp2_with fail
    refine ⟨trivial,?_⟩;refine (CallsIn.inRound lq (callsIn_wide.2 HB1.out)).mono ?_;rintro e w4 ⟨rfl,b4,hW4,hb4,hK4'⟩;have hsz4:w2.heap.size+1≤w4.heap.size:=by have:=hK4'.size;simpa using this
    have hfb:w4.heap[w2.heap.size]? = some (.cells #[.int .u64 15,.int .i64 4,.int .i64 64] 349 (0,0)):=(hK4'.block _ (by simp) (by have:=hWt.glt;omega) (by have:=hWt.lt;omega)).trans (heap_alloc_new w2 _);have hc4:w4.cell? ⟨w2.heap.size,2,none⟩=some (.int .i64 64):=by simp [World.cell?,hfb]
    have hcb4:w4.cell? ⟨w.heap.size,0,none⟩=some (.pointer (some ⟨gw,0,none⟩)):=(World.cell?_of_block (hK4'.block _ (by simp;omega) hn1 hn2)).trans (cell_old (a:=⟨w.heap.size,0,none⟩) hn3' hbl' hcb);have HB2:=hid (WBits_any w4 gw b4 _ (uw x.1) 64 hW4 (by omega) hxl (by rw [List.length_append,bitsOf_length];omega));have HK4:=hid hK4';clear hc0 hc1 hc2 hcb2 hcb3 hfb hK4'
    gi_wp2_with fail
    refine ⟨trivial,?_⟩;refine (CallsIn.inRound lq (callsIn_wide.2 HB2.out)).mono ?_;rintro e w5 ⟨rfl,b5,hW5,hb5,hK5⟩
    gi_wp2
    refine HFin.out _ b5 _ hW5 ?_ ?_
    ·rcases hb5 with rfl | hb5
     ·rcases hb4 with rfl | hb4
      ·exact .inl rfl
      ·right;have:w2.heap.size+1≤b5:=(by simpa using hb4);omega
     ·right;omega
    ·refine ((hn3'.kp gw b').trans HK4.out (.inl rfl) (.inr (.inl rfl))).trans hK5 (.inl rfl) ?_;rcases hb4 with rfl | hb4
     ·exact .inr (.inl rfl)
     ·right;right;have:w2.heap.size+1≤b4:=(by simpa using hb4);omega
end
end Go.Proofs.YticphebaflnedaaGreatDoor
namespace Go.Proofs
open Go.Shelf
def Tryz.lays26_ren:Go.Shelf.Ren:=⟨fun | 26=>187 | 33=>259 | 34=>260 | 38=>264 | n=>n,fun | 24=>34 | 9=>9 | 3=>3 | 4=>4 | 40=>353 | 0=>0 | n=>n,fun | n=>n⟩
theorem Tryz.lays26:Go.Proofs.Lays2.n26 Tryz.prog Tryz.lays26_ren:={
 mixed:=by kernel_rfl
 f26:=Tryz.func187.trans (congrArg some (by kernel_rfl))
 f33:=Tryz.func259.trans (congrArg some (by kernel_rfl))
 f34:=Tryz.func260.trans (congrArg some (by kernel_rfl))
 f38:=Tryz.func264.trans (congrArg some (by kernel_rfl))
 t0:=Tryz.underlying0
 a0:=Tryz.isAgg0
 z0:=Tryz.sizeOf0
 v0:=Tryz.zeroValue0
 t3:=Tryz.underlying3
 a3:=Tryz.isAgg3
 z3:=Tryz.sizeOf3
 v3:=Tryz.zeroValue3
 t4:=Tryz.underlying4
 a4:=Tryz.isAgg4
 z4:=Tryz.sizeOf4
 v4:=Tryz.zeroValue4
 t9:=Tryz.underlying9
 a9:=Tryz.isAgg9
 z9:=Tryz.sizeOf9
 v9:=Tryz.zeroValue9
 t24:=Tryz.underlying34
 a24:=Tryz.isAgg34
 z24:=Tryz.sizeOf34
 v24:=Tryz.zeroValue34
 t40:=Tryz.underlying353
 a40:=Tryz.isAgg353
 z40:=Tryz.sizeOf353
 v40:=Tryz.zeroValue353 }
end Go.Proofs
namespace Go.Proofs.YticphebaflnedaaGreatDoor
open Go.Lib(hid)
section
open Go Go.RowKit Go.Lib Go.Sort Go.Shelf
attribute [local go_sem] Oper.semAt_some
def symEnc (t:List ByteArray):List Nat:=vint t.length++t.flatMap fun s=>lenB (sB s)
def TblOk (t:List ByteArray):Prop:=t.length≤1000∧(∀ s∈t,s.size≤65535)∧t.Pairwise LtB
theorem symEnc_snoc {t:List ByteArray} {k:Nat} (h:k < t.length):(t.take (k+1)).flatMap (fun s=>lenB (sB s))=(t.take k).flatMap (fun s=>lenB (sB s))++lenB (sB t[k]):=by
 rw [List.take_succ_eq_append_getElem h,List.flatMap_append];simp
theorem lens_le (t:List ByteArray) (h:∀ s∈t,s.size≤65535):(t.flatMap fun s=>lenB (sB s)).length≤65545*t.length:=by
 induction t with
 | nil=>simp
 | cons s t ih =>
  have h1:=ih (fun x hx=>h x (List.mem_cons_of_mem _ hx));have h2:=h s List.mem_cons_self;have h3:(lenB (sB s)).length≤65545:=by
   unfold lenB;rw [List.length_append,sB_length];have:=vint_len s.size (by omega);omega
  rw [List.flatMap_cons,List.length_append,List.length_cons];omega
theorem big_any (w:World) (s:ByteArray) (h:s.size≤65535):Calls Tryz.prog 110 #[.string s] w fun e w'=>e=.returned (.bool false)∧w=w':=by
 have h1:¬ (65535:Int) < (s.size:Int):=by omega
 go_enter Tryz.func110,Tryz.ntmps110
 go_wp2;go_ret;exact ⟨by simp,rfl⟩
set_option maxRecDepth 100000 in
theorem indexFunc_any (w:World) (b:Nat) (A:Option Addr) (n c:Nat) (t:List ByteArray) (hn:n=t.length) (hm:n≤100000) (hr:Rd w b A (cT t)) (hs:∀ s∈t,s.size≤65535) :
  Calls Tryz.prog 184 #[.slice A n c,.func (.func 110) #[] #[]] w fun e w'=>e=.returned (.int .i64 (-1))∧w=w':=by
 subst hn;have HR:=hid hr;have HS:=hid hs;clear hr hs;go_enter Tryz.func184,Tryz.ntmps184
 go_wp2
 go_loop [8] (fun i=>∃ k:Nat,k≤t.length∧i=.int .i64 k) (fun i=>t.length - (intOf i).toNat)
 case atStart=>exact ⟨0,by omega,rfl⟩
 case round =>
  obtain ⟨k,hk,rfl⟩:=hrel;by_cases hlt:k < t.length
  ·have hltI:(k:Int) < (t.length:Int):=by omega
   obtain ⟨o,rfl,_,hc⟩:=HR.out.get (k:=k) (by simpa using hlt);rw [List.getElem_map] at hc;have HB:=hid (big_any w t[k] (HS.out _ (List.getElem_mem hlt)));generalize t[k]=x at *;go_wp2_with (go_at_call 110;refine HB.out.mono ?_;rintro e w1 ⟨rfl,hw⟩;subst hw)
   go_round
   case rel=>exact ⟨k+1,by omega,by go_num⟩
   case measure=>simp [intOf];omega
  ·obtain rfl:k=t.length:=by omega
   go_wp2;go_ret;exact ⟨rfl,rfl⟩
set_option maxRecDepth 100000 in
theorem containsFunc_any (w:World) (b:Nat) (A:Option Addr) (n c:Nat) (t:List ByteArray) (hn:n=t.length) (hm:n≤100000) (hr:Rd w b A (cT t)) (hs:∀ s∈t,s.size≤65535) :
  Calls Tryz.prog 109 #[.slice A n c,.func (.func 110) #[] #[]] w fun e w'=>e=.returned (.bool false)∧w=w':=by
 subst hn;have HI:=hid (indexFunc_any w b A t.length c t rfl hm hr hs);clear hr hs hm;go_enter Tryz.func109,Tryz.ntmps109
 go_wp2_with (go_at_call 184;refine HI.out.mono ?_;rintro e w1 ⟨rfl,hw⟩;subst hw)
 go_ret;exact ⟨rfl,rfl⟩
theorem neighbors_any (w:World) (A:Option Addr) (n c:Nat):Calls Tryz.prog 111 #[.slice A n c] w fun e w'=>e=.returned (.func (.func 185) #[] #[.pointer (some ⟨w.heap.size,0,none⟩)])∧w'=w.alloc (.cells #[.slice A n c] 34):=by
 go_enter Tryz.func111,Tryz.ntmps111
 go_wp2;go_ret;exact ⟨rfl,rfl⟩
abbrev NbS:={ p:ByteArray × ByteArray // LtB p.1 p.2 }
set_option maxRecDepth 100000 in
theorem neighbors_stops (n:Nat) (hn:1≤n) (w:World) (B bl:Nat) (A:Option Addr) (c:Nat) (t:List ByteArray) (hm:t.length≤100000) (ht:t.Pairwise LtB) (hB:w.heap[B]? = some (.cells #[.slice A t.length c] 34 (0,0))) (hr:Rd w bl A (cT t)) :
  SeqStopsK Fence.wide n Tryz.prog 185 #[.pointer (some ⟨B,0,none⟩)] (fun p:NbS=>#[.string p.1.1,.string p.1.2]) (KpC B bl) (fun _=>True) (fun _=>True) t.length w:=by
 intro lp J Jx W hW hJ hJx hY h0;have hBW:=(hW.block B (lt_of_block hB)).trans hB;have HR:=hid (hr.nw hW);have HT:=hid ht;have HY:=hid hY;have HJ:=hid hJ;have HB:=hid hBW;clear ht hY hJ hBW hr hB;refine callsIn_of_wp Tryz.func185 rfl trivial ?_ rfl;simp only [Tryz.ntmps185,List.size_toArray,List.length_cons,List.length_nil,Nat.reduceAdd,Nat.reduceSub,Array.replicate_succ,Array.replicate_zero,List.push_toArray,List.append_toArray,List.nil_append,List.cons_append]
 gi_wp2
 gi_loopw [3] (fun v wr=>∃ (pre:List NbS) (k:Nat),v=.int .i64 ((k:Int)+1)∧pre.length=k∧Hid (J pre wr)∧Hid (KpC B bl W wr)) (fun v _=>t.length - (intOf v).toNat)
 case atStart=>exact ⟨[],0,rfl,rfl,hid h0,hid ⟨rfl,rfl,Nat.le_refl _⟩⟩
 case round =>
  obtain ⟨pre,k,rfl,hp,HJp,HK⟩:=hrel;have HP:=hid hp;have hBr0:=HK.out.1.trans HB.out;have hBr:wr.cell? ⟨B,0,none⟩=some (.slice A t.length c):=by simp [World.cell?,hBr0]
  have hBl:=lt_of_block hBr0;clear hp hBr0;by_cases hlt:k+1 < t.length
  ·have hltI:(k:Int)+1 < (t.length:Int):=by omega
   obtain ⟨o,rfl,hb,hc1⟩:=(HR.out.kpc HK.out).get (k:=k+1) (by simpa using hlt);obtain ⟨o',ho',_,hc0⟩:=(HR.out.kpc HK.out).get (k:=k) (by simp;omega);obtain rfl:o=o':=by simpa using ho'
   rw [List.getElem_map] at hc1 hc0;have hLt:LtB t[k] t[k+1]:=by
    have:=List.pairwise_iff_getElem.1 HT.out k (k+1) (by omega) hlt (by omega);exact this
   generalize t[k]=x at *;generalize t[k+1]=y at *;have hplen:pre.length < t.length:=by have:=HP.out;omega
   have q0:∀ p:Gp,(grow (wr.drewN p.n) p.os).cell? ⟨B,0,none⟩=some (.slice (some ⟨bl,o,none⟩) t.length c):=cell_gr hBl hBr;have q1:∀ p:Gp,(grow (wr.drewN p.n) p.os).cell? ⟨bl,o+k,none⟩=some (.string x):=cell_gr hb hc0;have q2:∀ p:Gp,(grow (wr.drewN p.n) p.os).cell? ⟨bl,o+(k+1),none⟩=some (.string y):=cell_gr hb hc1;have e1:IntKind.i64.wrap (k:Int)=(k:Int):=IntWalk.i64_in _ (by omega);have e2:(0:Int)≤(k:Int)+1:=by omega
   have e3:((k:Int)+1).toNat=k+1:=by omega
   have e4:(k:Int) < (t.length:Int):=by omega
   clear ho' hc0 hc1
   gi_wp2_with fail
   refine wpIn_region_gr_tail 10 (by kernel_rfl) (by kernel_rfl) ?_;simp only [List.take_succ_cons,List.take_zero,List.drop_succ_cons,List.drop_zero]
   repeat (go_big_quiet_step (first | fail))
   refine wpQuiet_nil ?_;rintro _ ⟨p,rfl⟩;have hG:Gr wr (grow (wr.drewN p.n) p.os):=⟨p,rfl⟩;have hJ2:J pre (grow (wr.drewN p.n) p.os):=HJ.out pre wr _ none HJp.out ⟨hG.nw.os,hG.nw.tape,hG.nw.output,hG.nw.size,fun i hi _=>hG.nw.block i hi⟩ (fun r e=>by cases e);have hK2:KpC B bl W (grow (wr.drewN p.n) p.os):=HK.out.trans ⟨hG.nw.block _ hBl,hG.nw.block _ hb,hG.nw.size⟩;generalize grow (wr.drewN p.n) p.os=w2 at *;obtain ⟨fn,tmps,assign,body,hy,hR⟩:=HY.out pre ⟨(x,y),hLt⟩ w2 hJ2 hplen;dsimp only at hy;have HRd:=hid hR;have HK2:=hid hK2;clear q0 q1 q2 hR hK2 hJ2 hG
   gi_wp2
   refine HRd.out.mono ?_;rintro e W3 (⟨rfl,hJ3,hk3⟩ | ⟨rfl,hJx3⟩)
   ·have HJ3:=hid hJ3;have HK3:=hid (HK2.out.trans hk3);clear hJ3 hk3
    gi_wp2
    go_roundw
    case rel=>exact ⟨pre++[⟨(x,y),hLt⟩],k+1,by simp,by simp [HP.out],HJ3,HK3⟩
    case measure=>simp [intOf];omega
   ·gi_wp2
    refine bodyPost_ret (results_none rfl _ _ _) rfl ?_;exact ⟨⟨_,rfl⟩,.inr ⟨_,trivial,hJx3⟩⟩
  ·have hltI:¬ (k:Int)+1 < (t.length:Int):=by omega
   gi_wp2
   go_end0
   exact ⟨⟨_,rfl⟩,.inl ⟨pre,HJp.out⟩⟩
def NewBE (w:World) (l:List Nat) (e:Ending) (w':World):Prop :=
 ∃ b' A' c',e=.returned (.tuple #[.slice A' l.length c',.int .i64 0])∧Ow w' b' 5 1 A' l.length c' (cN .u8 l)∧w.heap.size≤b'∧Nw w w'
theorem at_free {W:World} {g k:Nat} {cs:Array Value} {t:TypeId} (h:W.heap[g]? = some (.cells cs t (0,0))):W.frozen? ⟨g,k,none⟩=false:=by simp [World.frozen?,h]
theorem results_two {P:Program} {fn:Func} {p q:Tmp} {t1 t2:TypeId} {u v:Value} (h:fn.results=#[.cell p t1,.cell q t2]) (tmps:Array Value) (w:World) (a b:Addr) (hp:tmps.getD p undef=.pointer (some a)) (hq:tmps.getD q undef=.pointer (some b))
  (h1:(loadVar t1 a).run P w=.ok u w) (h2:(loadVar t2 b).run P w=.ok v w):(results fn tmps).run P w=.ok (.tuple #[u,v]) w:=by
 simp only [Array.getD_eq_getD_getElem?] at hp hq;simp only [results,h];simp [Sem.run_bind,Result.andThen,asAddr,hp,hq,h1,h2]
theorem Ow.kpo {w w':World} {b n c g:Nat} {e:TypeId} {size:Nat} {A:Option Addr} {xs:List Value} (h:Ow w b e size A n c xs) (hk:Kp g g w w') (hb:b≠g∨A=none):Ow w' b e size A n c xs:=by
 rcases hb with hb | rfl
 ·exact h.kp hk hb hb
 ·rcases h with ⟨_,q⟩ | ⟨q,_⟩
  ·exact .inl ⟨rfl,q⟩
  ·cases q
theorem ret_boxes {w wr:World} {D bk n c:Nat} {u0 u1:Value} {t0 t1:TypeId} {e:TypeId} {size:Nat} {A:Option Addr} {xs:List Value} (v0 v1:Value) (hN:Nw w wr) (h0:wr.heap[w.heap.size]? = some (.cells #[u0] t0 (0,0))) (h1:wr.heap[w.heap.size+1]? = some (.cells #[u1] t1 (0,0))) (hD:wr.heap[D]? = some (.deferred (some []))) (hd:w.heap.size+1 < D)
  (hO:Ow wr bk e size A n c xs) (hb:(w.heap.size≤bk∧bk ∉ [w.heap.size,w.heap.size+1,D])∨A=none) :
  ((wr.setCell ⟨w.heap.size,0,none⟩ v0).setCell ⟨w.heap.size+1,0,none⟩ v1).heap[D]? = some (.deferred (some [])) ∧
  (((wr.setCell ⟨w.heap.size,0,none⟩ v0).setCell ⟨w.heap.size+1,0,none⟩ v1).putObj D (.deferred none)).cell? ⟨w.heap.size,0,none⟩=some v0 ∧
  (((wr.setCell ⟨w.heap.size,0,none⟩ v0).setCell ⟨w.heap.size+1,0,none⟩ v1).putObj D (.deferred none)).cell? ⟨w.heap.size+1,0,none⟩=some v1 ∧
  Ow (((wr.setCell ⟨w.heap.size,0,none⟩ v0).setCell ⟨w.heap.size+1,0,none⟩ v1).putObj D (.deferred none)) bk e size A n c xs ∧
  Nw w (((wr.setCell ⟨w.heap.size,0,none⟩ v0).setCell ⟨w.heap.size+1,0,none⟩ v1).putObj D (.deferred none)):=by
 have k0:Kp w.heap.size w.heap.size wr (wr.setCell ⟨w.heap.size,0,none⟩ v0):=(Kp.refl _ _ _).setCell' (p:=⟨w.heap.size,0,none⟩) (.inl rfl) _;have k1:Kp (w.heap.size+1) (w.heap.size+1) (wr.setCell ⟨w.heap.size,0,none⟩ v0) ((wr.setCell ⟨w.heap.size,0,none⟩ v0).setCell ⟨w.heap.size+1,0,none⟩ v1):=(Kp.refl _ _ _).setCell' (p:=⟨w.heap.size+1,0,none⟩) (.inl rfl) _;have k2:=kp_putObj ((wr.setCell ⟨w.heap.size,0,none⟩ v0).setCell ⟨w.heap.size+1,0,none⟩ v1) D (.deferred none);have a0:=box_set (v:=v0) h0;have a1:=(k0.block _ (lt_of_block h1) (by omega) (by omega)).trans h1;have b0:=(k1.block _ (lt_of_block a0) (by omega) (by omega)).trans a0;have b1:=box_set (v:=v1) a1;have d1:=(k1.block _ (Nat.lt_of_lt_of_le (lt_of_block hD) k0.size) (by omega) (by omega)).trans ((k0.block _ (lt_of_block hD) (by omega) (by omega)).trans hD);have c0:=(k2.block _ (lt_of_block b0) (by omega) (by omega)).trans b0;have c1:=(k2.block _ (lt_of_block b1) (by omega) (by omega)).trans b1;have hb0:bk≠w.heap.size∨A=none:=by rcases hb with h | h;exact .inl (fun e=>h.2 (by rw [e];simp));exact .inr h
 have hb1:bk≠w.heap.size+1∨A=none:=by rcases hb with h | h;exact .inl (fun e=>h.2 (by rw [e];simp));exact .inr h
 have hb2:bk≠D∨A=none:=by rcases hb with h | h;exact .inl (fun e=>h.2 (by rw [e];simp));exact .inr h
 exact ⟨d1,by simp [World.cell?,c0],by simp [World.cell?,c1],((hO.kpo k0 hb0).kpo k1 hb1).kpo k2 hb2,Kp.nw (Kp.nw (Kp.nw hN k0 (by omega) (by omega)) k1 (by omega) (by omega)) k2 (by omega) (by omega)⟩
def BxI (w:World) (N:Nat) {α:Type} (_:List α) (W:World):Prop :=
 Nw w W∧N≤W.heap.size∧W.heap[w.heap.size]? = some (.cells #[.slice none 0 0] 25 (0,0))∧W.heap[w.heap.size+1]? = some (.cells #[.int .i64 0] 28 (0,0))
theorem BxI.own {α:Type} {w:World} {N D:Nat} (hD:w.heap.size+1 < D):OwnFrom D (BxI w N (α:=α)):=by
 rintro pre W W' row ⟨h1,h2,h3,h4⟩ hg hr;refine ⟨h1.grown' hg (fun k e=>by have:=(hr _ e).1;omega),Nat.le_trans h2 hg.size,(hg.block _ (lt_of_block h3) (fun e=>by have:=(hr _ e.symm).1;omega)).trans h3,(hg.block _ (lt_of_block h4) (fun e=>by have:=(hr _ e.symm).1;omega)).trans h4⟩
set_option maxRecDepth 100000 in
set_option maxHeartbeats 1000000 in
theorem SymEncode_any (w:World) (b:Nat) (A:Option Addr) (n c:Nat) (t:List ByteArray) (hn:n=t.length) (hr:Rd w b A (cT t)) (hbl:b < w.heap.size) (ht:TblOk t) :
  Calls Tryz.prog 56 #[.slice A n c] w (NewBE w (symEnc t)):=by
 subst hn;obtain ⟨hm,hs,hp⟩:=ht;have HC:=hid fun W (hN:Nw w W)=>containsFunc_any W b A t.length c t rfl (by omega) (hr.nw hN) hs
 have HNb:=hid fun W=>neighbors_any W A t.length c
 have HR:=hid hr;have HS:=hid hs;have HP:=hid hp;have hw1:Nw w ((w.alloc (.cells #[.slice none 0 0] 25)).alloc (.cells #[.int .i64 0] 28)):=((Nw.refl w).alloc' _).alloc' _;have hw2:Nw w (((w.alloc (.cells #[.slice none 0 0] 25)).alloc (.cells #[.int .i64 0] 28)).alloc (.cells #[.slice A t.length c] 34)):=hw1.alloc' _;have hsz:(((w.alloc (.cells #[.slice none 0 0] 25)).alloc (.cells #[.int .i64 0] 28)).alloc (.cells #[.slice A t.length c] 34)).heap.size=w.heap.size+3:=by simp
 have hbb:(((w.alloc (.cells #[.slice none 0 0] 25)).alloc (.cells #[.int .i64 0] 28)).alloc (.cells #[.slice A t.length c] 34)).heap[w.heap.size+2]? = some (.cells #[.slice A t.length c] 34 (0,0)):=by
  have:=heap_alloc_new ((w.alloc (.cells #[.slice none 0 0] 25)).alloc (.cells #[.int .i64 0] 28)) (.cells #[.slice A t.length c] 34);simpa using this
 have hI0:BxI w (w.heap.size+3) ([]:List NbS) (((w.alloc (.cells #[.slice none 0 0] 25)).alloc (.cells #[.int .i64 0] 28)).alloc (.cells #[.slice A t.length c] 34)):=by
  refine ⟨hw2,by omega,?_,?_⟩
  ·exact (heap_alloc_old _ _ (by simp;omega)).trans ((heap_alloc_old _ _ (by simp)).trans (heap_alloc_new _ _))
  ·refine (heap_alloc_old _ _ (by simp)).trans ?_;have:=heap_alloc_new (w.alloc (.cells #[.slice none 0 0] 25)) (.cells #[.int .i64 0] 28)
   rwa [World.size_alloc] at this
 have hVl:=vint_len t.length (by omega);have HVA:=hid fun W=>VAppend_any W 0 none 0 0 [] t.length (Ow.nil _ _ _ _) (by omega) (by omega)
 have HE:=hid (show symEnc t=vint t.length++t.flatMap (fun s=>lenB (sB s)) from rfl);obtain ⟨V,hV⟩:∃ V,vint t.length=V:=⟨_,rfl⟩;rw [hV] at hVl HE;simp only [hV] at HVA;have u0:IntKind.u64.wrap (t.length:Int)=(t.length:Int):=IntWalk.u64_in _ (by omega);clear hr hs hp hV;refine (callsIn_wide (n:=4)).1 ?_;refine callsIn_of_wp_marks Tryz.func56 rfl trivial ?_ rfl;simp only [Tryz.ntmps56,List.size_toArray,List.length_cons,List.length_nil,Nat.reduceAdd,Nat.reduceSub,Array.replicate_succ,Array.replicate_zero,List.push_toArray,List.append_toArray,List.nil_append,List.cons_append]
 gi_wp2_with (first
  | (refine ⟨trivial,?_⟩;gi_at_call 111;refine (callsIn_wide.2 (HNb.out _)).mono ?_;rintro e w2 ⟨rfl,rfl⟩)
  | (refine ⟨trivial,?_⟩;gi_at_call 109;refine (callsIn_wide.2 (HC.out _ hw1)).mono ?_;rintro e w2 ⟨rfl,hw⟩;subst hw))
 refine wpIn_rangeFunc_ownG (F:=Fence.wide) (n:=4) rfl (by omega) (gf:=185) (lb:=#[.pointer (some ⟨w.heap.size+1+1,0,none⟩)]) rfl trivial (enters_of Tryz.func185 (by kernel_rfl) rfl)
  (neighbors_stops 3 (by omega) _ (w.heap.size+2) b A c t (by omega) HP.out hbb (HR.out.nw hw2))
  KpC.trans (fun W lq o o' h1 _ _ _=>KpC.putObj _ _ W lq o' (by have:=hsz;omega) (by have:=hsz;omega)) (Below.refl _ _) (fun _=>rfl)
  (BxI w (w.heap.size+3)) (fun _ _ _=>False) (BxI.own (by have:=hsz;omega)) (fun _ _ _ _ _ hs _ _=>hs) ?start ?a1 ?assign ?body ?done ?stop
 case assign =>
  intro l x W K hK
  gi_wp2
  exact hK
 case stop =>
  intro D c pre W _ _ h _;exact h.elim
 case start=>exact hI0
 case body =>
  rintro lq pre ⟨⟨x,y⟩,hxy⟩ W hI hlt;have hB1:Op.bytesLess x.toList y.toList=true:=hxy;have HI:=hid hI;clear hI
  gi_wp2
  exact ⟨KeepsFrom.refl _ _,⟨rfl,rfl,Nat.le_refl _⟩,HI.out⟩
 case done =>
  intro D ys W hD _ hI hK;obtain ⟨k1,k2,k3,k4⟩:=hI;have HK1:=hid k1;have HK2:=hid k2;have HK3:=hid k3;have HK4:=hid k4;have HKD:=hid hK;clear k1 k2 k3 k4 hK hI0 hbb hw1 hw2;have HLT:=hid (show ∀ k∈[w.heap.size,w.heap.size+1,D],k < W.heap.size from fun k hk=>by
   have h1:=lt_of_block HKD.out;have h2:=HK2.out;simp at hk;omega)
  gi_wp2_with fail
  refine ⟨trivial,?_⟩;refine (callsIn_wide.2 (HVA.out W)).mono ?_;rintro e W1 hA;obtain ⟨b1,A1,c1,rfl,hO,hp,hN,hK,hlt⟩:=hA.own [w.heap.size,w.heap.size+1,D] HK1.out (.inr rfl) HLT.out;simp only [Nat.zero_add,List.nil_append] at hO;have HO:=hid hO;have HPo:=hid hp;have HNo:=hid hN;have HKo:=hid (show W1.heap[w.heap.size]? = some (.cells #[.slice none 0 0] 25 (0,0))∧W1.heap[w.heap.size+1]? = some (.cells #[.int .i64 0] 28 (0,0))∧W1.heap[D]? = some (.deferred (some [])) from
   ⟨(hK _ (by simp)).trans HK3.out,(hK _ (by simp)).trans HK4.out,(hK _ (by simp)).trans HKD.out⟩)
  have hv0:V.length≤10+65545*0:=by omega
  clear hO hp hN hK hlt hA HK1 HK2 HK3 HK4 HKD HLT HC HNb HVA
  gi_wp2_with fail
  gi_loopw [6,24] (fun v i wr=>∃ (k M bk:Nat) (Ak:Option Addr) (ck:Nat),k≤t.length∧i=.int .i64 k∧v=.slice Ak M ck∧M≤10+65545*k∧Hid (Ow wr bk 5 1 Ak M ck (cN .u8 (V++(t.take k).flatMap fun s=>lenB (sB s))))∧Hid ((w.heap.size≤bk∧bk ∉ [w.heap.size,w.heap.size+1,D])∨Ak=none)∧Hid (Nw w wr) ∧
   Hid (wr.heap[w.heap.size]? = some (.cells #[.slice none 0 0] 25 (0,0))∧wr.heap[w.heap.size+1]? = some (.cells #[.int .i64 0] 28 (0,0))∧wr.heap[D]? = some (.deferred (some [])))) (fun _ i _=>t.length - (intOf i).toNat)
  case atStart=>exact ⟨0,V.length,b1,A1,c1,by omega,rfl,rfl,hv0,by simpa using HO,HPo,HNo,HKo⟩
  case round =>
   obtain ⟨k,M,bk,Ak,ck,hk,rfl,rfl,hM,HOk,HPk,HNk,HKk⟩:=hrel;by_cases hlt:k < t.length
   ·have hltI:(k:Int) < (t.length:Int):=by omega
    obtain ⟨o,rfl,_,hc⟩:=(HR.out.nw HNk.out).get (k:=k) (by simpa using hlt);rw [List.getElem_map] at hc;have hxs:=HS.out t[k] (List.getElem_mem hlt);have HT:=hid (symEnc_snoc hlt);generalize t[k]=x at *;have hL:(lenB (sB x)).length≤65545:=by
     unfold lenB;rw [List.length_append,sB_length];have:=vint_len x.size (by omega);omega
    have HA:=hid (AppendBytes_any wr bk Ak M ck _ x HOk.out (by omega) (by omega));have HLT:=hid (show ∀ k∈[w.heap.size,w.heap.size+1,D],k < wr.heap.size from fun k hk=>by
     have h1:=lt_of_block HKk.out.1;have h2:=lt_of_block HKk.out.2.1;have h3:=lt_of_block HKk.out.2.2;simp at hk;omega)
    gi_wp2_with fail
    refine ⟨trivial,?_⟩;refine (callsIn_wide.2 HA.out).mono ?_;rintro e W2 hB;obtain ⟨b2,A2,c2,rfl,hO,hp,hN,hK,_⟩:=hB.own [w.heap.size,w.heap.size+1,D] HNk.out HPk.out HLT.out;obtain ⟨L,hL2⟩:∃ L,(lenB (sB x)).length=L:=⟨_,rfl⟩;rw [hL2] at hL hO ⊢;have HO2:=hid hO;have HP2:=hid hp;have HN2:=hid hN;have HK2:=hid (show W2.heap[w.heap.size]? = some (.cells #[.slice none 0 0] 25 (0,0))∧W2.heap[w.heap.size+1]? = some (.cells #[.int .i64 0] 28 (0,0))∧W2.heap[D]? = some (.deferred (some [])) from
     ⟨(hK _ (by simp)).trans HKk.out.1,(hK _ (by simp)).trans HKk.out.2.1,(hK _ (by simp)).trans HKk.out.2.2⟩)
    clear hO hp hN hK hB hL2 hc HA HOk HPk HNk HKk HLT
    gi_wp2_with fail
    go_roundw
    case rel=>exact ⟨k+1,M+L,b2,A2,c2,by omega,by go_num,rfl,by omega,by rw [HT.out,← List.append_assoc];exact HO2,HP2,HN2,HK2⟩
    case measure=>simp [intOf];omega
   ·obtain rfl:k=t.length:=by omega
    have hO:=HOk.out;rw [List.take_length,← HE.out] at hO;have hl:M=(symEnc t).length:=by have:=hO.len;rw [List.length_map] at this;omega
    have HO:=hid hO;have HL:=hid hl;have c0:wr.cell? ⟨w.heap.size,0,none⟩=some (.slice none 0 0):=by simp [World.cell?,HKk.out.1]
    have f0:wr.frozen? ⟨w.heap.size,0,none⟩=false:=at_free HKk.out.1;have c1:wr.cell? ⟨w.heap.size+1,0,none⟩=some (.int .i64 0):=by simp [World.cell?,HKk.out.2.1]
    have f1:wr.frozen? ⟨w.heap.size+1,0,none⟩=false:=at_free HKk.out.2.1;clear hO hl
    gi_wp2_with fail
    have hDD:w.heap.size+1 < D:=by have:=hsz;omega
    obtain ⟨r1,r2,r3,r4,r5⟩:=ret_boxes (.slice Ak M ck) (.int .i64 0) HNk.out HKk.out.1 HKk.out.2.1 HKk.out.2.2 hDD HO.out HPk.out;refine ⟨by simp,.inl ⟨_,_,rfl,run_takeDeferred r1,?_⟩⟩;refine ⟨_,results_two (u:=.slice Ak M ck) (v:=.int .i64 0) rfl _ _ ⟨w.heap.size,0,none⟩ ⟨w.heap.size+1,0,none⟩ rfl rfl (by simp [go_sem,r2]) (by simp [go_sem,r3]),?_⟩;by_cases hA:Ak=none
    ·subst hA;rcases r4 with ⟨_,q1,q2,q3⟩ | ⟨q,_⟩
     ·exact ⟨w.heap.size,none,ck,by rw [← HL.out],by rw [← HL.out];exact .inl ⟨rfl,q1,q2,q3⟩,Nat.le_refl _,r5⟩
     ·cases q
    ·rcases HPk.out with h | h
     ·exact ⟨bk,Ak,ck,by rw [← HL.out],by rw [← HL.out];exact r4,h.1,r5⟩
     ·exact (hA h).elim
def idxS (t:List ByteArray) (s:ByteArray):Nat:=t.findIdx fun x=>decide (x.toList=s.toList)
theorem idxS_spec {t:List ByteArray} {s:ByteArray} (h:s∈t):∃ K,idxS t s=K∧∃ hk:K < t.length,t[K]=s:=by
 have hlt:t.findIdx (fun x=>decide (x.toList=s.toList)) < t.length:=List.findIdx_lt_length_of_exists ⟨s,h,by simp⟩;refine ⟨_,rfl,hlt,?_⟩;have:=List.findIdx_getElem (p:=fun x=>decide (x.toList=s.toList)) (xs:=t) (w:=hlt);exact bytes_ext (of_decide_eq_true this)
theorem asc_lt {t:List ByteArray} (ht:t.Pairwise LtB) {i j:Nat} (hi:i < t.length) (hj:j < t.length) (h:i < j):Op.bytesLess t[i].toList t[j].toList=true:=List.pairwise_iff_getElem.1 ht i j hi hj h
set_option maxRecDepth 100000 in
theorem SIndex_any (w:World) (b:Nat) (A:Option Addr) (n c:Nat) (t:List ByteArray) (s:ByteArray) (hn:n=t.length) (hr:Rd w b A (cT t)) (ht:TblOk t) (hs:s∈t) :
  Calls Tryz.prog 114 #[.slice A n c,.string s] w fun e w'=>e=.returned (.tuple #[.int .i64 (idxS t s:Nat),.bool true])∧Dr w w':=by
 subst hn;obtain ⟨K,hK,hlt,he⟩:=idxS_spec hs;rw [hK];obtain ⟨off,rfl,_,hc⟩:∃ o,A=some ⟨b,o,none⟩∧b < w.heap.size∧∀ j u,(cT t)[j]? = some u→w.cell? ⟨b,o+j,none⟩=some u:=by
  rcases hr with h | h
  ·have:t=[]:=List.map_eq_nil_iff.1 h;subst this;simp at hlt
  ·exact h
 have hB:=Any2.slices_BinarySearch_string Tryz.lays26 b off t.length c (fun j=>if h:j < t.length then t[j] else s) s w (by have:=ht.1;omega) (fun j hj=>hc j _ (by rw [List.getElem?_map,List.getElem?_eq_getElem hj];simp [hj]));have hI:bsGo (fun j=>Op.bytesLess (if h:j < t.length then t[j] else s).toList s.toList) t.length 0 t.length=K:=by
  refine bsGo_spec _ K (fun j hj=>?_) (fun j hj=>?_) _ _ _ (by omega) (by omega) (by omega)
  ·have hjl:j < t.length:=by omega
   simp only [hjl,dif_pos];have:=asc_lt ht.2.2 hjl hlt hj
   rwa [he] at this
  ·by_cases hjl:j < t.length
   ·simp only [hjl,dif_pos];by_cases hjk:j=K
    ·subst hjk;rw [he];exact bl_irrefl _
    ·have:=asc_lt ht.2.2 hlt hjl (by omega);rw [he] at this;exact bl_asymm _ _ this
   ·simp only [hjl,dif_neg,not_false_eq_true];exact bl_irrefl _
 have hd:decide (K < t.length∧(if h:K < t.length then t[K] else s)=s)=true:=by
  rw [decide_eq_true_iff];exact ⟨hlt,by rw [dif_pos hlt];exact he⟩
 rw [hI,hd] at hB;have HB:=hid hB;clear hB hI hd hc hK he hr hs ht hlt;go_enter Tryz.func114,Tryz.ntmps114
 go_wp2_with (go_at_call 187;refine HB.out.mono ?_;rintro e w1 ⟨rfl,q,rfl⟩)
 go_ret2;exact ⟨rfl,Dr.mk w q⟩
end
section
open Go Go.RowKit Go.Lib Go.Sort Go.Shelf
structure RI (w W:World) (K:List Nat) (b:Nat) (A:Option Addr) (n c:Nat) (xs:List Nat):Prop where
 ow:Ow W b 5 1 A n c (cN .u8 xs)
 pl:(w.heap.size≤b∧b ∉ K)∨A=none
 nw:Nw w W
 kk:∀ k∈K,k < W.heap.size
theorem RI.start {w:World}:RI w w [] 0 none 0 0 []:=⟨Ow.nil _ _ _ _,.inr rfl,Nw.refl w,fun k h=>by cases h⟩
theorem RI.app {w W w':World} {K:List Nat} {b n c:Nat} {A:Option Addr} {xs news:List Nat} {e:Ending} (h:RI w W K b A n c xs) (ha:AppB W b A n xs news e w') :
  ∃ b' A' c',e=.returned (.slice A' (n+news.length) c')∧RI w w' K b' A' (n+news.length) c' (xs++news)∧∀ k∈K,w'.heap[k]? = W.heap[k]?:=by
 obtain ⟨b',A',c',he,hO,hp,hN,hk,hk'⟩:=ha.own K h.nw h.pl h.kk;exact ⟨b',A',c',he,⟨hO,hp,hN,hk'⟩,hk⟩
theorem RI.tr {w W w':World} {K:List Nat} {b n c:Nat} {A:Option Addr} {xs:List Nat} (h:RI w W K b A n c xs) (hN:Nw W w'):RI w w' K b A n c xs :=
 ⟨h.ow.nw hN,h.pl,h.nw.trans hN,fun k hk=>Nat.lt_of_lt_of_le (h.kk k hk) hN.size⟩
theorem RI.add {w W w':World} {K:List Nat} {b n c k:Nat} {A:Option Addr} {xs:List Nat} (h:RI w W K b A n c xs) (hN:Nw W w') (hk:k∈K∨W.heap.size≤k) (hk':k < w'.heap.size):RI w w' (k::K) b A n c xs:=by
 refine ⟨h.ow.nw hN,?_,h.nw.trans hN,fun j hj=>?_⟩
 ·by_cases hA:A=none
  ·exact .inr hA
  ·have hlt:=h.ow.lt_some hA;refine .inl ?_;rcases h.pl with ⟨h1,h2⟩ | h1
   ·refine ⟨h1,fun hm=>?_⟩;rcases List.mem_cons.1 hm with e | hm
    ·rcases hk with hk | hk
     ·exact h2 (e ▸ hk)
     ·omega
    ·exact h2 hm
   ·exact (hA h1).elim
 ·rcases List.mem_cons.1 hj with rfl | hj
  ·exact hk'
  ·exact Nat.lt_of_lt_of_le (h.kk j hj) hN.size
theorem RI.drop {w W:World} {K:List Nat} {b n c:Nat} {A:Option Addr} {xs:List Nat} (h:RI w W K b A n c xs):RI w W [] b A n c xs :=
 ⟨h.ow,h.pl.imp (fun h=>⟨h.1,by simp⟩) id,h.nw,fun k hk=>by cases hk⟩
theorem RI.cast {w W:World} {K:List Nat} {b n n' c:Nat} {A:Option Addr} {xs ys:List Nat} (h:RI w W K b A n c xs) (e:xs=ys) (e2:n=n'):RI w W K b A n' c ys:=by subst e e2;exact h
theorem RI.len {w W:World} {K:List Nat} {b n c:Nat} {A:Option Addr} {xs:List Nat} (h:RI w W K b A n c xs):n=xs.length:=by
 have:=h.ow.len;rw [List.length_map] at this;omega
theorem Rd.same {w w':World} {b:Nat} {A:Option Addr} {xs:List Value} (h:Rd w b A xs) (hk:w'.heap[b]? = w.heap[b]?) (hs:w.heap.size≤w'.heap.size):Rd w' b A xs:=h.kpc (B:=b) ⟨hk,hk,hs⟩
theorem Rd.inK {w:World} {b s g:Nat} {A:Option Addr} {xs:List Value} (h:Rd w b A xs) (hb:s≤b) (hg:g < w.heap.size):∃ b',Rd w b' A xs∧(b'=g∨s≤b')∧b' < w.heap.size:=by
 rcases h with h | ⟨o,h1,h2,h3⟩
 ·exact ⟨g,.inl h,.inl rfl,hg⟩
 ·exact ⟨b,.inr ⟨o,h1,h2,h3⟩,.inr hb,h2⟩
theorem RI.newBE {w W:World} {K:List Nat} {b c:Nat} {A:Option Addr} {xs:List Nat} (h:RI w W K b A xs.length c xs):NewBE w xs (.returned (.tuple #[.slice A xs.length c,.int .i64 0])) W:=by
 rcases h.pl with h1 | rfl
 ·exact ⟨b,A,c,rfl,h.ow,h1.1,h.nw⟩
 ·refine ⟨w.heap.size,none,c,rfl,?_,Nat.le_refl _,h.nw⟩;rcases h.ow with ⟨_,q1,q2,q3⟩ | ⟨q,_⟩
  ·exact .inl ⟨rfl,q1,q2,q3⟩
  ·cases q
abbrev RecV:=List Lab × List Nat
def recEnc1 (t:List ByteArray) (x:RecV):List Nat:=vint x.1.length++((strsOf x.1).flatMap fun s=>vint (idxS t s))++vint x.2.length++x.2.flatMap vint
def recEnc (t:List ByteArray) (l:List RecV):List Nat:=vint l.length++l.flatMap (recEnc1 t)
def RecOk (t:List ByteArray) (x:RecV):Prop:=(∀ s∈strsOf x.1,s∈t)∧x.1.length≤1000∧x.2≠[]∧x.2.length≤1000∧∀ n∈x.2,1≤n∧n≤2147483647
structure RecS where
 labs:List Lab
 chks:List Nat
 bl:Nat
 al:Option Addr
 cl:Nat
 bc:Nat
 ac:Option Addr
 cc:Nat
abbrev valR (x:RecS):RecV:=(x.labs,x.chks)
def cRec (l:List RecS):List Value:=c2 (fun s:RecS=>.slice s.al s.labs.length s.cl) (fun s=>.slice s.ac s.chks.length s.cc) l
def InRec (w:World) (s:RecS):Prop:=Rd w s.bl s.al (cL s.labs)∧Rd w s.bc s.ac (cN .i64 s.chks)
theorem InRec.nw {w w':World} {s:RecS} (h:InRec w s) (hN:Nw w w'):InRec w' s:=⟨h.1.nw hN,h.2.nw hN⟩
theorem flat_snoc {α:Type} (f:α→List Nat) {l:List α} {k:Nat} (h:k < l.length):(l.take (k+1)).flatMap f=(l.take k).flatMap f++f l[k]:=by
 rw [List.take_succ_eq_append_getElem h,List.flatMap_append];simp
theorem idxS_lt {t:List ByteArray} {s:ByteArray} (h:s∈t):idxS t s < t.length:=by
 obtain ⟨K,e,h,_⟩:=idxS_spec h;rw [e];exact h
set_option maxRecDepth 100000 in
set_option maxHeartbeats 2000000 in
theorem RecEncode_any (w:World) (b bt:Nat) (A At:Option Addr) (n c nt ct:Nat) (t:List ByteArray) (l:List RecS) (hn:n=l.length) (hm:n≤1000) (hr:Rd w b A (cRec l)) (hnt:nt=t.length) (hrt:Rd w bt At (cT t)) (ht:TblOk t) (hI:∀ s∈l,InRec w s) (hok:∀ s∈l,RecOk t (valR s)) :
  Calls Tryz.prog 57 #[.slice At nt ct,.slice A n c] w (NewBE w (recEnc t (l.map valR))):=by
 subst hn hnt;have HR:=hid hr;have HRT:=hid hrt;have HT:=hid ht;have HI:=hid hI;have HOK:=hid hok;have htl:t.length≤1000:=ht.1;have hVl:=vint_len l.length (by omega);have HVA:=hid fun W=>VAppend_any W 0 none 0 0 [] l.length (Ow.nil _ _ _ _) (by omega) (by omega)
 have HE:=hid (show recEnc t (l.map valR)=vint l.length++(l.map valR).flatMap (recEnc1 t) from by unfold recEnc;rw [List.length_map]);obtain ⟨V,hV⟩:∃ V,vint l.length=V:=⟨_,rfl⟩;rw [hV] at hVl HE;simp only [hV] at HVA;have u0:IntKind.u64.wrap (l.length:Int)=(l.length:Int):=IntWalk.u64_in _ (by omega);clear hr hrt ht hI hok hV;go_enter Tryz.func57,Tryz.ntmps57
 go_wp2_with fail;refine (HVA.out w).mono ?_;rintro e w1 hA;obtain ⟨b1,A1,c1,rfl,hRI,_⟩:=RI.start.app hA;simp only [Nat.zero_add,List.nil_append] at hRI;have HRI:=hid hRI;have hv0:V.length≤10+30020*0:=by omega
 clear hRI hA HVA u0;go_wp2_with fail;go_loopw [6,21] (fun v i wr=>∃ (k M bk:Nat) (Ak:Option Addr) (ck:Nat),k≤l.length∧i=.int .i64 k∧v=.slice Ak M ck∧M≤10+30020*k∧Hid (RI w wr [] bk Ak M ck (V++((l.map valR).take k).flatMap (recEnc1 t)))) (fun _ i _=>l.length - (intOf i).toNat)
 case atStart=>exact ⟨0,V.length,b1,A1,c1,by omega,rfl,rfl,hv0,by simpa using HRI⟩
 case round =>
  obtain ⟨k,M,bk,Ak,ck,hk,rfl,rfl,hM,HK⟩:=hrel;by_cases hlt:k < l.length
  ·have hltI:(k:Int) < (l.length:Int):=by omega
   obtain ⟨o,rfl,_,hc0,hc1⟩:=two_at (HR.out.nw HK.out.nw) hlt;have HIx:=hid (HI.out l[k] (List.getElem_mem hlt));have HOx:=hid (HOK.out l[k] (List.getElem_mem hlt));have HTk:=hid (show ((l.map valR).take (k+1)).flatMap (recEnc1 t)=((l.map valR).take k).flatMap (recEnc1 t)++recEnc1 t (valR l[k]) from by rw [flat_snoc _ (by simpa using hlt),List.getElem_map]);generalize l[k]=x at *;obtain ⟨labs,chks,bl,al,cl,bc,ac,cc⟩:=x;dsimp only at hc0 hc1;have hll:labs.length≤1000:=HOx.out.2.1;have hcl:chks.length≤1000:=HOx.out.2.2.2.1;have hc0':(((chks.length:Nat):Int) == 0)=false:=by
    rw [beq_eq_false_iff_ne];have:=HOx.out.2.2.1;have:chks.length≠0:=fun h=>this (List.eq_nil_of_length_eq_zero h)
    omega
   have u1:IntKind.u64.wrap (labs.length:Int)=(labs.length:Int):=IntWalk.u64_in _ (by omega);have u2:IntKind.u64.wrap (chks.length:Int)=(chks.length:Int):=IntWalk.u64_in _ (by omega);have l1:=vint_len labs.length (by omega);have l2:=vint_len chks.length (by omega);obtain ⟨w0,hw0⟩:∃ w0,w0=wr.alloc (.cells #[.slice al labs.length cl,.slice ac chks.length cc] 88):=⟨_,rfl⟩;obtain ⟨bx,hbx⟩:∃ bx,bx=wr.heap.size:=⟨_,rfl⟩;have hNx:Nw wr w0:=by rw [hw0];exact (Nw.refl _).alloc' _
   have hbb:w0.heap[bx]? = some (.cells #[.slice al labs.length cl,.slice ac chks.length cc] 88 (0,0)):=by rw [hw0,hbx];exact heap_alloc_new _ _
   have hR0:=HK.out.add hNx (k:=bx) (.inr (by omega)) (lt_of_block hbb);have HXs:=hid (show V++((l.map valR).take (k+1)).flatMap (recEnc1 t)=(V++((l.map valR).take k).flatMap (recEnc1 t))++vint labs.length++(strsOf labs).flatMap (fun s=>vint (idxS t s))++vint chks.length++chks.flatMap vint from by rw [HTk.out];unfold recEnc1;simp only [List.append_assoc]);obtain ⟨X0,hX0⟩:∃ X,V++((l.map valR).take k).flatMap (recEnc1 t)=X:=⟨_,rfl⟩;rw [hX0] at hR0 HXs;have HR0:=hid hR0;have HV1:=hid (VAppend_any w0 bk Ak M ck X0 labs.length hR0.ow (by omega) (by omega));have HBB:=hid hbb;rw [hw0,hbx] at hbb;have e0:=cell_at (k:=0) hbb;have e1:=cell_at (k:=1) hbb;clear HK HTk hR0 hX0 hNx hbb;go_wp2_with fail;rw [← hw0,← hbx];clear e0 e1 hw0 hbx hc0 hc1;refine HV1.out.mono ?_;rintro e w1 hA;obtain ⟨b1,A1,c1,rfl,hR1,hk1⟩:=HR0.out.app hA;have hbb:=(hk1 bx (by simp)).trans HBB.out;have HR1:=hid hR1;have HBB1:=hid hbb;have e0:=cell_at (k:=0) hbb;have e1:=cell_at (k:=1) hbb;have HST:=hid (Strings_any w1 bl al labs.length cl labs rfl (by omega) (HIx.out.1.nw hR1.nw));clear hR1 hA HR0 HBB hbb hk1 HV1 u1;go_wp2_with fail;refine HST.out.mono ?_;rintro e w2 ⟨b2,A2,c2,rfl,hO2,hb2,hN2⟩;obtain ⟨b3,hRd3,hb3,hlt3⟩:=hO2.rd.inK hb2 (Nat.lt_of_lt_of_le (HR1.out.kk bx (by simp)) hN2.size);have hbb:=(hN2.block bx (HR1.out.kk bx (by simp))).trans HBB1.out;have HBB:=hid hbb;have HR2:=hid (HR1.out.add hN2 (k:=b3) (hb3.imp (fun h=>by simp [h]) id) hlt3);have HRS:=hid hRd3;have HSL:=hid (strsOf_length labs);have HSM:=hid (show ∀ s∈strsOf labs,s∈t from HOx.out.1);clear e0 e1 hbb hO2 hRd3 hb3 hN2 HBB1 HR1 HST;have hv2:M+(vint labs.length).length≤20+30020*k+10*0:=by omega
   have u2':IntKind.i64.wrap (2*(labs.length:Int))=2*(labs.length:Int):=IntWalk.i64_in _ (by omega);go_wp2_with fail;generalize M+(vint labs.length).length=M1 at *;generalize X0++vint labs.length=X1 at *;obtain ⟨ss,hss⟩:∃ ss,strsOf labs=ss:=⟨_,rfl⟩;rw [hss] at HRS HSL HSM HXs;go_loopw [6,35] (fun v i wr=>∃ (j M bk:Nat) (Ak:Option Addr) (ck:Nat),j≤2*labs.length∧i=.int .i64 j∧v=.slice Ak M ck∧M≤20+30020*k+10*j∧Hid (RI w wr [b3,bx] bk Ak M ck (X1++(ss.take j).flatMap fun s=>vint (idxS t s)))∧Hid (wr.heap[b3]? = w2.heap[b3]?∧wr.heap[bx]? = w2.heap[bx]?∧w2.heap.size≤wr.heap.size)) (fun _ i _=>2*labs.length - (intOf i).toNat)
   case atStart=>exact ⟨0,M1,b1,A1,c1,by omega,rfl,rfl,hv2,by simpa using HR2,hid ⟨rfl,rfl,Nat.le_refl _⟩⟩
   case round =>
    clear hM hv2;obtain ⟨j,M,bk,Ak,ck,hj,rfl,rfl,hM,HK,HKP⟩:=hrel;by_cases hjt:j < 2*labs.length
    ·have hltJ:(j:Int) < 2*(labs.length:Int):=by omega
     have hjs:j < ss.length:=by have:=HSL.out;omega
     obtain ⟨o3,rfl,_,hc⟩:=(HRS.out.same HKP.out.1 HKP.out.2.2).get (k:=j) (by simpa using hjs);rw [List.getElem_map] at hc;have hst:=HSM.out ss[j] (List.getElem_mem hjs);have HTj:=hid (show (ss.take (j+1)).flatMap (fun s=>vint (idxS t s))=(ss.take j).flatMap (fun s=>vint (idxS t s))++vint (idxS t ss[j]) from flat_snoc _ hjs);generalize ss[j]=s at *;have hix:=idxS_lt hst;have hvl:=vint_len (idxS t s) (by omega);have HIX:=hid (SIndex_any wr bt At t.length ct t s rfl (HRT.out.nw HK.out.nw) HT.out hst);have HVI:=hid fun W (hD:Dr wr W)=>VAppend_any W bk Ak M ck _ (idxS t s) (HK.out.ow.nw hD.nw) (by omega) (by omega)
     have HXI:=hid fun W (hD:Dr wr W)=>HK.out.tr hD.nw
     have HKI:=hid fun W (hD:Dr wr W)=>And.intro (hD.nw.block b3 (HK.out.kk b3 (by simp))) (And.intro (hD.nw.block bx (HK.out.kk bx (by simp))) hD.nw.size)
     generalize idxS t s=q at *;have u3:IntKind.u64.wrap (q:Int)=(q:Int):=IntWalk.u64_in _ (by omega);clear HK hst;go_wp2_with fail;refine HIX.out.mono ?_;rintro e w3 ⟨rfl,hD⟩;have HD:=hid hD;clear hD;go_wp2_with fail;refine (HVI.out _ HD.out).mono ?_;rintro e w4 hA;obtain ⟨b4,A4,c4,rfl,hR4,hk4⟩:=(HXI.out _ HD.out).app hA;have HR4:=hid hR4;have hk3:=HKI.out _ HD.out;have HK4:=hid (show w4.heap[b3]? = w2.heap[b3]?∧w4.heap[bx]? = w2.heap[bx]?∧w2.heap.size≤w4.heap.size from ⟨(hk4 b3 (by simp)).trans (hk3.1.trans HKP.out.1),(hk4 bx (by simp)).trans (hk3.2.1.trans HKP.out.2.1),by
      obtain ⟨_,_,_,_,_,_,h,_⟩:=hA;have:=h.size;have:=hk3.2.2;have:=HKP.out.2.2;omega⟩)
     clear hA hR4 hk4 hk3;go_wp2_with fail;go_roundw
     case rel=>exact ⟨j+1,M+(vint q).length,b4,A4,c4,by omega,by go_num,rfl,by omega,hid (HR4.out.cast (by rw [HTj.out,List.append_assoc]) rfl),HK4⟩
     case measure=>simp [intOf];omega
    ·obtain rfl:j=2*labs.length:=by omega
     have hR5:=HK.out;rw [← HSL.out,List.take_length] at hR5;have hbb:=HKP.out.2.1.trans HBB.out;have HB5:=hid hbb;have e0:=cell_at (k:=0) hbb;have e1:=cell_at (k:=1) hbb;have HV5:=hid (VAppend_any wr bk Ak M ck _ chks.length hR5.ow (by omega) (by omega));have HR5:=hid hR5;clear hR5 hbb HK HKP HSM HBB HSL HRS HR2;go_wp2_with fail;refine HV5.out.mono ?_;rintro e w6 hA;obtain ⟨b6,A6,c6,rfl,hR6,hk6⟩:=HR5.out.app hA;have HR6:=hid hR6.drop;have hbb:=(hk6 bx (by simp)).trans HB5.out;have HCK:Hid (Rd w bc ac (cN .i64 chks)):=hid HIx.out.2;have HCL:=hid HOx.out.2.2.2.2;have e0:=cell_at (k:=0) hbb;have e1:=cell_at (k:=1) hbb;dsimp only at HCL;have hv6:M+(vint chks.length).length≤30+30020*k+10*(2*labs.length)+10*0:=by omega
     clear hR6 hA hk6 hbb HR5 HV5 HB5;go_wp2_with fail;generalize M+(vint chks.length).length=M6 at *;obtain ⟨X6,hX6⟩:∃ X,X1++ss.flatMap (fun s=>vint (idxS t s))++vint chks.length=X:=⟨_,rfl⟩;rw [hX6] at HR6 HXs;clear e0 e1 hM hX6;go_loopw [6,65] (fun v i wr=>∃ (j M bk:Nat) (Ak:Option Addr) (ck:Nat),j≤chks.length∧i=.int .i64 j∧v=.slice Ak M ck∧M≤30+30020*k+10*(2*labs.length)+10*j∧Hid (RI w wr [] bk Ak M ck (X6++(chks.take j).flatMap vint))) (fun _ i _=>chks.length - (intOf i).toNat)
     case atStart=>exact ⟨0,M6,b6,A6,c6,by omega,rfl,rfl,hv6,by simpa using HR6⟩
     case round =>
      clear hv6;obtain ⟨j,M,bk,Ak,ck,hj,rfl,rfl,hM,HK⟩:=hrel;by_cases hjt:j < chks.length
      ·have hltJ:(j:Int) < (chks.length:Int):=by omega
       obtain ⟨o3,rfl,_,hc⟩:=(HCK.out.nw HK.out.nw).get (k:=j) (by simpa using hjt);rw [List.getElem_map] at hc;have hx:=HCL.out chks[j] (List.getElem_mem hjt);have HTj:=hid (show (chks.take (j+1)).flatMap vint=(chks.take j).flatMap vint++vint chks[j] from flat_snoc _ hjt);generalize chks[j]=q at *;have hvl:=vint_len q (by omega);have HV7:=hid (VAppend_any wr bk Ak M ck _ q HK.out.ow (by omega) (by omega));have d1:decide ((q:Int) < 1)=false:=by rw [decide_eq_false_iff_not];omega
       have d2:decide ((2147483647:Int) < (q:Int))=false:=by rw [decide_eq_false_iff_not];omega
       have u3:IntKind.u64.wrap (q:Int)=(q:Int):=IntWalk.u64_in _ (by omega);go_wp2_with fail;refine HV7.out.mono ?_;rintro e w7 hA;obtain ⟨b7,A7,c7,rfl,hR7,_⟩:=HK.out.app hA;have HR7:=hid hR7;clear hR7 hA HV7;go_wp2_with fail;go_roundw
       case rel=>exact ⟨j+1,M+(vint q).length,b7,A7,c7,by omega,by go_num,rfl,by omega,hid (HR7.out.cast (by rw [HTj.out,List.append_assoc]) rfl)⟩
       case measure=>simp [intOf];omega
      ·obtain rfl:j=chks.length:=by omega
       have hR7:=HK.out;rw [List.take_length,← HXs.out] at hR7;have HR7:=hid hR7;clear hR7 HK;go_wp2_with fail;go_roundw
       case rel=>exact ⟨k+1,M,bk,Ak,ck,by omega,by go_num,rfl,by omega,HR7⟩
       case measure=>simp [intOf];omega
  ·obtain rfl:k=l.length:=by omega
   have hR:=HK.out;rw [List.take_of_length_le (by simp),← HE.out] at hR;have hl:=hR.len;have HR9:=hid hR;clear hR;go_wp2;go_ret2;subst hl;exact RI.newBE HR9.out
end
section
open Go Go.RowKit Go.Lib Go.Sort Go.Shelf
open Go.ChangeMaps (setBlock heap_setBlock_same heap_setBlock_other)
theorem lab_laid:laidOutB Tryz.prog=true:=by kernel_rfl
theorem lab_law:Go.WideMaps.KeyLaw Tryz.prog 124:=deep_law_laid lab_laid (m:=2) (by omega) (of_decide_eq_true (by kernel_rfl)) (by kernel_rfl) (by kernel_rfl)
abbrev labKey (x:Lab):Value:=.agg #[.string x.1,.string x.2]
theorem labKey_inj {x y:Lab} (h:labKey x=labKey y):x=y:=by
 obtain ⟨a,b⟩:=x;obtain ⟨c,d⟩:=y;simpa [labKey] using h
theorem lab_und:Tryz.prog.underlying 124=some (.struct #[⟨"Name",9,0,false, "", "",0⟩,⟨"Value",9,1,false, "", "",16⟩]):=by kernel_rfl
theorem lab_keyOf (x:Lab) (h1:x.1.size≤maxLen) (h2:x.2.size≤maxLen):∃ l,keyOf Tryz.prog 124 (labKey x)=some l:=by
 have e1:Tryz.prog.keyType 124=true:=by kernel_rfl
 have e2:(labKey x).formed Tryz.prog 124=true:=by kernel_rfl
 have c1:Tryz.prog.cellsOf 124=2:=by kernel_rfl
 have c2:Tryz.prog.cellsOf 9=1:=by kernel_rfl
 have h3:0 < Tryz.prog.types.size:=of_decide_eq_true (by kernel_rfl);obtain ⟨d,hd⟩:∃ d,Tryz.prog.types.size=d+1:=⟨Tryz.prog.types.size - 1,by omega⟩;unfold keyOf;rw [lab_und,e1,e2,hd];simp [Program.keyLits,c1,c2,Value.cells,h1,h2]
def LOk (x:Lab):Prop:=x.1.size≤maxLen∧x.2.size≤maxLen
def entE (i:Nat) (p:Lab × Value):MapEntry:=⟨labKey p.1,p.2,i⟩
def entsE (l:List (Lab × Value)):Array MapEntry:=(l.mapIdx entE).toArray
theorem entsE_get (l:List (Lab × Value)) (j:Nat):(entsE l).toList[j]? = l[j]?.map (entE j):=by simp [entsE,List.getElem?_mapIdx]
theorem entsE_push (l:List (Lab × Value)) (p:Lab × Value):entsE (l++[p])=(entsE l).push (entE l.length p):=by
 unfold entsE;rw [List.mapIdx_append];simp
theorem entsE_set (l:List (Lab × Value)) (j:Nat) (v:Value) (h:j < l.length):(entsE l).modify j (fun e=>{ e with val:=v })=entsE (l.set j (l[j].1,v)):=by
 apply Array.ext'
 apply List.ext_getElem?
 intro i;rw [Array.toList_modify,List.getElem?_modify,entsE_get,entsE_get,List.getElem?_set];by_cases hij:j=i
 ·subst hij;simp [h,entE]
 ·simp [hij]
theorem entsE_keys {l:List (Lab × Value)} (hl:∀ p∈l,LOk p.1):∀ e∈(entsE l).toList,∃ k,keyOf Tryz.prog 124 e.key=some k:=by
 intro e he;obtain ⟨j,hj⟩:=List.getElem?_of_mem he;rw [entsE_get] at hj;obtain ⟨p,hp,rfl⟩:=Option.map_eq_some_iff.1 hj;exact lab_keyOf p.1 (hl p (List.mem_of_getElem? hp)).1 (hl p (List.mem_of_getElem? hp)).2
theorem map_und:Tryz.prog.underlying 182=some (.map 124 63):=by kernel_rfl
theorem nodup_inj {α:Type} {l:List α} (hd:l.Nodup) {i j:Nat} {hi:i < l.length} {hj:j < l.length} (h:l[i]=l[j]):i=j:=by
 rcases Nat.lt_trichotomy i j with h1 | h1 | h1
 ·exact (List.pairwise_iff_getElem.1 hd i j hi hj h1 h).elim
 ·exact h1
 ·exact (List.pairwise_iff_getElem.1 hd j i hj hi h1 h.symm).elim
theorem find_new {l:List (Lab × Value)} (hl:∀ p∈l,LOk p.1) {x:Lab} (hx:LOk x) (hn:∀ p∈l,p.1≠x) (w:World):(Instr.findKey 124 (labKey x) (entsE l).toList).run Tryz.prog w=.ok none w:=by
 obtain ⟨k,hk⟩:=lab_keyOf x hx.1 hx.2;rcases lab_law.find w hk _ (entsE_keys hl) with ⟨h,_⟩ | ⟨j,e,_,h2,h3⟩
 ·exact h
 ·rw [entsE_get] at h2;obtain ⟨p,hp,rfl⟩:=Option.map_eq_some_iff.1 h2;exact (hn p (List.mem_of_getElem? hp) (labKey_inj h3)).elim
theorem find_old {l:List (Lab × Value)} (hl:∀ p∈l,LOk p.1) {x:Lab} {v:Value} {j:Nat} (hx:LOk x) (hd:(l.map (·.1)).Nodup) (hj:l[j]? = some (x,v)) (w:World):(Instr.findKey 124 (labKey x) (entsE l).toList).run Tryz.prog w=.ok (some (j,v)) w:=by
 obtain ⟨k,hk⟩:=lab_keyOf x hx.1 hx.2;have hjl:j < l.length:=(List.getElem?_eq_some_iff.1 hj).1;rcases lab_law.find w hk _ (entsE_keys hl) with ⟨_,h⟩ | ⟨i,e,h1,h2,h3⟩
 ·refine (h (entE j (x,v)) (List.mem_of_getElem? (i:=j) ?_) rfl).elim;rw [entsE_get,hj];rfl
 ·rw [entsE_get] at h2;obtain ⟨p,hp,rfl⟩:=Option.map_eq_some_iff.1 h2;have hil:i < l.length:=(List.getElem?_eq_some_iff.1 hp).1;have hpx:p.1=x:=labKey_inj h3;have:i=j:=by
   have h4:(l.map (·.1))[i]'(by simpa using hil)=(l.map (·.1))[j]'(by simpa using hjl):=by
    rw [List.getElem_map,List.getElem_map,(List.getElem?_eq_some_iff.1 hp).2,(List.getElem?_eq_some_iff.1 hj).2,hpx]
   exact nodup_inj hd h4
  subst this;rw [hp] at hj;cases hj;exact h1
theorem run_entry_new {w:World} {b:Nat} {l:List (Lab × Value)} (hb:w.heap[b]? = some (.map (entsE l) l.length)) (hl:∀ p∈l,LOk p.1) {x:Lab} (hx:LOk x) (hn:∀ p∈l,p.1≠x) :
  (Instr.mapEntry 182 (.map (some b)) (labKey x)).run Tryz.prog w=.ok (.tuple #[.slice none 0 0,.int .i64 l.length]) (setBlock w b (.map (entsE (l++[(x,.slice none 0 0)])) (l.length+1))):=by
 obtain ⟨k,hk⟩:=lab_keyOf x hx.1 hx.2;rw [entsE_push];simp [Instr.mapEntry,run_underlying map_und,MapKept.run_getObj_map hb,lab_law.check w false hk,find_new hl hx hn,MapKept.run_setObj_map _ hb,Result.andThen,setBlock,goInt,entE]
theorem run_entry_old {w:World} {b j:Nat} {v:Value} {l:List (Lab × Value)} (hb:w.heap[b]? = some (.map (entsE l) l.length)) (hl:∀ p∈l,LOk p.1) {x:Lab} (hx:LOk x) (hd:(l.map (·.1)).Nodup) (hj:l[j]? = some (x,v)) :
  (Instr.mapEntry 182 (.map (some b)) (labKey x)).run Tryz.prog w=.ok (.tuple #[v,.int .i64 j]) (setBlock w b (.map (entsE l) l.length)):=by
 obtain ⟨k,hk⟩:=lab_keyOf x hx.1 hx.2;have he:(entsE l).toList[j]? = some (entE j (x,v)):=by rw [entsE_get,hj];rfl
 have hj2:(entsE l)[j]? = some (entE j (x,v)):=by simpa using he
 have hsame:(entsE l).modify j (fun e=>{ e with key:=labKey x })=entsE l:=by
  apply Array.ext'
  rw [Array.toList_modify,Go.ChangeMaps.modify_eq_set _ _ _ _ he];exact WideElems.set_self _ _ _ he
 simp [Instr.mapEntry,run_underlying map_und,MapKept.run_getObj_map hb,lab_law.check w false hk,find_old hl hx hd hj,hj2,entE,lab_law.stays w hk,hsame,MapKept.run_setObj_map _ hb,Result.andThen,setBlock,goInt]
theorem run_entry_store {w:World} {b j:Nat} {l:List (Lab × Value)} (hb:w.heap[b]? = some (.map (entsE l) l.length)) (h:j < l.length) (v:Value) :
  (Instr.entryStore 182 (.map (some b)) (.int .i64 j) v).run Tryz.prog w=.ok () (setBlock w b (.map (entsE (l.set j (l[j].1,v))) l.length)):=by
 have hidx:(entsE l).findIdx? (fun e=>((e.born:Nat):Int) == (j:Int))=some j:=by
  rw [WideElems.findIdx_arr];have:=WideElems.findIdx_born (l:=(entsE l).toList) (j:=j) (e0:=entE j l[j]) (by
   have:(entsE l).toList.map (·.born)=List.range l.length:=by
    apply List.ext_getElem?
    intro i;rw [List.getElem?_map,entsE_get];by_cases hi:i < l.length
    ·simp [hi,entE]
    ·simp [hi]
   rw [this];exact List.nodup_range) (by rw [entsE_get];simp [h])
  exact this
 simp [Instr.entryStore,MapKept.run_getObj_map hb,asInt,asIntOf,hidx,entsE_set l j v h,MapKept.run_setObj_map _ hb,Result.andThen,setBlock]
theorem run_look {w:World} {b j:Nat} {v:Value} {l:List (Lab × Value)} (hb:w.heap[b]? = some (.map (entsE l) l.length)) (hl:∀ p∈l,LOk p.1) {x:Lab} (hx:LOk x) (hd:(l.map (·.1)).Nodup) (hj:l[j]? = some (x,v)) :
  (Instr.lookup 182 (.map (some b)) (labKey x) false).run Tryz.prog w=.ok v w:=by
 obtain ⟨k,hk⟩:=lab_keyOf x hx.1 hx.2;simp [Instr.lookup,run_underlying map_und,MapKept.run_getObj_map hb,lab_law.check w _ hk,find_old hl hx hd hj,Result.andThen]
end
section
open Go Go.RowKit Go.Lib Go.Sort Go.Shelf
open Go.ChangeMaps (setBlock)
open Go.MapKept (heap_set)
attribute [local go_sem] Oper.semAt_some
def WK (l:List (Lab × Value)) (W:World) (r b:Nat) (js:List Nat):Prop :=
 W.heap[b]? = some (.map (entsE l) l.length)∧W.heap[r]? = some (.mapIter (some b) l.length js.toArray l.length)∧js.Nodup∧∀ j∈js,j < l.length
theorem entsE_mem {l:List (Lab × Value)} {e:MapEntry} (he:e∈(entsE l).toList):∃ j,∃ hj:j < l.length,e=entE j l[j]:=by
 obtain ⟨j,hj⟩:=List.getElem?_of_mem he;rw [entsE_get] at hj;obtain ⟨p,hp,rfl⟩:=Option.map_eq_some_iff.1 hj;obtain ⟨hl,rfl⟩:=List.getElem?_eq_some_iff.1 hp;exact ⟨j,hl,rfl⟩
theorem entsE_born (l:List (Lab × Value)):(entsE l).toList.map (·.born)=List.range l.length:=by
 apply List.ext_getElem?
 intro i;rw [List.getElem?_map,entsE_get];by_cases hi:i < l.length
 ·simp [hi,entE]
 ·simp [hi]
theorem walk_next {l:List (Lab × Value)} {W:World} {r b:Nat} {js:List Nat} (h:WK l W r b js) (ty:TypeId) :
  ((∀ j < l.length,j∈js)∧(Instr.next (.pointer (some ⟨r,0,none⟩)) false ty).run Tryz.prog W=.ok (.tuple #[.bool false]) W) ∨
  ∃ (j:Nat) (hj:j < l.length) (W':World),j ∉ js∧(Instr.next (.pointer (some ⟨r,0,none⟩)) false ty).run Tryz.prog W=.ok (.tuple #[.bool true,labKey l[j].1,l[j].2]) W'∧WK l W' r b (js++[j])∧W.grownBy W' (some r)∧W'.heap.size=W.heap.size ∧
   (Instr.entry (.pointer (some ⟨r,0,none⟩))).run Tryz.prog W'=.ok (.tuple #[labKey l[j].1,l[j].2]) W':=by
 obtain ⟨hb,hr,hd,hlt⟩:=h;have hne:r≠b:=fun e=>by rw [e,hb] at hr;cases hr
 rcases run_next_at (P:=Tryz.prog) W ty r b l.length l.length js.toArray (entsE l) l.length hr hb (fun x hx=>by obtain ⟨j,hj,rfl⟩:=entsE_mem hx;exact hj) (Nat.le_refl _) with ⟨h0,hrun⟩ | ⟨e,he,w1,hal,hrun⟩
 ·refine .inl ⟨fun j hj=>?_,hrun⟩;have:=all_seen _ _ h0 (entE j l[j]) (List.mem_of_getElem? (i:=j) (by rw [entsE_get];simp [hj]));simpa [entE] using this
 ·obtain ⟨hem,hes⟩:=mem_left he;obtain ⟨j,hj,rfl⟩:=entsE_mem hem;have hr1:w1.heap[r]? = some (.mapIter (some b) l.length js.toArray l.length):=by rcases hal with rfl | rfl<;>exact hr
  have hb1:w1.heap[b]? = some (.map (entsE l) l.length):=by rcases hal with rfl | rfl<;>exact hb
  have hset:=heap_set (o':=.mapIter (some b) l.length (js.toArray.push j) l.length) hr1;have hb':(setBlock w1 r (.mapIter (some b) l.length (js.toArray.push j) l.length)).heap[b]? = some (.map (entsE l) l.length):=(hset.2 b (fun e1=>hne e1.symm)).trans hb1;have hnj:j ∉ js:=by simpa [entE] using hes
  refine .inr ⟨j,hj,_,hnj,hrun,⟨hb',?_,?_,?_⟩,?_,?_,run_entry_at _ r b l.length js.toArray (entsE l) l.length (entE j l[j]) hset.1 hb' hem (by rw [entsE_born];exact List.nodup_range)⟩
  ·rw [show (js++[j]).toArray=js.toArray.push j from by simp];exact hset.1
  ·refine List.nodup_append.2 ⟨hd,by simp,fun a ha c hc e1=>?_⟩;simp only [List.mem_singleton] at hc;subst hc;exact hnj (e1 ▸ ha)
  ·intro i hi;rcases List.mem_append.1 hi with h | h
   ·exact hlt i h
   ·simp only [List.mem_singleton] at h;omega
  ·rcases hal with rfl | rfl<;>exact ⟨rfl,rfl,rfl,by simp [setBlock],fun i _ hi=>hset.2 i (fun e1=>hi (by rw [e1]))⟩
  ·rcases hal with rfl | rfl<;>simp [setBlock]
theorem nodup_lt_len {js:List Nat} {n:Nat} (hd:js.Nodup) (hlt:∀ j∈js,j < n):js.length≤n:=by
 have hp:js.Perm ((List.range n).filter (fun i=>decide (i∈js))):=(List.perm_ext_iff_of_nodup hd (List.nodup_range.filter _)).2 (fun j=>by
  simp only [List.mem_filter,List.mem_range,decide_eq_true_eq];exact ⟨fun h=>⟨hlt j h,h⟩,fun h=>h.2⟩)
 rw [hp.length_eq];have:=List.length_filter_le (fun i=>decide (i∈js)) (List.range n);simpa using this
theorem perm_of_all {l:List (Lab × Value)} {js:List Nat} (hd:js.Nodup) (hlt:∀ j∈js,j < l.length) (hall:∀ j < l.length,j∈js) (f:Nat→Lab) (hf:∀ j (h:j < l.length),f j=l[j].1):(js.map f).Perm (l.map (·.1)):=by
 have hp:js.Perm (List.range l.length):=(List.perm_ext_iff_of_nodup hd List.nodup_range).2 (fun j=>by rw [List.mem_range];exact ⟨hlt j,hall j⟩);have:(List.range l.length).map f=l.map (·.1):=by
  apply List.ext_getElem
  ·simp
  ·intro i h1 h2;rw [List.getElem_map,List.getElem_range,List.getElem_map,hf i (by simpa using h2)]
 rw [← this];exact hp.map f
section
variable {F:Fence} {n:Nat} {P:Program} {ops:Array Oper} {rest:List Oper} {o:Oper} {a:Act} {Q:Exit→Act→World→Prop} {w:World}
theorem wpListIn_rangeM (hg:o.guard=none) (m:Operand) (t k e:TypeId) (hop:o.op=Op.range t m) (ht:P.underlying t=some (.map k e)) (b:Nat) (es:Array MapEntry) (clock:Nat) (hm:a.eval m=.map (some b)) (hb:w.heap[b]? = some (.map es clock))
  (hK:wpListIn F n P ops Q rest (a.put o.dst (.pointer (some ⟨w.heap.size,0,none⟩))) (w.alloc (.mapIter (some b) clock #[] clock))):wpListIn F n P ops Q (o::rest) a w:=by
 refine wpListIn_plain hg fun K' hK'=>?_
 unfold Oper.wpIn;refine ⟨by simp [Oper.about,hop],?_⟩;rw [Oper.semAt_plain F _ _ (by rw [hop];intro c hc';cases hc')];simp [execOp,hop,hm,run_range_map w t k e b es clock ht hb,Result.andThen];exact hK' _ _ hK
theorem wpListIn_nextM {ops:Array Oper} {rest:List Oper} {o:Oper} {a:Act} (hg:o.guard=none) (it:Operand) (hop:o.op=Op.next it false) {l:List (Lab × Value)} {r b:Nat} {js:List Nat} (hit:a.eval it=.pointer (some ⟨r,0,none⟩)) (h:WK l w r b js)
  (hDone:(∀ j < l.length,j∈js)→wpListIn F n Tryz.prog ops Q rest (a.put o.dst (.tuple #[.bool false])) w)
  (hMore:∀ (j:Nat) (hj:j < l.length) (w':World),j ∉ js→WK l w' r b (js++[j])→w.grownBy w' (some r)→w'.heap.size=w.heap.size→(Instr.entry (.pointer (some ⟨r,0,none⟩))).run Tryz.prog w'=.ok (.tuple #[labKey l[j].1,l[j].2]) w'→wpListIn F n Tryz.prog ops Q rest (a.put o.dst (.tuple #[.bool true,labKey l[j].1,l[j].2])) w') :
  wpListIn F n Tryz.prog ops Q (o::rest) a w:=by
 refine wpListIn_plain hg fun K' hK'=>?_
 unfold Oper.wpIn;refine ⟨by simp [Oper.about,hop],?_⟩;rw [Oper.semAt_plain F _ _ (by rw [hop];intro c hc';cases hc')];rcases walk_next h o.type with ⟨h0,hrun⟩ | ⟨j,hj,w',hn,hrun,h1,h2,h3,h4⟩
 ·simp [execOp,hop,hit,hrun,Result.andThen];exact hK' _ _ (hDone h0)
 ·simp [execOp,hop,hit,hrun,Result.andThen];exact hK' _ _ (hMore j hj w' hn h1 h2 h3 h4)
end
def KpM (B:Nat) (W W':World):Prop:=W'.heap[B]? = W.heap[B]?∧(∀ (k:Nat) (o:Obj),W.heap[k]? = some o→o.isWalk=true→W'.heap[k]? = some o)∧W.heap.size≤W'.heap.size
theorem KpM.trans {B:Nat} {X Y Z:World} (h:KpM B X Y) (k:KpM B Y Z):KpM B X Z:=⟨k.1.trans h.1,fun i o hi ho=>k.2.1 i o (h.2.1 i o hi ho) ho,Nat.le_trans h.2.2 k.2.2⟩
theorem Keys_any (w:World) (mb:Option Nat):Calls Tryz.prog 116 #[.map mb] w fun e w'=>e=.returned (.func (.func 190) #[] #[.pointer (some ⟨w.heap.size,0,none⟩)])∧w'=w.alloc (.cells #[.map mb] 182):=by
 go_enter Tryz.func116,Tryz.ntmps116
 go_wp2;go_ret;exact ⟨rfl,rfl⟩
set_option maxRecDepth 100000 in
theorem keys_stops (n:Nat) (hn:1≤n) (w:World) (B b:Nat) (l:List (Lab × Value)) (hB:w.heap[B]? = some (.cells #[.map (some b)] 182 (0,0))) (hb:w.heap[b]? = some (.map (entsE l) l.length)) :
  SeqStopsK Fence.wide n Tryz.prog 190 #[.pointer (some ⟨B,0,none⟩)] (fun x:Lab=>#[labKey x]) (KpM B) (fun xs=>xs.Perm (l.map (·.1))) (fun _=>True) l.length w:=by
 intro lp J Jx W hW hJ hJx hY h0;have hBW:=(hW.block B (lt_of_block hB)).trans hB;have hbW:=(hW.block b (lt_of_block hb)).trans hb;have hBc:W.cell? ⟨B,0,none⟩=some (.map (some b)):=by simp [World.cell?,hBW]
 have HY:=hid hY;have HJ:=hid hJ;have HB:=hid hBW;obtain ⟨f,hf⟩:∃ f:Nat→Lab,∀ j (h:j < l.length),f j=l[j].1:=⟨fun j=>if h:j < l.length then l[j].1 else (.empty,.empty),fun j h=>by simp [h]⟩;have HF:=hid hf;have HW0:Hid (WK l (W.alloc (.mapIter (some b) l.length #[] l.length)) W.heap.size b []):=hid ⟨(heap_alloc_old _ _ (lt_of_block hbW)).trans hbW,heap_alloc_new _ _,List.nodup_nil,by simp⟩;have HJ0:Hid (J [] (W.alloc (.mapIter (some b) l.length #[] l.length))):=hid (hJ [] W _ none h0 (World.grownBy_alloc W _ none) (fun r e=>by cases e));have HK0:Hid ((W.alloc (.mapIter (some b) l.length #[] l.length)).heap[B]? = W.heap[B]?):=hid (heap_alloc_old _ _ (lt_of_block hBW));clear hY hJ hBW hB hb hf h0;refine callsIn_of_wp Tryz.func190 rfl trivial ?_ rfl;simp only [Tryz.ntmps190,List.size_toArray,List.length_cons,List.length_nil,Nat.reduceAdd,Nat.reduceSub,Array.replicate_succ,Array.replicate_zero,List.push_toArray,List.append_toArray,List.nil_append,List.cons_append]
 gi_wp2_with (first
  | (gi_at_range;refine wpListIn_rangeM rfl (.tmp 4) 182 _ _ rfl map_und b _ _ rfl hbW ?_)
  | gi_in)
 generalize hR0:W.heap.size=r0 at HW0;have hr0:W.heap.size≤r0:=by omega
 gi_loopw [3] (fun _ wr=>∃ js:List Nat,Hid (WK l wr r0 b js)∧Hid (J (js.map f) wr)∧Hid (wr.heap[B]? = W.heap[B]?)) (fun _ wr=>match wr.heap[r0]? with | some (.mapIter _ _ seen _)=>l.length - seen.size | _=>0)
 case atStart=>exact ⟨[],HW0,HJ0,HK0⟩
 case round =>
  obtain ⟨js,HWK,HJs,HKM⟩:=hrel
  gi_wp2_with (first
   | (gi_at_next;refine wpListIn_nextM rfl (.tmp 5) rfl rfl HWK.out ?_ ?_)
   | gi_in)
  ·intro hall
   gi_wp2
   go_end0
   exact ⟨⟨_,rfl⟩,.inl ⟨_,perm_of_all HWK.out.2.2.1 HWK.out.2.2.2 hall f HF.out,HJs.out⟩⟩
  ·intro j hj w2 hnj hwk hg2 hs2 hen;have hfj:=HF.out j hj;have hpl:(js.map f).length < l.length:=by
    rw [List.length_map];have hq:=hwk.2.2.1;have hq2:=hwk.2.2.2;have:=nodup_lt_len hq hq2;simp at this;omega
   have HM:=hid (show (js++[j]).map f=js.map f++[f j] from by simp);have hJ1:J (js.map f) w2:=HJ.out _ wr _ (some r0) HJs.out hg2 (fun r e=>by cases e;exact ⟨hr0,_,HWK.out.2.1,rfl⟩);have hrB:B≠r0:=fun e=>by
    have:=HKM.out.trans HB.out;rw [e,HWK.out.2.1] at this;cases this
   have hBl:=lt_of_block (HKM.out.trans HB.out);have hK1:w2.heap[B]? = W.heap[B]?:=(hg2.block B hBl (by simp [hrB])).trans HKM.out;have hm2:(match w2.heap[r0]? with | some (.mapIter _ _ seen _)=>l.length - seen.size | _=>0) < (match wr.heap[r0]? with | some (.mapIter _ _ seen _)=>l.length - seen.size | _=>0):=by
    rw [hwk.2.1,HWK.out.2.1];simp at hpl ⊢;omega
   rw [← hfj] at hen ⊢;generalize l[j]=p at *;generalize f j=x at *;obtain ⟨a,d⟩:=x;have hJ2:J (js.map f) (w2.alloc (.cells #[.string a,.string d] 124)):=HJ.out _ w2 _ none hJ1 (World.grownBy_alloc _ _ none) (fun r e=>by cases e);obtain ⟨fn,tmps,assign,body,hy,hR⟩:=HY.out _ (a,d) _ hJ2 hpl;have HR:=hid hR;have HWK2:=hid hwk;have HEN:=hid hen;have HK1:=hid hK1;have HM2:=hid hm2;have hBl2:B < w2.heap.size:=by omega
   clear hR hJ1 hJ2 hpl hwk hfj hg2 hs2 hK1 hm2
   gi_wp2
   refine HR.out.mono ?_;rintro e W3 (⟨rfl,hJ3,hk3⟩ | ⟨rfl,hJx3⟩)
   ·have HJ3:=hid hJ3;have hb2:=HWK2.out.1;have hr2:=HWK2.out.2.1;have hwk3:WK l W3 r0 b (js++[j]):=⟨hk3.2.1 b _ ((heap_alloc_old _ _ (lt_of_block hb2)).trans hb2) rfl,hk3.2.1 r0 _ ((heap_alloc_old _ _ (lt_of_block hr2)).trans hr2) rfl,HWK2.out.2.2⟩;have HWK3:=hid hwk3;have HK3:=hid (hk3.1.trans ((heap_alloc_old _ _ hBl2).trans HK1.out));have HM3:=hid (show (match W3.heap[r0]? with | some (.mapIter _ _ seen _)=>l.length - seen.size | _=>0) < (match wr.heap[r0]? with | some (.mapIter _ _ seen _)=>l.length - seen.size | _=>0) from by
     have:=HM2.out;rw [hr2] at this;rw [hwk3.2.1];exact this)
    clear hJ3 hk3 hb2 hr2 hwk3
    gi_wp2
    go_roundw
    case rel=>exact ⟨js++[j],HWK3,by rw [HM.out];exact HJ3,HK3⟩
    case measure=>exact HM3.out
   ·gi_wp2
    refine bodyPost_ret (results_none rfl _ _ _) rfl ?_;exact ⟨⟨_,rfl⟩,.inr ⟨_,trivial,hJx3⟩⟩
end
section
open Go.Sort
abbrev ltN:Nat→Nat→Bool:=fun x y=>decide (x < y)
theorem swo_ltN:SWO ltN:=⟨fun x=>by simp,fun x y z h1 h2=>by simp at *;omega,fun x y z h1 h2=>by simp at *;omega⟩
structure St (x y:Nat) (d:Array Nat) (a b:Nat) (e:Array Nat):Prop where
 hx:x≤a
 hab:a≤b
 hy:b≤y
 hyd:y≤d.size
 size:e.size=d.size
 perm:PermIn x y d e
 below:Below ltN a b e
 glue:∀ f,PermIn a b e f→SortedIn ltN a b f→SortedIn ltN x y f
theorem St.start {x y:Nat} {d:Array Nat} (h:x≤y) (hy:y≤d.size) (hb:Below ltN x y d):St x y d x y d :=
 ⟨Nat.le_refl _,h,Nat.le_refl _,hy,rfl,permIn_refl _ _ _,hb,fun _ _ h=>h⟩
theorem St.step {x y a b:Nat} {d e f:Array Nat} (h:St x y d a b e) (hp:PermIn a b e f):St x y d a b f:=by
 have hb:b≤e.size:=by rw [h.size];exact Nat.le_trans h.hy h.hyd
 have hf:f.size=e.size:=hp.1;have hy2:y≤f.size:=by rw [hf,h.size];exact h.hyd
 exact ⟨h.hx,h.hab,h.hy,h.hyd,by rw [hf,h.size],permIn_trans _ _ _ _ _ h.perm (permIn_mono _ _ _ _ _ _ h.hx h.hy (by rw [h.size];exact h.hyd) hp),h.below.perm hb hp,
  fun g hg hs=>h.glue g (permIn_trans _ _ _ _ _ hp hg) hs⟩
theorem St.done {x y a b:Nat} {d e f:Array Nat} (h:St x y d a b e) (hp:PermIn a b e f) (hs:SortedIn ltN a b f):f.size=d.size∧PermIn x y d f∧SortedIn ltN x y f :=
 ⟨(h.step hp).size,(h.step hp).perm,h.glue f hp hs⟩
theorem St.eq {x y a b m p:Nat} {d e f:Array Nat} (h:St x y d a b e) (ha:0 < a) (hpe:p≤e[a - 1]!) (hm:a < m) (hmb:m≤b) (hp:PermIn a b e f) (h1:∀ t,a≤t→t < m→f[t]!≤p) (h2:∀ t,m≤t→t < b→p < f[t]!):St x y d m b f:=by
 have hb:b≤e.size:=by rw [h.size];exact Nat.le_trans h.hy h.hyd
 have hS:=h.step hp;have hf:f.size=e.size:=hp.1;refine ⟨by have:=h.hx;omega,hmb,h.hy,h.hyd,hS.size,hS.perm,.inr fun t ht ht'=>?_,fun g hg hs=>?_⟩
 ·have:=h1 (m - 1) (by omega) (by omega);have:=h2 t ht ht';simp only [decide_eq_false_iff_not];omega
 ·have hpg:PermIn a b e g:=permIn_trans _ _ _ _ _ hp (permIn_mono _ _ _ _ _ _ (by omega) (Nat.le_refl _) (by omega) hg);refine h.glue g hpg (sorted_glue_eq swo_ltN p hs ?_ ?_ ?_)
  ·intro t ht ht';rw [hg.2.1 t (.inl ht')];have:=h1 t ht ht';simp only [decide_eq_false_iff_not];omega
  ·intro t ht ht';rw [hg.2.1 t (.inl ht')];rcases hS.below with h0 | h0
   ·omega
   ·have h3:=h0 t ht (by omega);rw [hp.2.1 (a - 1) (.inl (by omega))] at h3;simp only [decide_eq_false_iff_not] at h3 ⊢;omega
  ·intro t ht ht';have:=permIn_all f g m b (fun z=>p < z) (by omega) hg (fun i hi hi'=>h2 i hi hi') t ht ht';simp only [decide_eq_true_eq];exact this
theorem St.left {x y a b m:Nat} {d e f g:Array Nat} (h:St x y d a b e) (hm:a≤m) (hmb:m < b) (hp:PermIn a b e f) (h1:∀ t,a≤t→t < m→f[t]! < f[m]!) (h2:∀ t,m < t→t < b→f[m]!≤f[t]!)
  (hg:PermIn a m f g) (hs:SortedIn ltN a m g):St x y d (m+1) b g:=by
 have hb:b≤e.size:=by rw [h.size];exact Nat.le_trans h.hy h.hyd
 have hf:f.size=e.size:=hp.1;have hgs:g.size=f.size:=hg.1;have hpg:PermIn a b e g:=permIn_trans _ _ _ _ _ hp (permIn_mono _ _ _ _ _ _ (Nat.le_refl _) (by omega) (by omega) hg);have hS:=h.step hpg;have hgm:g[m]! = f[m]!:=hg.2.1 m (.inr (Nat.le_refl _));have hlo:∀ t,a≤t→t < m→g[t]! < f[m]!:=permIn_all f g a m (fun z=>z < f[m]!) (by omega) hg h1;have hhi:∀ t,m < t→t < b→f[m]!≤g[t]!:=fun t ht ht'=>by rw [hg.2.1 t (.inr (by omega))];exact h2 t ht ht'
 refine ⟨by have:=h.hx;omega,by omega,h.hy,h.hyd,hS.size,hS.perm,.inr fun t ht ht'=>?_,fun k hk hks=>?_⟩
 ·rw [Nat.add_sub_cancel,hgm];have:=hhi t (by omega) ht';simp only [decide_eq_false_iff_not];omega
 ·have hkm:∀ t,t≤m→k[t]! = g[t]!:=fun t ht=>hk.2.1 t (.inl (by omega))
  refine h.glue k (permIn_trans _ _ _ _ _ hpg (permIn_mono _ _ _ _ _ _ (by omega) (Nat.le_refl _) (by omega) hk)) (sorted_glue swo_ltN (hs.congr fun t _ ht=>hkm t (by omega)) hks ?_ ?_)
  ·intro t ht ht';rw [hkm t (by omega),hkm m (Nat.le_refl _),hgm];simp only [decide_eq_true_eq];exact hlo t ht ht'
  ·intro t ht ht';rw [hkm m (Nat.le_refl _),hgm];have:=permIn_all g k (m+1) b (fun z=>f[m]!≤z) (by omega) hk (fun i hi hi'=>hhi i (by omega) hi') t (by omega) ht';simp only [decide_eq_false_iff_not];omega
theorem St.right {x y a b m:Nat} {d e f g:Array Nat} (h:St x y d a b e) (hm:a≤m) (hmb:m < b) (hp:PermIn a b e f) (h1:∀ t,a≤t→t < m→f[t]! < f[m]!) (h2:∀ t,m < t→t < b→f[m]!≤f[t]!)
  (hg:PermIn (m+1) b f g) (hs:SortedIn ltN (m+1) b g):St x y d a m g:=by
 have hb:b≤e.size:=by rw [h.size];exact Nat.le_trans h.hy h.hyd
 have hf:f.size=e.size:=hp.1;have hgs:g.size=f.size:=hg.1;have hpg:PermIn a b e g:=permIn_trans _ _ _ _ _ hp (permIn_mono _ _ _ _ _ _ (by omega) (Nat.le_refl _) (by omega) hg);have hS:=h.step hpg;have hgm:∀ t,t≤m→g[t]! = f[t]!:=fun t ht=>hg.2.1 t (.inl (by omega))
 have hhi:∀ t,m < t→t < b→f[m]!≤g[t]!:=fun t ht ht'=>permIn_all f g (m+1) b (fun z=>f[m]!≤z) (by omega) hg (fun i hi hi'=>h2 i (by omega) hi') t (by omega) ht'
 refine ⟨h.hx,hm,by have:=h.hy;omega,h.hyd,hS.size,hS.perm,hS.below.mono (by omega),fun k hk hks=>?_⟩;have hkm:∀ t,m≤t→k[t]! = g[t]!:=fun t ht=>hk.2.1 t (.inr ht)
 refine h.glue k (permIn_trans _ _ _ _ _ hpg (permIn_mono _ _ _ _ _ _ (Nat.le_refl _) (by omega) (by omega) hk)) (sorted_glue swo_ltN hks (hs.congr fun t ht _=>hkm t (by omega)) ?_ ?_)
 ·intro t ht ht';rw [hkm m (Nat.le_refl _),hgm m (Nat.le_refl _)];have:=permIn_all g k a m (fun z=>z < f[m]!) (by omega) hk (fun i hi hi'=>by rw [hgm i (by omega)];exact h1 i hi hi') t ht ht';simp only [decide_eq_true_eq];exact this
 ·intro t ht ht';rw [hkm m (Nat.le_refl _),hkm t (by omega),hgm m (Nat.le_refl _)];have:=hhi t ht ht';simp only [decide_eq_false_iff_not];omega
theorem St.belowL {x y a b m:Nat} {d e f:Array Nat} (h:St x y d a b e) (hmb:m < b) (hp:PermIn a b e f):Below ltN a m f:=(h.step hp).below.mono (by omega)
theorem belowR {b m:Nat} {f:Array Nat} (h2:∀ t,m < t→t < b→f[m]!≤f[t]!):Below ltN (m+1) b f:=.inr fun t ht ht'=>by
 rw [Nat.add_sub_cancel];have:=h2 t (by omega) ht';simp only [decide_eq_false_iff_not];omega
end
section
open Go
def wd (c:Nat):Nat:=if c=0 then 0 else Lib.bitLen (c - 1)
theorem bitLenAux_spec:∀ (f x:Nat),x < 2 ^ f→x < 2 ^ Lib.bitLenAux f x∧(x≠0→2 ^ (Lib.bitLenAux f x - 1)≤x∧0 < Lib.bitLenAux f x):=by
 intro f;induction f with
 | zero=>intro x h;simp [Lib.bitLenAux];omega
 | succ f ih =>
  intro x h;rw [Nat.pow_succ] at h;unfold Lib.bitLenAux;by_cases h0:x=0
  ·simp [h0]
  ·rw [if_neg h0];obtain ⟨h1,h2⟩:=ih (x / 2) (by omega);rw [Nat.add_comm 1,Nat.pow_succ,Nat.add_sub_cancel];refine ⟨by omega,fun _=>⟨?_,by omega⟩⟩;by_cases h3:x / 2=0
   ·have:Lib.bitLenAux f (x / 2)=0:=by rw [h3];cases f<;>simp [Lib.bitLenAux]
    rw [this];simp;omega
   ·obtain ⟨h4,h5⟩:=h2 h3;have e:2 ^ Lib.bitLenAux f (x / 2)=2 ^ (Lib.bitLenAux f (x / 2) - 1)*2:=by rw [← Nat.pow_succ];congr 1;omega
    omega
theorem wd_spec (c:Nat) (h:c≤18446744073709551616):c≤2 ^ wd c∧∀ n,c≤2 ^ n→wd c≤n:=by
 unfold wd;by_cases h0:c=0
 ·simp [h0]
 ·rw [if_neg h0];have h64:(2:Nat) ^ 64=18446744073709551616:=by decide
  obtain ⟨h1,h2⟩:=bitLenAux_spec 64 (c - 1) (by omega);refine ⟨by unfold Lib.bitLen;omega,fun n hn=>?_⟩;by_cases h3:c - 1=0
  ·have:Lib.bitLen (c - 1)=0:=by rw [h3];decide
   omega
  ·obtain ⟨h4,h5⟩:=h2 h3;unfold Lib.bitLen;rcases Nat.lt_or_ge n (Lib.bitLenAux 64 (c - 1)) with hlt | hge
   ·have:=Nat.pow_le_pow_right (n:=2) (by omega) (show n≤Lib.bitLenAux 64 (c - 1) - 1 from by omega);omega
   ·exact hge
theorem wd_le (c:Nat) (h:c≤128):wd c≤7:=(wd_spec c (by omega)).2 7 (by simpa using h)
theorem wd_le64 (c:Nat) (h:c≤18446744073709551616):wd c≤64:=(wd_spec c h).2 64 (by simpa using h)
theorem asc_ext:∀ (a b:List Nat),a.Pairwise (· < ·)→b.Pairwise (· < ·)→(∀ x,x∈a↔x∈b)→a=b:=by
 intro a;induction a with
 | nil =>
  intro b _ _ h;cases b with
  | nil=>rfl
  | cons y l=>exact absurd ((h y).2 (by simp)) (by simp)
 | cons x l ih =>
  intro b ha hb h;cases b with
  | nil=>exact absurd ((h x).1 (by simp)) (by simp)
  | cons y m =>
   rw [List.pairwise_cons] at ha hb;have e:x=y:=by
    have h1:=(h x).1 (by simp);have h2:=(h y).2 (by simp);rw [List.mem_cons] at h1 h2;rcases h1 with h1 | h1
    ·exact h1
    ·rcases h2 with h2 | h2
     ·exact h2.symm
     ·have:=ha.1 y h2;have:=hb.1 x h1;omega
   subst e;congr 1
   refine ih m ha.2 hb.2 fun z=>?_
   have hz:=h z;rw [List.mem_cons,List.mem_cons] at hz;constructor
   ·intro hl;rcases hz.1 (.inr hl) with e | e
    ·have:=ha.1 z hl;omega
    ·exact e
   ·intro hl;rcases hz.2 (.inr hl) with e | e
    ·have:=hb.1 z hl;omega
    ·exact e
def ins (x:Nat):List Nat→List Nat
 | []=>[x]
 | y::l=>if x < y then x::y::l else if x=y then y::l else y::ins x l
def dict (l:List Nat):List Nat:=l.foldl (fun d x=>ins x d) []
theorem ins_mem (x z:Nat) (d:List Nat):z∈ins x d↔z=x∨z∈d:=by
 induction d with
 | nil=>simp [ins]
 | cons y l ih =>
  unfold ins;split
  ·simp
  ·split
   ·rename_i h;subst h;simp
   ·simp only [List.mem_cons,ih];constructor
    ·rintro (h | h | h)<;>simp [h]
    ·rintro (h | h | h)<;>simp [h]
theorem ins_asc (x:Nat) (d:List Nat) (h:d.Pairwise (· < ·)):(ins x d).Pairwise (· < ·):=by
 induction d with
 | nil=>simp [ins]
 | cons y l ih =>
  rw [List.pairwise_cons] at h;unfold ins;split
  ·rename_i hxy
   rw [List.pairwise_cons,List.pairwise_cons];refine ⟨fun z hz=>?_,h.1,h.2⟩;rw [List.mem_cons] at hz;rcases hz with rfl | hz
   ·exact hxy
   ·have:=h.1 z hz;omega
  ·split
   ·rw [List.pairwise_cons];exact h
   ·rw [List.pairwise_cons];refine ⟨fun z hz=>?_,ih h.2⟩;rcases (ins_mem x z l).1 hz with rfl | hz
    ·omega
    ·exact h.1 z hz
theorem foldl_ins (l:List Nat):∀ d:List Nat,d.Pairwise (· < ·)→(l.foldl (fun d x=>ins x d) d).Pairwise (· < ·)∧∀ z,z∈l.foldl (fun d x=>ins x d) d↔z∈l∨z∈d:=by
 induction l with
 | nil=>intro d h;exact ⟨h,fun z=>by simp⟩
 | cons x l ih =>
  intro d h;obtain ⟨h1,h2⟩:=ih (ins x d) (ins_asc x d h);refine ⟨h1,fun z=>?_⟩;rw [List.foldl_cons,h2 z,ins_mem,List.mem_cons];constructor
  ·rintro (h | h | h)<;>simp [h]
  ·rintro ((h | h) | h)<;>simp [h]
theorem dict_asc (l:List Nat):(dict l).Pairwise (· < ·):=(foldl_ins l [] List.Pairwise.nil).1
theorem dict_mem (l:List Nat) (x:Nat):x∈dict l↔x∈l:=by
 have:=(foldl_ins l [] List.Pairwise.nil).2 x;simpa [dict] using this
theorem dict_eq (l d:List Nat) (h1:d.Pairwise (· < ·)) (h2:∀ x,x∈d↔x∈l):d=dict l :=
 asc_ext _ _ h1 (dict_asc l) fun x=>by rw [h2,dict_mem]
theorem ins_length (x:Nat) (d:List Nat):(ins x d).length≤d.length+1:=by
 induction d with
 | nil=>simp [ins]
 | cons y l ih =>
  unfold ins;split
  ·simp
  ·split
   ·simp
   ·simp;omega
theorem dict_length (l:List Nat):(dict l).length≤l.length:=by
 have:∀ (l d:List Nat),(l.foldl (fun d x=>ins x d) d).length≤d.length+l.length:=by
  intro l;induction l with
  | nil=>intro d;simp
  | cons x l ih =>
   intro d;have:=ih (ins x d);have:=ins_length x d;rw [List.foldl_cons,List.length_cons];omega
 simpa [dict] using this l []
theorem dict_nil_iff (l:List Nat):dict l=[]↔l=[]:=by
 constructor
 ·intro h;cases l with
  | nil=>rfl
  | cons x l=>have:=(dict_mem (x::l) x).2 (by simp);rw [h] at this;cases this
 ·rintro rfl;rfl
def putBits (l:List Nat):List Bool :=
 if l=[] then [] else bitsOf ((dict l).length - 1) 7++(dict l).flatMap (bitsOf · 64)++l.flatMap (fun x=>bitsOf ((dict l).idxOf x) (wd (dict l).length))
def badNext (d:List Nat) (x:Nat):Bool:=match d.getLast? with | some y=>decide (x≤y) | none=>false
def gdict:Nat→List Nat→List Bool→List Nat × Nat × List Bool
 | 0,d,r=>(d,0,r)
 | m+1,d,r=>if r.length < 64 then ([],3,r) else if badNext d (bv (r.take 64)) then ([],8,r.drop 64) else gdict m (d++[bv (r.take 64)]) (r.drop 64)
def gidx (k:Nat):Nat→List Nat→List Bool→List Nat × Nat × List Bool
 | 0,l,r=>(l,0,r)
 | m+1,l,r=>if r.length < wd k then ([],3,r) else if k≤bv (r.take (wd k)) then ([],8,r.drop (wd k)) else gidx k m (l++[bv (r.take (wd k))]) (r.drop (wd k))
def unused (k:Nat) (l:List Nat):Bool:=(List.range k).any fun j=>!l.contains j
def getVals (n:Nat) (r:List Bool):List Nat × Nat × List Bool :=
 if n=0 then ([],0,r) else if r.length < 7 then ([],3,r) else
  let D:=gdict (bv (r.take 7)+1) [] (r.drop 7)
  if D.2.1≠0 then ([],D.2.1,D.2.2) else
   let I:=gidx D.1.length n [] D.2.2
   if I.2.1≠0 then ([],I.2.1,I.2.2) else if unused D.1.length I.1 then ([],8,I.2.2) else (I.1.map (D.1.getD · 0),0,I.2.2)
end
section
open Go Go.RowKit
theorem Width_any (w:World) (x:Int) (h0:-9223372036854775808≤x) (h1:x≤9223372036854775807) :
  Calls Tryz.prog 284 #[.int .i64 x] w fun e w'=>e=.returned (.int .i64 (wd x.toNat:Nat))∧w=w':=by
 by_cases hx:x < 1
 ·have HX:=hid hx;go_enter Tryz.func284,Tryz.ntmps284
  go_wp2_with fail;go_ret;have e:x.toNat=0:=by have:=HX.out;omega
  exact ⟨ret_int (by rw [e];rfl),rfl⟩
 ·have HX:=hid hx;have hlo:1≤x:=by omega
  clear hx;go_enter Tryz.func284,Tryz.ntmps284
  have e1:IntKind.u64.wrap (x - 1)=x - 1:=IntWalk.u64_in _ (by omega);go_wp2_with (go_at_call 263;refine (Tryz.bits_Len (x - 1) w (by omega) (by omega)).mono ?_;rintro e w' ⟨rfl,rfl⟩)
  go_ret;exact ⟨ret_int (by unfold wd;rw [if_neg (by omega)]),rfl⟩
theorem BinarySearch_hit (w:World) (b:Nat) (A:Option Addr) (n c:Nat) (xs:List Nat) (x:Nat) (hn:n=xs.length) (hm:n≤4611686018427387904) (hr:Rd w b A (cN .u64 xs)) (hs:xs.Pairwise (· < ·)) (hx:x∈xs) :
  Calls Tryz.prog 285 #[.slice A n c,.int .u64 (x:Int)] w fun e w'=>e=.returned (.tuple #[.int .i64 (xs.idxOf x:Nat),.bool true])∧w=w':=by
 subst hn;obtain ⟨p,hp,hpx⟩:=List.getElem_of_mem hx;have hix:xs.idxOf x=p:=by
  refine idxOf_hit xs x p hp hpx ?_;intro h;obtain ⟨q,hq,hqx⟩:=List.getElem_of_mem h;rw [List.length_take] at hq;rw [List.getElem_take] at hqx;have:=List.pairwise_iff_getElem.1 hs q p (by omega) hp (by omega);omega
 rw [hix];have HIX:=hid hpx;have hmono:∀ i (hi:i < xs.length),(i < p→xs[i] < x)∧(p≤i→x≤xs[i]):=by
  intro i hi;constructor
  ·intro h;have:=List.pairwise_iff_getElem.1 hs i p hi hp h;omega
  ·intro h;rcases Nat.lt_or_ge p i with h' | h'
   ·have:=List.pairwise_iff_getElem.1 hs p i hp hi h';omega
   ·obtain rfl:i=p:=by omega
    omega
 have HM:=hid hmono;clear hmono hix hpx hs hx;go_enter Tryz.func285,Tryz.ntmps285
 go_wp2
 go_loop [7,8] (fun i j=>∃ l r:Nat,l≤p∧p≤r∧r≤xs.length∧i=.int .i64 l∧j=.int .i64 r) (fun i j=>((intOf j) - (intOf i)).toNat)
 case atStart=>exact ⟨0,xs.length,by omega,by omega,by omega,rfl,rfl⟩
 case round =>
  obtain ⟨l,r,h1,h2,h3,rfl,rfl⟩:=hrel;by_cases hlt:l < r
  ·have hh:(l+r) / 2 < xs.length:=by omega
   obtain ⟨o,rfl,_,hc⟩:=hr.get (k:=(l+r) / 2) (by simpa using hh);rw [List.getElem_map] at hc;have HV:=hid (HM.out ((l+r) / 2) hh);generalize hq:(l+r) / 2=q at *;have q1:2*q≤l+r:=by omega
   have q2:l+r < 2*q+2:=by omega
   have HQ:=hid hq;clear hq;have e1:IntKind.u64.wrap ((l:Int)+(r:Int))=(l:Int)+(r:Int):=IntWalk.u64_in _ (by omega);have e2:((l:Int)+(r:Int)) / 2=(q:Int):=by omega
   have e3:IntKind.i64.wrap (q:Int)=(q:Int):=IntWalk.i64_in _ (by omega);have i1:(q:Int) < (xs.length:Int):=by omega
   by_cases hc2:xs[q] < x
   ·go_wp2_with (go_at_call 321;refine (Less_any _ _ _).mono ?_;rintro e w' ⟨rfl,rfl⟩)
    go_round
    case rel =>
     have hqp:q < p:=by
      have:=HV.out.2;omega
     exact ⟨q+1,r,by omega,by omega,by omega,by go_num,rfl⟩
    case measure=>simp [intOf];omega
   ·go_wp2_with (go_at_call 321;refine (Less_any _ _ _).mono ?_;rintro e w' ⟨rfl,rfl⟩)
    go_round
    case rel =>
     have hqp:p≤q:=by
      have:=HV.out.1;omega
     exact ⟨l,q,by omega,by omega,by omega,rfl,rfl⟩
    case measure=>simp [intOf];omega
  ·obtain rfl:l=p:=by omega
   obtain rfl:r=l:=by omega
   obtain ⟨o,rfl,_,hc⟩:=hr.get (k:=r) (by simpa using hp);rw [List.getElem_map] at hc;have hv:=HIX.out;rw [hv] at hc;clear hv;go_wp2_with (go_at_call 322;refine (isNaN'_any _ _).mono ?_;rintro e w' ⟨rfl,rfl⟩)
   go_ret2;exact ⟨rfl,rfl⟩
end
end Go.Proofs.YticphebaflnedaaGreatDoor
