/- Laws that the last text builds on. -/
import Derived.Test.YtmmonehfnfbpbaaGreatDoorR11
namespace Go.Proofs.YtmmonehfnfbpbaaGreatDoor
open Go.Lib(hid)
section
open Go Go.RowKit Go.Lib
set_option maxRecDepth 100000 in
set_option maxHeartbeats 1600000 in
theorem parse_nil (w:World) (A:Option Addr) (n c:Nat) (xs:List Nat) (hn:n=xs.length) (h00:xs=[]) (hA:A=none→c=0) (hG:Gl w) :
  Calls Tryz.prog 103 #[.slice A n c] w (ParW w (parseP xs)):=by
 subst hn;have hr:Rd w 0 A (cN .u8 xs):=by rw [h00];exact Rd.nil _ _ _
 have hx:∀ x∈xs,x < 256:=by rw [h00];simp
 have hm:xs.length≤1000000000:=by rw [h00];simp
 have hnc:xs.length≤c:=by rw [h00];simp
 have H0:Hid (xs.length=0):=hid (by rw [h00];rfl);have HA:=hid hA;have HR:=hid hr;have HX:=hid hx;have HG:=hid hG;have HNew:=hid fun (W:World) (hN:Nw w W)=>WNew_any W 0 A xs.length c xs rfl hm (hr.nw hN) hA hx
 clear hr hx hG h00 hA;obtain ⟨P,hP⟩:∃ P,parseP xs=P:=⟨_,rfl⟩;rw [hP];have HP:=hid hP;clear hP;have hN4:Nw w ((((w.alloc (.cells #[nilS,nilS,nilS,nilS] 52)).alloc (.cells #[.int .i64 0,.int .i64 0,.int .i64 0,.int .i64 0,.int .i64 0] 80)).alloc (.cells #[nilS,nilS,nilS,nilS] 52)).alloc (.cells #[.int .i64 0,.int .i64 0,.int .i64 0,.int .i64 0,.int .i64 0] 80)):=((((Nw.refl w).alloc' _).alloc' _).alloc' _).alloc' _;have HB4:=hid (four_new w (.cells #[nilS,nilS,nilS,nilS] 52) (.cells #[.int .i64 0,.int .i64 0,.int .i64 0,.int .i64 0,.int .i64 0] 80) (.cells #[nilS,nilS,nilS,nilS] 52) (.cells #[.int .i64 0,.int .i64 0,.int .i64 0,.int .i64 0,.int .i64 0] 80));have HN4:=hid hN4;clear hN4;go_enter Tryz.func103,Tryz.ntmps103
 go_wp2_with fail;refine (HNew.out _ HN4.out).mono ?_;rintro e w1 ⟨g,b',A',c',rfl,hst,hwi,hb',hg,hN⟩;have HI:Hid (PIv w w1 w.heap.size g b' A' xs.length c' xs nilS nilS nilS nilS 0 0 0 0 0 0 0):=hid (by
  obtain ⟨k0,k1,k2,k3⟩:=HB4.out;have hsz:∀ o1 o2 o3 o4:Obj,((((w.alloc o1).alloc o2).alloc o3).alloc o4).heap.size=w.heap.size+4:=fun _ _ _ _=>by simp
  rw [hsz] at hb' hg;have old:=fun (k:Nat) (ob:Obj) (hk:_)=>(hN.block k (lt_of_block hk)).trans (show _=some ob from hk)
  exact ⟨HN4.out.trans hN,rfl,hg,hb',old _ _ k0,old _ _ k1,old _ _ k2,old _ _ k3,hst,hwi⟩)
 clear hst hwi hb' hg hN HB4 HN4 HNew;have HL1:=hid (WLit_any w1 g b' xs.length c' 0 0 A' xs 0 A xs.length c hdS xs HI.out.st HI.out.wi (by omega) rfl (HR.out.nw HI.out.nw) HX.out (fun _=>by simp) (by decide) (by decide) (by have:=H0.out;omega) hm);rw [hdS_b,if_pos rfl] at HL1;go_wp2_with fail;refine HL1.out.mono ?_;rintro e w2 ⟨rfl,hk,hlit⟩;obtain ⟨at0,er0,hat0,hst,hph⟩:=hlit.ph;have HI:=hid (HI.out.rd hk hst);have HPH:=hid hph;clear hst hk hlit HL1 hph;go_wp2_with fail;refine wp_loop_rounds 5 ?_;rw [rounds_succ];have ca:w2.cell? ⟨w.heap.size+1+1+1,0,none⟩=some (.int .i64 0):=cell_at (k:=0) HI.out.a;have fa:w2.frozen? ⟨w.heap.size+1+1+1,0,none⟩=false:=at_freeL HI.out.a;go_wp2_with fail;refine (WAt_any w2 g xs.length c' at0 er0 A' HI.out.st).mono ?_;rintro e w3 ⟨rfl,rfl⟩;go_wp2_with fail;have HI2:=hid (show PIv w (w2.setCell ⟨w.heap.size+1+1+1,0,none⟩ (.int .i64 (at0:Int))) _ _ _ _ _ _ _ _ _ _ _ _ _ _ _ _ _ _ from HI.out.a0 at0);clear HI ca fa;generalize w2.setCell ⟨w.heap.size+1+1+1,0,none⟩ (.int .i64 (at0:Int))=w3 at *;have HS:=hid (WSection_any w3 g b' xs.length c' at0 er0 1 A' xs HI2.out.st HI2.out.wi.len HI2.out.wi.cap HI2.out.wi.small HI2.out.wi.rd HI2.out.wi.byte hat0 (HG.out.nw HI2.out.nw));have hgl:g < w3.heap.size:=HI2.out.st.lt;have hpl:w.heap.size+3 < w3.heap.size:=lt_of_block HI2.out.a;have cs:w3.cell? ⟨w.heap.size+1+1,0,none⟩=some nilS:=cell_at (k:=0) HI2.out.s;refine HS.out.mono ?_;rintro e w4 ⟨hT,hk⟩;obtain ⟨A0,c0,l0,at1,er1,rfl,hD,hst,hat1,hph⟩:=HPH.out.step (m:=4) hat0 HX.out hT hgl hpl;have HI:=hid (HI2.out.rd hk hst);have HPH:=hid hph;have D0:=hid hD;clear hD hst hph hT hk HS HI2 hgl hpl cs;have cs:w4.cell? ⟨w.heap.size+1+1,0,none⟩=some nilS:=cell_at (k:=0) HI.out.s;have fs:w4.frozen? ⟨w.heap.size+1+1,0,none⟩=false:=at_freeL HI.out.s;go_wp2_with fail;have HI2:=hid (show PIv w (w4.setCell ⟨w.heap.size+1+1,0,none⟩ (.slice A0 l0.length c0)) _ _ _ _ _ _ _ _ _ _ _ _ _ _ _ _ _ _ from HI.out.t0 _);have D0:=hid (show SecD (w4.setCell ⟨w.heap.size+1+1,0,none⟩ (.slice A0 l0.length c0)) _ _ _ _ from D0.out.kp (k:=w.heap.size+1+1) (kp_cellK _ _ _ _) (.inr (by omega)));clear HI cs fs;generalize w4.setCell ⟨w.heap.size+1+1,0,none⟩ (.slice A0 l0.length c0)=w2 at *;have HI:=hid HI2.out;clear HI2;rw [rounds_succ];have ca:w2.cell? ⟨w.heap.size+1+1+1,1,none⟩=some (.int .i64 0):=cell_at (k:=1) HI.out.a;have fa:w2.frozen? ⟨w.heap.size+1+1+1,1,none⟩=false:=at_freeL HI.out.a;go_wp2_with fail;refine (WAt_any w2 g xs.length c' at1 er1 A' HI.out.st).mono ?_;rintro e w3 ⟨rfl,rfl⟩;go_wp2_with fail;have HI2:=hid (show PIv w (w2.setCell ⟨w.heap.size+1+1+1,1,none⟩ (.int .i64 (at1:Int))) _ _ _ _ _ _ _ _ _ _ _ _ _ _ _ _ _ _ from HI.out.a1 at1);have D0:=hid (show SecD (w2.setCell ⟨w.heap.size+1+1+1,1,none⟩ (.int .i64 (at1:Int))) _ _ _ _ from D0.out.kp (k:=w.heap.size+1+1+1) (kp_cellK _ _ _ _) (.inr (Nat.le_refl _)));clear HI ca fa;generalize w2.setCell ⟨w.heap.size+1+1+1,1,none⟩ (.int .i64 (at1:Int))=w3 at *;have HS:=hid (WSection_any w3 g b' xs.length c' at1 er1 2 A' xs HI2.out.st HI2.out.wi.len HI2.out.wi.cap HI2.out.wi.small HI2.out.wi.rd HI2.out.wi.byte hat1 (HG.out.nw HI2.out.nw));have hgl:g < w3.heap.size:=HI2.out.st.lt;have hpl:w.heap.size+3 < w3.heap.size:=lt_of_block HI2.out.a;have cs:w3.cell? ⟨w.heap.size+1+1,1,none⟩=some nilS:=cell_at (k:=1) HI2.out.s;refine HS.out.mono ?_;rintro e w4 ⟨hT,hk⟩;obtain ⟨A1,c1,l1,at2,er2,rfl,hD,hst,hat2,hph⟩:=HPH.out.step (m:=3) hat1 HX.out hT hgl hpl;have HI:=hid (HI2.out.rd hk hst);have HPH:=hid hph;have D1:=hid hD;have D0:=hid (D0.out.kp hk (.inl rfl));clear hD hst hph hT hk HS HI2 hgl hpl cs;have cs:w4.cell? ⟨w.heap.size+1+1,1,none⟩=some nilS:=cell_at (k:=1) HI.out.s;have fs:w4.frozen? ⟨w.heap.size+1+1,1,none⟩=false:=at_freeL HI.out.s;go_wp2_with fail;have HI2:=hid (show PIv w (w4.setCell ⟨w.heap.size+1+1,1,none⟩ (.slice A1 l1.length c1)) _ _ _ _ _ _ _ _ _ _ _ _ _ _ _ _ _ _ from HI.out.t1 _);have D0:=hid (show SecD (w4.setCell ⟨w.heap.size+1+1,1,none⟩ (.slice A1 l1.length c1)) _ _ _ _ from D0.out.kp (k:=w.heap.size+1+1) (kp_cellK _ _ _ _) (.inr (by omega)));have D1:=hid (show SecD (w4.setCell ⟨w.heap.size+1+1,1,none⟩ (.slice A1 l1.length c1)) _ _ _ _ from D1.out.kp (k:=w.heap.size+1+1) (kp_cellK _ _ _ _) (.inr (by omega)));clear HI cs fs;generalize w4.setCell ⟨w.heap.size+1+1,1,none⟩ (.slice A1 l1.length c1)=w2 at *;have HI:=hid HI2.out;clear HI2;rw [rounds_succ];have ca:w2.cell? ⟨w.heap.size+1+1+1,2,none⟩=some (.int .i64 0):=cell_at (k:=2) HI.out.a;have fa:w2.frozen? ⟨w.heap.size+1+1+1,2,none⟩=false:=at_freeL HI.out.a;go_wp2_with fail;refine (WAt_any w2 g xs.length c' at2 er2 A' HI.out.st).mono ?_;rintro e w3 ⟨rfl,rfl⟩;go_wp2_with fail;have HI2:=hid (show PIv w (w2.setCell ⟨w.heap.size+1+1+1,2,none⟩ (.int .i64 (at2:Int))) _ _ _ _ _ _ _ _ _ _ _ _ _ _ _ _ _ _ from HI.out.a2 at2);have D0:=hid (show SecD (w2.setCell ⟨w.heap.size+1+1+1,2,none⟩ (.int .i64 (at2:Int))) _ _ _ _ from D0.out.kp (k:=w.heap.size+1+1+1) (kp_cellK _ _ _ _) (.inr (Nat.le_refl _)));have D1:=hid (show SecD (w2.setCell ⟨w.heap.size+1+1+1,2,none⟩ (.int .i64 (at2:Int))) _ _ _ _ from D1.out.kp (k:=w.heap.size+1+1+1) (kp_cellK _ _ _ _) (.inr (Nat.le_refl _)));clear HI ca fa;generalize w2.setCell ⟨w.heap.size+1+1+1,2,none⟩ (.int .i64 (at2:Int))=w3 at *;have HS:=hid (WSection_any w3 g b' xs.length c' at2 er2 3 A' xs HI2.out.st HI2.out.wi.len HI2.out.wi.cap HI2.out.wi.small HI2.out.wi.rd HI2.out.wi.byte hat2 (HG.out.nw HI2.out.nw));have hgl:g < w3.heap.size:=HI2.out.st.lt;have hpl:w.heap.size+3 < w3.heap.size:=lt_of_block HI2.out.a;have cs:w3.cell? ⟨w.heap.size+1+1,2,none⟩=some nilS:=cell_at (k:=2) HI2.out.s;refine HS.out.mono ?_;rintro e w4 ⟨hT,hk⟩;obtain ⟨A2,c2,l2,at3,er3,rfl,hD,hst,hat3,hph⟩:=HPH.out.step (m:=2) hat2 HX.out hT hgl hpl;have HI:=hid (HI2.out.rd hk hst);have HPH:=hid hph;have D2:=hid hD;have D0:=hid (D0.out.kp hk (.inl rfl));have D1:=hid (D1.out.kp hk (.inl rfl));clear hD hst hph hT hk HS HI2 hgl hpl cs;have cs:w4.cell? ⟨w.heap.size+1+1,2,none⟩=some nilS:=cell_at (k:=2) HI.out.s;have fs:w4.frozen? ⟨w.heap.size+1+1,2,none⟩=false:=at_freeL HI.out.s;go_wp2_with fail;have HI2:=hid (show PIv w (w4.setCell ⟨w.heap.size+1+1,2,none⟩ (.slice A2 l2.length c2)) _ _ _ _ _ _ _ _ _ _ _ _ _ _ _ _ _ _ from HI.out.t2 _);have D0:=hid (show SecD (w4.setCell ⟨w.heap.size+1+1,2,none⟩ (.slice A2 l2.length c2)) _ _ _ _ from D0.out.kp (k:=w.heap.size+1+1) (kp_cellK _ _ _ _) (.inr (by omega)));have D1:=hid (show SecD (w4.setCell ⟨w.heap.size+1+1,2,none⟩ (.slice A2 l2.length c2)) _ _ _ _ from D1.out.kp (k:=w.heap.size+1+1) (kp_cellK _ _ _ _) (.inr (by omega)));have D2:=hid (show SecD (w4.setCell ⟨w.heap.size+1+1,2,none⟩ (.slice A2 l2.length c2)) _ _ _ _ from D2.out.kp (k:=w.heap.size+1+1) (kp_cellK _ _ _ _) (.inr (by omega)));clear HI cs fs;generalize w4.setCell ⟨w.heap.size+1+1,2,none⟩ (.slice A2 l2.length c2)=w2 at *;have HI:=hid HI2.out;clear HI2;rw [rounds_succ];have ca:w2.cell? ⟨w.heap.size+1+1+1,3,none⟩=some (.int .i64 0):=cell_at (k:=3) HI.out.a;have fa:w2.frozen? ⟨w.heap.size+1+1+1,3,none⟩=false:=at_freeL HI.out.a;go_wp2_with fail;refine (WAt_any w2 g xs.length c' at3 er3 A' HI.out.st).mono ?_;rintro e w3 ⟨rfl,rfl⟩;go_wp2_with fail;have HI2:=hid (show PIv w (w2.setCell ⟨w.heap.size+1+1+1,3,none⟩ (.int .i64 (at3:Int))) _ _ _ _ _ _ _ _ _ _ _ _ _ _ _ _ _ _ from HI.out.a3 at3);have D0:=hid (show SecD (w2.setCell ⟨w.heap.size+1+1+1,3,none⟩ (.int .i64 (at3:Int))) _ _ _ _ from D0.out.kp (k:=w.heap.size+1+1+1) (kp_cellK _ _ _ _) (.inr (Nat.le_refl _)));have D1:=hid (show SecD (w2.setCell ⟨w.heap.size+1+1+1,3,none⟩ (.int .i64 (at3:Int))) _ _ _ _ from D1.out.kp (k:=w.heap.size+1+1+1) (kp_cellK _ _ _ _) (.inr (Nat.le_refl _)));have D2:=hid (show SecD (w2.setCell ⟨w.heap.size+1+1+1,3,none⟩ (.int .i64 (at3:Int))) _ _ _ _ from D2.out.kp (k:=w.heap.size+1+1+1) (kp_cellK _ _ _ _) (.inr (Nat.le_refl _)));clear HI ca fa;generalize w2.setCell ⟨w.heap.size+1+1+1,3,none⟩ (.int .i64 (at3:Int))=w3 at *;have HS:=hid (WSection_any w3 g b' xs.length c' at3 er3 4 A' xs HI2.out.st HI2.out.wi.len HI2.out.wi.cap HI2.out.wi.small HI2.out.wi.rd HI2.out.wi.byte hat3 (HG.out.nw HI2.out.nw));have hgl:g < w3.heap.size:=HI2.out.st.lt;have hpl:w.heap.size+3 < w3.heap.size:=lt_of_block HI2.out.a;have cs:w3.cell? ⟨w.heap.size+1+1,3,none⟩=some nilS:=cell_at (k:=3) HI2.out.s;refine HS.out.mono ?_;rintro e w4 ⟨hT,hk⟩;obtain ⟨A3,c3,l3,at4,er4,rfl,hD,hst,hat4,hph⟩:=HPH.out.step (m:=1) hat3 HX.out hT hgl hpl;have HI:=hid (HI2.out.rd hk hst);have HPH:=hid hph;have D3:=hid hD;have D0:=hid (D0.out.kp hk (.inl rfl));have D1:=hid (D1.out.kp hk (.inl rfl));have D2:=hid (D2.out.kp hk (.inl rfl));clear hD hst hph hT hk HS HI2 hgl hpl cs;have cs:w4.cell? ⟨w.heap.size+1+1,3,none⟩=some nilS:=cell_at (k:=3) HI.out.s;have fs:w4.frozen? ⟨w.heap.size+1+1,3,none⟩=false:=at_freeL HI.out.s;go_wp2_with fail;have HI2:=hid (show PIv w (w4.setCell ⟨w.heap.size+1+1,3,none⟩ (.slice A3 l3.length c3)) _ _ _ _ _ _ _ _ _ _ _ _ _ _ _ _ _ _ from HI.out.t3 _);have D0:=hid (show SecD (w4.setCell ⟨w.heap.size+1+1,3,none⟩ (.slice A3 l3.length c3)) _ _ _ _ from D0.out.kp (k:=w.heap.size+1+1) (kp_cellK _ _ _ _) (.inr (by omega)));have D1:=hid (show SecD (w4.setCell ⟨w.heap.size+1+1,3,none⟩ (.slice A3 l3.length c3)) _ _ _ _ from D1.out.kp (k:=w.heap.size+1+1) (kp_cellK _ _ _ _) (.inr (by omega)));have D2:=hid (show SecD (w4.setCell ⟨w.heap.size+1+1,3,none⟩ (.slice A3 l3.length c3)) _ _ _ _ from D2.out.kp (k:=w.heap.size+1+1) (kp_cellK _ _ _ _) (.inr (by omega)));have D3:=hid (show SecD (w4.setCell ⟨w.heap.size+1+1,3,none⟩ (.slice A3 l3.length c3)) _ _ _ _ from D3.out.kp (k:=w.heap.size+1+1) (kp_cellK _ _ _ _) (.inr (by omega)));clear HI cs fs;generalize w4.setCell ⟨w.heap.size+1+1,3,none⟩ (.slice A3 l3.length c3)=w2 at *;have HI:=hid HI2.out;clear HI2;rw [rounds_succ];go_wp2_with fail;have ca:w2.cell? ⟨w.heap.size+1+1+1,4,none⟩=some (.int .i64 0):=cell_at (k:=4) HI.out.a;have fa:w2.frozen? ⟨w.heap.size+1+1+1,4,none⟩=false:=at_freeL HI.out.a;refine (WAt_any w2 g xs.length c' at4 er4 A' HI.out.st).mono ?_;rintro e w3 ⟨rfl,rfl⟩;go_wp2_with fail;have HI2:=hid (show PIv w (w2.setCell ⟨w.heap.size+1+1+1,4,none⟩ (.int .i64 (at4:Int))) _ _ _ _ _ _ _ _ _ _ _ _ _ _ _ _ _ _ from HI.out.a4 at4);have D0:=hid (show SecD (w2.setCell ⟨w.heap.size+1+1+1,4,none⟩ (.int .i64 (at4:Int))) _ _ _ _ from D0.out.kp (k:=w.heap.size+1+1+1) (kp_cellK _ _ _ _) (.inr (Nat.le_refl _)));have D1:=hid (show SecD (w2.setCell ⟨w.heap.size+1+1+1,4,none⟩ (.int .i64 (at4:Int))) _ _ _ _ from D1.out.kp (k:=w.heap.size+1+1+1) (kp_cellK _ _ _ _) (.inr (Nat.le_refl _)));have D2:=hid (show SecD (w2.setCell ⟨w.heap.size+1+1+1,4,none⟩ (.int .i64 (at4:Int))) _ _ _ _ from D2.out.kp (k:=w.heap.size+1+1+1) (kp_cellK _ _ _ _) (.inr (Nat.le_refl _)));have D3:=hid (show SecD (w2.setCell ⟨w.heap.size+1+1+1,4,none⟩ (.int .i64 (at4:Int))) _ _ _ _ from D3.out.kp (k:=w.heap.size+1+1+1) (kp_cellK _ _ _ _) (.inr (Nat.le_refl _)));clear HI ca fa;generalize w2.setCell ⟨w.heap.size+1+1+1,4,none⟩ (.int .i64 (at4:Int))=w3 at *;have HS:=hid (WSection_any w3 g b' xs.length c' at4 er4 5 A' xs HI2.out.st HI2.out.wi.len HI2.out.wi.cap HI2.out.wi.small HI2.out.wi.rd HI2.out.wi.byte hat4 (HG.out.nw HI2.out.nw));have hgl:g < w3.heap.size:=HI2.out.st.lt;have hpl:w.heap.size+3 < w3.heap.size:=lt_of_block HI2.out.a;refine HS.out.mono ?_;rintro e w4 ⟨hT,hk⟩;obtain ⟨A4,c4,l4,at5,er5,rfl,hD,hst,hat5,hph⟩:=HPH.out.step (m:=0) hat4 HX.out hT hgl hpl;have HI:=hid (HI2.out.rd hk hst);have HPH:=hid hph;have D4:=hid hD;have D0:=hid (D0.out.kp hk (.inl rfl));have D1:=hid (D1.out.kp hk (.inl rfl));have D2:=hid (D2.out.kp hk (.inl rfl));have D3:=hid (D3.out.kp hk (.inl rfl));clear hD hst hph hT hk HS HI2 hgl hpl;have cq0:w4.cell? ⟨w.heap.size+1+1+1,0,none⟩=some (.int .i64 (at0:Int)):=cell_at (k:=0) HI.out.a;have cq1:w4.cell? ⟨w.heap.size+1+1+1,1,none⟩=some (.int .i64 (at1:Int)):=cell_at (k:=1) HI.out.a;have cq2:w4.cell? ⟨w.heap.size+1+1+1,2,none⟩=some (.int .i64 (at2:Int)):=cell_at (k:=2) HI.out.a;have cq3:w4.cell? ⟨w.heap.size+1+1+1,3,none⟩=some (.int .i64 (at3:Int)):=cell_at (k:=3) HI.out.a;have cq4:w4.cell? ⟨w.heap.size+1+1+1,4,none⟩=some (.int .i64 (at4:Int)):=cell_at (k:=4) HI.out.a;have HCn:=hid (contents_any w4 at0 at1 at2 at3 at4 (by omega) (by omega) (by omega) (by omega));have HPE:Hid ((l4=toc at0 at1 at2 at3→er5=0→parseP xs=endP xs (l0,l1,l2,l3) (xs.drop at5))∧(l4≠toc at0 at1 at2 at3→er5=0→parseP xs=.error 13)∧(er5≠0→parseP xs=.error er5)):=hid (HPH.out.fin);have HTl:=hid (toc_lt at0 at1 at2 at3);obtain ⟨T,hT⟩:∃ T,toc at0 at1 at2 at3=T:=⟨_,rfl⟩;rw [hT] at HCn HPE HTl;clear hT;go_wp2_with fail;refine HCn.out.mono ?_;rintro e w5 ⟨bT,AT,cT,rfl,hOT,_,hNT⟩;obtain ⟨b4,hrd4,hn4,hc4,hb4,hy4⟩:=D4.out.rd;have HE:=hid (bytesEqual_any w5 b4 bT A4 AT l4.length c4 T.length cT l4 T rfl rfl (hrd4.nw hNT) hOT.rd hy4 HTl.out);have HI:=hid (HI.out.new hNT);have D0:=hid (D0.out.nw hNT);have D1:=hid (D1.out.nw hNT);have D2:=hid (D2.out.nw hNT);have D3:=hid (D3.out.nw hNT);clear hOT hNT hrd4 hn4 hc4 hb4 hy4 cq0 cq1 cq2 cq3 cq4 HCn HTl;go_wp2_with fail;refine HE.out.mono ?_;rintro e w6 ⟨rfl,hw6⟩;subst hw6;clear HE;by_cases ht:l4=T
 case neg =>
  rw [decide_eq_false ht];have HF:=hid (WFail_any w5 g xs.length c' at5 er5 13 A' HI.out.st);obtain ⟨E,hE⟩:∃ E,(if er5=0 then 13 else er5)=E:=⟨_,rfl⟩;rw [hE] at HF;have HZ:Hid (E≠0):=hid (by rw [← hE];split<;>omega);have HPz:Hid (P=.error E):=hid (by
   rw [← HP.out,← hE];by_cases h0:er5=0
   ·rw [if_pos h0,HPE.out.2.1 ht h0]
   ·rw [if_neg h0,HPE.out.2.2 h0])
  clear hE ht;go_wp2_with fail;refine HF.out.mono ?_;rintro e w7 ⟨rfl,hst,hk⟩;have HI:=hid (HI.out.rd hk hst);clear hst hk HF;have HT:=hid (Take_off (m:=4) HI.out.st HI.out.wi hat5 HZ.out (by omega));go_wp2_with fail;refine HT.out.mono ?_;rintro e w8 ⟨rfl,⟨q7,hq7,hst⟩,hk⟩;have HI:=hid (HI.out.rd hk hst);clear hst hk HT;go_wp2_with fail;refine (WAt_any w8 g xs.length c' q7 E A' HI.out.st).mono ?_;rintro e w9 ⟨rfl,rfl⟩;obtain ⟨L,hL⟩:∃ L,xs.length - q7=L:=⟨_,rfl⟩;have hLI:(xs.length:Int) - (q7:Int)=(L:Int):=by omega
  have hatI:(q7:Int)≤(xs.length:Int):=by omega
  have hRc:∀ (Wz:World) (Az:Option Addr),Rd Wz 0 Az (cN .u8 (xs.drop q7)):=fun Wz Az=>by rw [List.drop_of_length_le (by have:=H0.out;omega)];exact Rd.nil _ _ _
  cases A with
  | none =>
   have HL2:=hid (WLit_any w8 g b' xs.length c' q7 E A' xs 0 none L (c - q7) tlS (xs.drop q7) HI.out.st HI.out.wi hq7 (by rw [List.length_drop];omega) (hRc _ _) (fun x hx=>HX.out x (List.mem_of_mem_drop hx)) (fun _=>rfl) (by decide) (by decide) (by have:=H0.out;omega) (by have:=H0.out;omega));clear hRc;go_wp2_with fail;refine HL2.out.mono ?_;rintro e w10 ⟨rfl,hk,hlit⟩;obtain ⟨q8,hq8,hst⟩:=hlit.bad HZ.out;have HI:=hid (HI.out.rd hk hst);clear hst hk hlit HL2;go_wp2_with fail;have HEn:=WEnd_any w10 g xs.length c' q8 E A' HI.out.st hq8 hm;rw [if_neg (fun k=>HZ.out k.1)] at HEn;have hez:((E:Int) != 0)=true:=by rw [bne_iff_ne];have:=HZ.out;omega
   refine HEn.mono ?_;rintro e w11 ⟨rfl,rfl⟩;clear HEn;have z0:w10.cell? ⟨w.heap.size,0,none⟩=some nilS:=cell_at (k:=0) HI.out.z2;have z1:w10.cell? ⟨w.heap.size,1,none⟩=some nilS:=cell_at (k:=1) HI.out.z2;have z2:w10.cell? ⟨w.heap.size,2,none⟩=some nilS:=cell_at (k:=2) HI.out.z2;have z3:w10.cell? ⟨w.heap.size,3,none⟩=some nilS:=cell_at (k:=3) HI.out.z2;have y0:w10.cell? ⟨w.heap.size+1,0,none⟩=some (.int .i64 0):=cell_at (k:=0) HI.out.z3;have y1:w10.cell? ⟨w.heap.size+1,1,none⟩=some (.int .i64 0):=cell_at (k:=1) HI.out.z3;have y2:w10.cell? ⟨w.heap.size+1,2,none⟩=some (.int .i64 0):=cell_at (k:=2) HI.out.z3;have y3:w10.cell? ⟨w.heap.size+1,3,none⟩=some (.int .i64 0):=cell_at (k:=3) HI.out.z3;have y4:w10.cell? ⟨w.heap.size+1,4,none⟩=some (.int .i64 0):=cell_at (k:=4) HI.out.z3;have zf0:w10.frozen? ⟨w.heap.size,0,none⟩=false:=at_freeL HI.out.z2;have zf1:w10.frozen? ⟨w.heap.size,1,none⟩=false:=at_freeL HI.out.z2;have zf2:w10.frozen? ⟨w.heap.size,2,none⟩=false:=at_freeL HI.out.z2;have zf3:w10.frozen? ⟨w.heap.size,3,none⟩=false:=at_freeL HI.out.z2;have yf0:w10.frozen? ⟨w.heap.size+1,0,none⟩=false:=at_freeL HI.out.z3;have yf1:w10.frozen? ⟨w.heap.size+1,1,none⟩=false:=at_freeL HI.out.z3;have yf2:w10.frozen? ⟨w.heap.size+1,2,none⟩=false:=at_freeL HI.out.z3;have yf3:w10.frozen? ⟨w.heap.size+1,3,none⟩=false:=at_freeL HI.out.z3;have yf4:w10.frozen? ⟨w.heap.size+1,4,none⟩=false:=at_freeL HI.out.z3;go_wp2_with fail;obtain ⟨r1,r2,r3,r4⟩:=both_set HI.out.nw (Nat.le_refl _) HI.out.z2 HI.out.z3 nilS nilS nilS nilS (.int .i64 0) (.int .i64 0) (.int .i64 0) (.int .i64 0) (.int .i64 0);refine bodyPost_ret (results_cct rfl _ _ ⟨w.heap.size,0,none⟩ ⟨w.heap.size+1,0,none⟩ rfl rfl (run_load4 r1) (run_load5 r2)) rfl ?_;rw [HPz.out];exact ⟨rfl,HZ.out,r4⟩
  | some a =>
   by_cases hc:c=q7
   ·subst hc;have HL2:=hid (WLit_any w8 g b' xs.length c' c E A' xs 0 (some a) L 0 tlS (xs.drop c) HI.out.st HI.out.wi hq7 (by rw [List.length_drop];omega) (hRc _ _) (fun x hx=>HX.out x (List.mem_of_mem_drop hx)) (fun _=>rfl) (by decide) (by decide) (by have:=H0.out;omega) (by have:=H0.out;omega));clear hRc;go_wp2_with fail;refine HL2.out.mono ?_;rintro e w10 ⟨rfl,hk,hlit⟩;obtain ⟨q8,hq8,hst⟩:=hlit.bad HZ.out;have HI:=hid (HI.out.rd hk hst);clear hst hk hlit HL2;go_wp2_with fail;have HEn:=WEnd_any w10 g xs.length c' q8 E A' HI.out.st hq8 hm;rw [if_neg (fun k=>HZ.out k.1)] at HEn;have hez:((E:Int) != 0)=true:=by rw [bne_iff_ne];have:=HZ.out;omega
    refine HEn.mono ?_;rintro e w11 ⟨rfl,rfl⟩;clear HEn;have z0:w10.cell? ⟨w.heap.size,0,none⟩=some nilS:=cell_at (k:=0) HI.out.z2;have z1:w10.cell? ⟨w.heap.size,1,none⟩=some nilS:=cell_at (k:=1) HI.out.z2;have z2:w10.cell? ⟨w.heap.size,2,none⟩=some nilS:=cell_at (k:=2) HI.out.z2;have z3:w10.cell? ⟨w.heap.size,3,none⟩=some nilS:=cell_at (k:=3) HI.out.z2;have y0:w10.cell? ⟨w.heap.size+1,0,none⟩=some (.int .i64 0):=cell_at (k:=0) HI.out.z3;have y1:w10.cell? ⟨w.heap.size+1,1,none⟩=some (.int .i64 0):=cell_at (k:=1) HI.out.z3;have y2:w10.cell? ⟨w.heap.size+1,2,none⟩=some (.int .i64 0):=cell_at (k:=2) HI.out.z3;have y3:w10.cell? ⟨w.heap.size+1,3,none⟩=some (.int .i64 0):=cell_at (k:=3) HI.out.z3;have y4:w10.cell? ⟨w.heap.size+1,4,none⟩=some (.int .i64 0):=cell_at (k:=4) HI.out.z3;have zf0:w10.frozen? ⟨w.heap.size,0,none⟩=false:=at_freeL HI.out.z2;have zf1:w10.frozen? ⟨w.heap.size,1,none⟩=false:=at_freeL HI.out.z2;have zf2:w10.frozen? ⟨w.heap.size,2,none⟩=false:=at_freeL HI.out.z2;have zf3:w10.frozen? ⟨w.heap.size,3,none⟩=false:=at_freeL HI.out.z2;have yf0:w10.frozen? ⟨w.heap.size+1,0,none⟩=false:=at_freeL HI.out.z3;have yf1:w10.frozen? ⟨w.heap.size+1,1,none⟩=false:=at_freeL HI.out.z3;have yf2:w10.frozen? ⟨w.heap.size+1,2,none⟩=false:=at_freeL HI.out.z3;have yf3:w10.frozen? ⟨w.heap.size+1,3,none⟩=false:=at_freeL HI.out.z3;have yf4:w10.frozen? ⟨w.heap.size+1,4,none⟩=false:=at_freeL HI.out.z3;go_wp2_with fail;obtain ⟨r1,r2,r3,r4⟩:=both_set HI.out.nw (Nat.le_refl _) HI.out.z2 HI.out.z3 nilS nilS nilS nilS (.int .i64 0) (.int .i64 0) (.int .i64 0) (.int .i64 0) (.int .i64 0);refine bodyPost_ret (results_cct rfl _ _ ⟨w.heap.size,0,none⟩ ⟨w.heap.size+1,0,none⟩ rfl rfl (run_load4 r1) (run_load5 r2)) rfl ?_;rw [HPz.out];exact ⟨rfl,HZ.out,r4⟩
   ·have HL2:=hid (WLit_any w8 g b' xs.length c' q7 E A' xs 0 (some (a.add q7)) L (c - q7) tlS (xs.drop q7) HI.out.st HI.out.wi hq7 (by rw [List.length_drop];omega) (hRc _ _) (fun x hx=>HX.out x (List.mem_of_mem_drop hx)) (fun _=>rfl) (by decide) (by decide) (by have:=H0.out;omega) (by have:=H0.out;omega));clear hRc;go_wp2_with fail;refine HL2.out.mono ?_;rintro e w10 ⟨rfl,hk,hlit⟩;obtain ⟨q8,hq8,hst⟩:=hlit.bad HZ.out;have HI:=hid (HI.out.rd hk hst);clear hst hk hlit HL2;go_wp2_with fail;have HEn:=WEnd_any w10 g xs.length c' q8 E A' HI.out.st hq8 hm;rw [if_neg (fun k=>HZ.out k.1)] at HEn;have hez:((E:Int) != 0)=true:=by rw [bne_iff_ne];have:=HZ.out;omega
    refine HEn.mono ?_;rintro e w11 ⟨rfl,rfl⟩;clear HEn;have z0:w10.cell? ⟨w.heap.size,0,none⟩=some nilS:=cell_at (k:=0) HI.out.z2;have z1:w10.cell? ⟨w.heap.size,1,none⟩=some nilS:=cell_at (k:=1) HI.out.z2;have z2:w10.cell? ⟨w.heap.size,2,none⟩=some nilS:=cell_at (k:=2) HI.out.z2;have z3:w10.cell? ⟨w.heap.size,3,none⟩=some nilS:=cell_at (k:=3) HI.out.z2;have y0:w10.cell? ⟨w.heap.size+1,0,none⟩=some (.int .i64 0):=cell_at (k:=0) HI.out.z3;have y1:w10.cell? ⟨w.heap.size+1,1,none⟩=some (.int .i64 0):=cell_at (k:=1) HI.out.z3;have y2:w10.cell? ⟨w.heap.size+1,2,none⟩=some (.int .i64 0):=cell_at (k:=2) HI.out.z3;have y3:w10.cell? ⟨w.heap.size+1,3,none⟩=some (.int .i64 0):=cell_at (k:=3) HI.out.z3;have y4:w10.cell? ⟨w.heap.size+1,4,none⟩=some (.int .i64 0):=cell_at (k:=4) HI.out.z3;have zf0:w10.frozen? ⟨w.heap.size,0,none⟩=false:=at_freeL HI.out.z2;have zf1:w10.frozen? ⟨w.heap.size,1,none⟩=false:=at_freeL HI.out.z2;have zf2:w10.frozen? ⟨w.heap.size,2,none⟩=false:=at_freeL HI.out.z2;have zf3:w10.frozen? ⟨w.heap.size,3,none⟩=false:=at_freeL HI.out.z2;have yf0:w10.frozen? ⟨w.heap.size+1,0,none⟩=false:=at_freeL HI.out.z3;have yf1:w10.frozen? ⟨w.heap.size+1,1,none⟩=false:=at_freeL HI.out.z3;have yf2:w10.frozen? ⟨w.heap.size+1,2,none⟩=false:=at_freeL HI.out.z3;have yf3:w10.frozen? ⟨w.heap.size+1,3,none⟩=false:=at_freeL HI.out.z3;have yf4:w10.frozen? ⟨w.heap.size+1,4,none⟩=false:=at_freeL HI.out.z3;go_wp2_with fail;obtain ⟨r1,r2,r3,r4⟩:=both_set HI.out.nw (Nat.le_refl _) HI.out.z2 HI.out.z3 nilS nilS nilS nilS (.int .i64 0) (.int .i64 0) (.int .i64 0) (.int .i64 0) (.int .i64 0);refine bodyPost_ret (results_cct rfl _ _ ⟨w.heap.size,0,none⟩ ⟨w.heap.size+1,0,none⟩ rfl rfl (run_load4 r1) (run_load5 r2)) rfl ?_;rw [HPz.out];exact ⟨rfl,HZ.out,r4⟩
 rw [decide_eq_true ht];have hPE:=HPE.out.1 ht;have hPZ:=HPE.out.2.2;clear HPE HPH D4 ht;by_cases h0:er5=0
 case neg =>
  have HZ:=hid h0;have HPz:Hid (P=.error er5):=hid (by rw [← HP.out,hPZ h0]);clear hPE hPZ h0;go_wp2_with fail;have HT:=hid (Take_off (m:=4) HI.out.st HI.out.wi hat5 HZ.out (by omega));refine HT.out.mono ?_;rintro e w8 ⟨rfl,⟨q7,hq7,hst⟩,hk⟩;have HI:=hid (HI.out.rd hk hst);clear hst hk HT;go_wp2_with fail;refine (WAt_any w8 g xs.length c' q7 er5 A' HI.out.st).mono ?_;rintro e w9 ⟨rfl,rfl⟩;obtain ⟨L,hL⟩:∃ L,xs.length - q7=L:=⟨_,rfl⟩;have hLI:(xs.length:Int) - (q7:Int)=(L:Int):=by omega
  have hatI:(q7:Int)≤(xs.length:Int):=by omega
  have hRc:∀ (Wz:World) (Az:Option Addr),Rd Wz 0 Az (cN .u8 (xs.drop q7)):=fun Wz Az=>by rw [List.drop_of_length_le (by have:=H0.out;omega)];exact Rd.nil _ _ _
  cases A with
  | none =>
   have HL2:=hid (WLit_any w8 g b' xs.length c' q7 er5 A' xs 0 none L (c - q7) tlS (xs.drop q7) HI.out.st HI.out.wi hq7 (by rw [List.length_drop];omega) (hRc _ _) (fun x hx=>HX.out x (List.mem_of_mem_drop hx)) (fun _=>rfl) (by decide) (by decide) (by have:=H0.out;omega) (by have:=H0.out;omega));clear hRc;go_wp2_with fail;refine HL2.out.mono ?_;rintro e w10 ⟨rfl,hk,hlit⟩;obtain ⟨q8,hq8,hst⟩:=hlit.bad HZ.out;have HI:=hid (HI.out.rd hk hst);clear hst hk hlit HL2;go_wp2_with fail;have HEn:=WEnd_any w10 g xs.length c' q8 er5 A' HI.out.st hq8 hm;rw [if_neg (fun k=>HZ.out k.1)] at HEn;have hez:((er5:Int) != 0)=true:=by rw [bne_iff_ne];have:=HZ.out;omega
   refine HEn.mono ?_;rintro e w11 ⟨rfl,rfl⟩;clear HEn;have z0:w10.cell? ⟨w.heap.size,0,none⟩=some nilS:=cell_at (k:=0) HI.out.z2;have z1:w10.cell? ⟨w.heap.size,1,none⟩=some nilS:=cell_at (k:=1) HI.out.z2;have z2:w10.cell? ⟨w.heap.size,2,none⟩=some nilS:=cell_at (k:=2) HI.out.z2;have z3:w10.cell? ⟨w.heap.size,3,none⟩=some nilS:=cell_at (k:=3) HI.out.z2;have y0:w10.cell? ⟨w.heap.size+1,0,none⟩=some (.int .i64 0):=cell_at (k:=0) HI.out.z3;have y1:w10.cell? ⟨w.heap.size+1,1,none⟩=some (.int .i64 0):=cell_at (k:=1) HI.out.z3;have y2:w10.cell? ⟨w.heap.size+1,2,none⟩=some (.int .i64 0):=cell_at (k:=2) HI.out.z3;have y3:w10.cell? ⟨w.heap.size+1,3,none⟩=some (.int .i64 0):=cell_at (k:=3) HI.out.z3;have y4:w10.cell? ⟨w.heap.size+1,4,none⟩=some (.int .i64 0):=cell_at (k:=4) HI.out.z3;have zf0:w10.frozen? ⟨w.heap.size,0,none⟩=false:=at_freeL HI.out.z2;have zf1:w10.frozen? ⟨w.heap.size,1,none⟩=false:=at_freeL HI.out.z2;have zf2:w10.frozen? ⟨w.heap.size,2,none⟩=false:=at_freeL HI.out.z2;have zf3:w10.frozen? ⟨w.heap.size,3,none⟩=false:=at_freeL HI.out.z2;have yf0:w10.frozen? ⟨w.heap.size+1,0,none⟩=false:=at_freeL HI.out.z3;have yf1:w10.frozen? ⟨w.heap.size+1,1,none⟩=false:=at_freeL HI.out.z3;have yf2:w10.frozen? ⟨w.heap.size+1,2,none⟩=false:=at_freeL HI.out.z3;have yf3:w10.frozen? ⟨w.heap.size+1,3,none⟩=false:=at_freeL HI.out.z3;have yf4:w10.frozen? ⟨w.heap.size+1,4,none⟩=false:=at_freeL HI.out.z3;go_wp2_with fail;obtain ⟨r1,r2,r3,r4⟩:=both_set HI.out.nw (Nat.le_refl _) HI.out.z2 HI.out.z3 nilS nilS nilS nilS (.int .i64 0) (.int .i64 0) (.int .i64 0) (.int .i64 0) (.int .i64 0);refine bodyPost_ret (results_cct rfl _ _ ⟨w.heap.size,0,none⟩ ⟨w.heap.size+1,0,none⟩ rfl rfl (run_load4 r1) (run_load5 r2)) rfl ?_;rw [HPz.out];exact ⟨rfl,HZ.out,r4⟩
  | some a =>
   by_cases hc:c=q7
   ·subst hc;have HL2:=hid (WLit_any w8 g b' xs.length c' c er5 A' xs 0 (some a) L 0 tlS (xs.drop c) HI.out.st HI.out.wi hq7 (by rw [List.length_drop];omega) (hRc _ _) (fun x hx=>HX.out x (List.mem_of_mem_drop hx)) (fun _=>rfl) (by decide) (by decide) (by have:=H0.out;omega) (by have:=H0.out;omega));clear hRc;go_wp2_with fail;refine HL2.out.mono ?_;rintro e w10 ⟨rfl,hk,hlit⟩;obtain ⟨q8,hq8,hst⟩:=hlit.bad HZ.out;have HI:=hid (HI.out.rd hk hst);clear hst hk hlit HL2;go_wp2_with fail;have HEn:=WEnd_any w10 g xs.length c' q8 er5 A' HI.out.st hq8 hm;rw [if_neg (fun k=>HZ.out k.1)] at HEn;have hez:((er5:Int) != 0)=true:=by rw [bne_iff_ne];have:=HZ.out;omega
    refine HEn.mono ?_;rintro e w11 ⟨rfl,rfl⟩;clear HEn;have z0:w10.cell? ⟨w.heap.size,0,none⟩=some nilS:=cell_at (k:=0) HI.out.z2;have z1:w10.cell? ⟨w.heap.size,1,none⟩=some nilS:=cell_at (k:=1) HI.out.z2;have z2:w10.cell? ⟨w.heap.size,2,none⟩=some nilS:=cell_at (k:=2) HI.out.z2;have z3:w10.cell? ⟨w.heap.size,3,none⟩=some nilS:=cell_at (k:=3) HI.out.z2;have y0:w10.cell? ⟨w.heap.size+1,0,none⟩=some (.int .i64 0):=cell_at (k:=0) HI.out.z3;have y1:w10.cell? ⟨w.heap.size+1,1,none⟩=some (.int .i64 0):=cell_at (k:=1) HI.out.z3;have y2:w10.cell? ⟨w.heap.size+1,2,none⟩=some (.int .i64 0):=cell_at (k:=2) HI.out.z3;have y3:w10.cell? ⟨w.heap.size+1,3,none⟩=some (.int .i64 0):=cell_at (k:=3) HI.out.z3;have y4:w10.cell? ⟨w.heap.size+1,4,none⟩=some (.int .i64 0):=cell_at (k:=4) HI.out.z3;have zf0:w10.frozen? ⟨w.heap.size,0,none⟩=false:=at_freeL HI.out.z2;have zf1:w10.frozen? ⟨w.heap.size,1,none⟩=false:=at_freeL HI.out.z2;have zf2:w10.frozen? ⟨w.heap.size,2,none⟩=false:=at_freeL HI.out.z2;have zf3:w10.frozen? ⟨w.heap.size,3,none⟩=false:=at_freeL HI.out.z2;have yf0:w10.frozen? ⟨w.heap.size+1,0,none⟩=false:=at_freeL HI.out.z3;have yf1:w10.frozen? ⟨w.heap.size+1,1,none⟩=false:=at_freeL HI.out.z3;have yf2:w10.frozen? ⟨w.heap.size+1,2,none⟩=false:=at_freeL HI.out.z3;have yf3:w10.frozen? ⟨w.heap.size+1,3,none⟩=false:=at_freeL HI.out.z3;have yf4:w10.frozen? ⟨w.heap.size+1,4,none⟩=false:=at_freeL HI.out.z3;go_wp2_with fail;obtain ⟨r1,r2,r3,r4⟩:=both_set HI.out.nw (Nat.le_refl _) HI.out.z2 HI.out.z3 nilS nilS nilS nilS (.int .i64 0) (.int .i64 0) (.int .i64 0) (.int .i64 0) (.int .i64 0);refine bodyPost_ret (results_cct rfl _ _ ⟨w.heap.size,0,none⟩ ⟨w.heap.size+1,0,none⟩ rfl rfl (run_load4 r1) (run_load5 r2)) rfl ?_;rw [HPz.out];exact ⟨rfl,HZ.out,r4⟩
   ·have HL2:=hid (WLit_any w8 g b' xs.length c' q7 er5 A' xs 0 (some (a.add q7)) L (c - q7) tlS (xs.drop q7) HI.out.st HI.out.wi hq7 (by rw [List.length_drop];omega) (hRc _ _) (fun x hx=>HX.out x (List.mem_of_mem_drop hx)) (fun _=>rfl) (by decide) (by decide) (by have:=H0.out;omega) (by have:=H0.out;omega));clear hRc;go_wp2_with fail;refine HL2.out.mono ?_;rintro e w10 ⟨rfl,hk,hlit⟩;obtain ⟨q8,hq8,hst⟩:=hlit.bad HZ.out;have HI:=hid (HI.out.rd hk hst);clear hst hk hlit HL2;go_wp2_with fail;have HEn:=WEnd_any w10 g xs.length c' q8 er5 A' HI.out.st hq8 hm;rw [if_neg (fun k=>HZ.out k.1)] at HEn;have hez:((er5:Int) != 0)=true:=by rw [bne_iff_ne];have:=HZ.out;omega
    refine HEn.mono ?_;rintro e w11 ⟨rfl,rfl⟩;clear HEn;have z0:w10.cell? ⟨w.heap.size,0,none⟩=some nilS:=cell_at (k:=0) HI.out.z2;have z1:w10.cell? ⟨w.heap.size,1,none⟩=some nilS:=cell_at (k:=1) HI.out.z2;have z2:w10.cell? ⟨w.heap.size,2,none⟩=some nilS:=cell_at (k:=2) HI.out.z2;have z3:w10.cell? ⟨w.heap.size,3,none⟩=some nilS:=cell_at (k:=3) HI.out.z2;have y0:w10.cell? ⟨w.heap.size+1,0,none⟩=some (.int .i64 0):=cell_at (k:=0) HI.out.z3;have y1:w10.cell? ⟨w.heap.size+1,1,none⟩=some (.int .i64 0):=cell_at (k:=1) HI.out.z3;have y2:w10.cell? ⟨w.heap.size+1,2,none⟩=some (.int .i64 0):=cell_at (k:=2) HI.out.z3;have y3:w10.cell? ⟨w.heap.size+1,3,none⟩=some (.int .i64 0):=cell_at (k:=3) HI.out.z3;have y4:w10.cell? ⟨w.heap.size+1,4,none⟩=some (.int .i64 0):=cell_at (k:=4) HI.out.z3;have zf0:w10.frozen? ⟨w.heap.size,0,none⟩=false:=at_freeL HI.out.z2;have zf1:w10.frozen? ⟨w.heap.size,1,none⟩=false:=at_freeL HI.out.z2;have zf2:w10.frozen? ⟨w.heap.size,2,none⟩=false:=at_freeL HI.out.z2;have zf3:w10.frozen? ⟨w.heap.size,3,none⟩=false:=at_freeL HI.out.z2;have yf0:w10.frozen? ⟨w.heap.size+1,0,none⟩=false:=at_freeL HI.out.z3;have yf1:w10.frozen? ⟨w.heap.size+1,1,none⟩=false:=at_freeL HI.out.z3;have yf2:w10.frozen? ⟨w.heap.size+1,2,none⟩=false:=at_freeL HI.out.z3;have yf3:w10.frozen? ⟨w.heap.size+1,3,none⟩=false:=at_freeL HI.out.z3;have yf4:w10.frozen? ⟨w.heap.size+1,4,none⟩=false:=at_freeL HI.out.z3;go_wp2_with fail;obtain ⟨r1,r2,r3,r4⟩:=both_set HI.out.nw (Nat.le_refl _) HI.out.z2 HI.out.z3 nilS nilS nilS nilS (.int .i64 0) (.int .i64 0) (.int .i64 0) (.int .i64 0) (.int .i64 0);refine bodyPost_ret (results_cct rfl _ _ ⟨w.heap.size,0,none⟩ ⟨w.heap.size+1,0,none⟩ rfl rfl (run_load4 r1) (run_load5 r2)) rfl ?_;rw [HPz.out];exact ⟨rfl,HZ.out,r4⟩
 subst h0;have HPe:Hid (P=endP xs (l0,l1,l2,l3) (xs.drop at5)):=hid (HP.out.symm.trans (hPE rfl));clear hPE hPZ;have HT:=hid (WTake_any w5 g b' xs.length c' at5 0 4 A' xs HI.out.st HI.out.wi.len HI.out.wi.cap HI.out.wi.small HI.out.wi.rd hat5 (by omega) (fun _=>by omega));rw [if_pos rfl] at HT;by_cases h4:(xs.drop at5).length < 4
 case pos =>
  rw [show takeP 4 (xs.drop at5)=.error 3 by unfold takeP;rw [if_pos h4]] at HT;have HPz:Hid (P=.error 3):=hid (by rw [HPe.out];unfold endP;rw [if_pos h4]);have HZ:Hid ((3:Nat)≠0):=hid (by omega);clear h4;go_wp2_with fail;refine HT.out.mono ?_;rintro e w8 ⟨⟨rfl,_,q7,hq7,hst⟩,hk⟩;have HI:=hid (HI.out.rd hk hst);clear hst hk HT;go_wp2_with fail;refine (WAt_any w8 g xs.length c' q7 3 A' HI.out.st).mono ?_;rintro e w9 ⟨rfl,rfl⟩;obtain ⟨L,hL⟩:∃ L,xs.length - q7=L:=⟨_,rfl⟩;have hLI:(xs.length:Int) - (q7:Int)=(L:Int):=by omega
  have hatI:(q7:Int)≤(xs.length:Int):=by omega
  have hRc:∀ (Wz:World) (Az:Option Addr),Rd Wz 0 Az (cN .u8 (xs.drop q7)):=fun Wz Az=>by rw [List.drop_of_length_le (by have:=H0.out;omega)];exact Rd.nil _ _ _
  cases A with
  | none =>
   have HL2:=hid (WLit_any w8 g b' xs.length c' q7 3 A' xs 0 none L (c - q7) tlS (xs.drop q7) HI.out.st HI.out.wi hq7 (by rw [List.length_drop];omega) (hRc _ _) (fun x hx=>HX.out x (List.mem_of_mem_drop hx)) (fun _=>rfl) (by decide) (by decide) (by have:=H0.out;omega) (by have:=H0.out;omega));clear hRc;go_wp2_with fail;refine HL2.out.mono ?_;rintro e w10 ⟨rfl,hk,hlit⟩;obtain ⟨q8,hq8,hst⟩:=hlit.bad HZ.out;have HI:=hid (HI.out.rd hk hst);clear hst hk hlit HL2;go_wp2_with fail;have HEn:=WEnd_any w10 g xs.length c' q8 3 A' HI.out.st hq8 hm;rw [if_neg (fun k=>HZ.out k.1)] at HEn;have hez:((3:Int) != 0)=true:=by rw [bne_iff_ne];have:=HZ.out;omega
   refine HEn.mono ?_;rintro e w11 ⟨rfl,rfl⟩;clear HEn;have z0:w10.cell? ⟨w.heap.size,0,none⟩=some nilS:=cell_at (k:=0) HI.out.z2;have z1:w10.cell? ⟨w.heap.size,1,none⟩=some nilS:=cell_at (k:=1) HI.out.z2;have z2:w10.cell? ⟨w.heap.size,2,none⟩=some nilS:=cell_at (k:=2) HI.out.z2;have z3:w10.cell? ⟨w.heap.size,3,none⟩=some nilS:=cell_at (k:=3) HI.out.z2;have y0:w10.cell? ⟨w.heap.size+1,0,none⟩=some (.int .i64 0):=cell_at (k:=0) HI.out.z3;have y1:w10.cell? ⟨w.heap.size+1,1,none⟩=some (.int .i64 0):=cell_at (k:=1) HI.out.z3;have y2:w10.cell? ⟨w.heap.size+1,2,none⟩=some (.int .i64 0):=cell_at (k:=2) HI.out.z3;have y3:w10.cell? ⟨w.heap.size+1,3,none⟩=some (.int .i64 0):=cell_at (k:=3) HI.out.z3;have y4:w10.cell? ⟨w.heap.size+1,4,none⟩=some (.int .i64 0):=cell_at (k:=4) HI.out.z3;have zf0:w10.frozen? ⟨w.heap.size,0,none⟩=false:=at_freeL HI.out.z2;have zf1:w10.frozen? ⟨w.heap.size,1,none⟩=false:=at_freeL HI.out.z2;have zf2:w10.frozen? ⟨w.heap.size,2,none⟩=false:=at_freeL HI.out.z2;have zf3:w10.frozen? ⟨w.heap.size,3,none⟩=false:=at_freeL HI.out.z2;have yf0:w10.frozen? ⟨w.heap.size+1,0,none⟩=false:=at_freeL HI.out.z3;have yf1:w10.frozen? ⟨w.heap.size+1,1,none⟩=false:=at_freeL HI.out.z3;have yf2:w10.frozen? ⟨w.heap.size+1,2,none⟩=false:=at_freeL HI.out.z3;have yf3:w10.frozen? ⟨w.heap.size+1,3,none⟩=false:=at_freeL HI.out.z3;have yf4:w10.frozen? ⟨w.heap.size+1,4,none⟩=false:=at_freeL HI.out.z3;go_wp2_with fail;obtain ⟨r1,r2,r3,r4⟩:=both_set HI.out.nw (Nat.le_refl _) HI.out.z2 HI.out.z3 nilS nilS nilS nilS (.int .i64 0) (.int .i64 0) (.int .i64 0) (.int .i64 0) (.int .i64 0);refine bodyPost_ret (results_cct rfl _ _ ⟨w.heap.size,0,none⟩ ⟨w.heap.size+1,0,none⟩ rfl rfl (run_load4 r1) (run_load5 r2)) rfl ?_;rw [HPz.out];exact ⟨rfl,HZ.out,r4⟩
  | some a =>
   by_cases hc:c=q7
   ·subst hc;have HL2:=hid (WLit_any w8 g b' xs.length c' c 3 A' xs 0 (some a) L 0 tlS (xs.drop c) HI.out.st HI.out.wi hq7 (by rw [List.length_drop];omega) (hRc _ _) (fun x hx=>HX.out x (List.mem_of_mem_drop hx)) (fun _=>rfl) (by decide) (by decide) (by have:=H0.out;omega) (by have:=H0.out;omega));clear hRc;go_wp2_with fail;refine HL2.out.mono ?_;rintro e w10 ⟨rfl,hk,hlit⟩;obtain ⟨q8,hq8,hst⟩:=hlit.bad HZ.out;have HI:=hid (HI.out.rd hk hst);clear hst hk hlit HL2;go_wp2_with fail;have HEn:=WEnd_any w10 g xs.length c' q8 3 A' HI.out.st hq8 hm;rw [if_neg (fun k=>HZ.out k.1)] at HEn;have hez:((3:Int) != 0)=true:=by rw [bne_iff_ne];have:=HZ.out;omega
    refine HEn.mono ?_;rintro e w11 ⟨rfl,rfl⟩;clear HEn;have z0:w10.cell? ⟨w.heap.size,0,none⟩=some nilS:=cell_at (k:=0) HI.out.z2;have z1:w10.cell? ⟨w.heap.size,1,none⟩=some nilS:=cell_at (k:=1) HI.out.z2;have z2:w10.cell? ⟨w.heap.size,2,none⟩=some nilS:=cell_at (k:=2) HI.out.z2;have z3:w10.cell? ⟨w.heap.size,3,none⟩=some nilS:=cell_at (k:=3) HI.out.z2;have y0:w10.cell? ⟨w.heap.size+1,0,none⟩=some (.int .i64 0):=cell_at (k:=0) HI.out.z3;have y1:w10.cell? ⟨w.heap.size+1,1,none⟩=some (.int .i64 0):=cell_at (k:=1) HI.out.z3;have y2:w10.cell? ⟨w.heap.size+1,2,none⟩=some (.int .i64 0):=cell_at (k:=2) HI.out.z3;have y3:w10.cell? ⟨w.heap.size+1,3,none⟩=some (.int .i64 0):=cell_at (k:=3) HI.out.z3;have y4:w10.cell? ⟨w.heap.size+1,4,none⟩=some (.int .i64 0):=cell_at (k:=4) HI.out.z3;have zf0:w10.frozen? ⟨w.heap.size,0,none⟩=false:=at_freeL HI.out.z2;have zf1:w10.frozen? ⟨w.heap.size,1,none⟩=false:=at_freeL HI.out.z2;have zf2:w10.frozen? ⟨w.heap.size,2,none⟩=false:=at_freeL HI.out.z2;have zf3:w10.frozen? ⟨w.heap.size,3,none⟩=false:=at_freeL HI.out.z2;have yf0:w10.frozen? ⟨w.heap.size+1,0,none⟩=false:=at_freeL HI.out.z3;have yf1:w10.frozen? ⟨w.heap.size+1,1,none⟩=false:=at_freeL HI.out.z3;have yf2:w10.frozen? ⟨w.heap.size+1,2,none⟩=false:=at_freeL HI.out.z3;have yf3:w10.frozen? ⟨w.heap.size+1,3,none⟩=false:=at_freeL HI.out.z3;have yf4:w10.frozen? ⟨w.heap.size+1,4,none⟩=false:=at_freeL HI.out.z3;go_wp2_with fail;obtain ⟨r1,r2,r3,r4⟩:=both_set HI.out.nw (Nat.le_refl _) HI.out.z2 HI.out.z3 nilS nilS nilS nilS (.int .i64 0) (.int .i64 0) (.int .i64 0) (.int .i64 0) (.int .i64 0);refine bodyPost_ret (results_cct rfl _ _ ⟨w.heap.size,0,none⟩ ⟨w.heap.size+1,0,none⟩ rfl rfl (run_load4 r1) (run_load5 r2)) rfl ?_;rw [HPz.out];exact ⟨rfl,HZ.out,r4⟩
   ·have HL2:=hid (WLit_any w8 g b' xs.length c' q7 3 A' xs 0 (some (a.add q7)) L (c - q7) tlS (xs.drop q7) HI.out.st HI.out.wi hq7 (by rw [List.length_drop];omega) (hRc _ _) (fun x hx=>HX.out x (List.mem_of_mem_drop hx)) (fun _=>rfl) (by decide) (by decide) (by have:=H0.out;omega) (by have:=H0.out;omega));clear hRc;go_wp2_with fail;refine HL2.out.mono ?_;rintro e w10 ⟨rfl,hk,hlit⟩;obtain ⟨q8,hq8,hst⟩:=hlit.bad HZ.out;have HI:=hid (HI.out.rd hk hst);clear hst hk hlit HL2;go_wp2_with fail;have HEn:=WEnd_any w10 g xs.length c' q8 3 A' HI.out.st hq8 hm;rw [if_neg (fun k=>HZ.out k.1)] at HEn;have hez:((3:Int) != 0)=true:=by rw [bne_iff_ne];have:=HZ.out;omega
    refine HEn.mono ?_;rintro e w11 ⟨rfl,rfl⟩;clear HEn;have z0:w10.cell? ⟨w.heap.size,0,none⟩=some nilS:=cell_at (k:=0) HI.out.z2;have z1:w10.cell? ⟨w.heap.size,1,none⟩=some nilS:=cell_at (k:=1) HI.out.z2;have z2:w10.cell? ⟨w.heap.size,2,none⟩=some nilS:=cell_at (k:=2) HI.out.z2;have z3:w10.cell? ⟨w.heap.size,3,none⟩=some nilS:=cell_at (k:=3) HI.out.z2;have y0:w10.cell? ⟨w.heap.size+1,0,none⟩=some (.int .i64 0):=cell_at (k:=0) HI.out.z3;have y1:w10.cell? ⟨w.heap.size+1,1,none⟩=some (.int .i64 0):=cell_at (k:=1) HI.out.z3;have y2:w10.cell? ⟨w.heap.size+1,2,none⟩=some (.int .i64 0):=cell_at (k:=2) HI.out.z3;have y3:w10.cell? ⟨w.heap.size+1,3,none⟩=some (.int .i64 0):=cell_at (k:=3) HI.out.z3;have y4:w10.cell? ⟨w.heap.size+1,4,none⟩=some (.int .i64 0):=cell_at (k:=4) HI.out.z3;have zf0:w10.frozen? ⟨w.heap.size,0,none⟩=false:=at_freeL HI.out.z2;have zf1:w10.frozen? ⟨w.heap.size,1,none⟩=false:=at_freeL HI.out.z2;have zf2:w10.frozen? ⟨w.heap.size,2,none⟩=false:=at_freeL HI.out.z2;have zf3:w10.frozen? ⟨w.heap.size,3,none⟩=false:=at_freeL HI.out.z2;have yf0:w10.frozen? ⟨w.heap.size+1,0,none⟩=false:=at_freeL HI.out.z3;have yf1:w10.frozen? ⟨w.heap.size+1,1,none⟩=false:=at_freeL HI.out.z3;have yf2:w10.frozen? ⟨w.heap.size+1,2,none⟩=false:=at_freeL HI.out.z3;have yf3:w10.frozen? ⟨w.heap.size+1,3,none⟩=false:=at_freeL HI.out.z3;have yf4:w10.frozen? ⟨w.heap.size+1,4,none⟩=false:=at_freeL HI.out.z3;go_wp2_with fail;obtain ⟨r1,r2,r3,r4⟩:=both_set HI.out.nw (Nat.le_refl _) HI.out.z2 HI.out.z3 nilS nilS nilS nilS (.int .i64 0) (.int .i64 0) (.int .i64 0) (.int .i64 0) (.int .i64 0);refine bodyPost_ret (results_cct rfl _ _ ⟨w.heap.size,0,none⟩ ⟨w.heap.size+1,0,none⟩ rfl rfl (run_load4 r1) (run_load5 r2)) rfl ?_;rw [HPz.out];exact ⟨rfl,HZ.out,r4⟩
 exact (h4 (by rw [List.length_drop];have:=H0.out;omega)).elim
end
section
open Go Go.RowKit Go.Lib
theorem parse_any (w:World) (b:Nat) (A:Option Addr) (n c:Nat) (xs:List Nat) (hn:n=xs.length) (hnc:n≤c) (hm:n≤1000000000) (hr:Rd w b A (cN .u8 xs)) (hA:A=none→c=0) (hx:∀ x∈xs,x < 256) (hG:Gl w) :
  Calls Tryz.prog 103 #[.slice A n c] w (ParW w (parseP xs)):=by
 by_cases h:xs=[]
 ·exact parse_nil w A n c xs hn h hA hG
 ·rcases hr with h2 | h2
  ·exact (h (List.map_eq_nil_iff.1 h2)).elim
  ·obtain ⟨o,rfl,h3,h4⟩:=h2;exact parse_some w b o n c xs hn hnc hm (.inr ⟨o,rfl,h3,h4⟩) hx hG
theorem SecD.kp3 {W W':World} {g p k:Nat} {v:Value} {l:List Nat} (h:SecD W g p v l) (hk:Kp k k W W') (e:k≤g):SecD W' g p v l:=by
 obtain ⟨b',A',c',h1,h2,h3,h4,h5,h6,h7⟩:=h;exact ⟨b',A',c',h1,h2.kp hk (by omega) (by omega),h3,h4,h5,h6,h7⟩
def PrsW (w:World) (X:Except Nat Secs) (e:Ending) (w':World):Prop :=
 match X with
 | .ok s=>∃ (g p:Nat) (v0 v1 v2 v3:Value),e=.returned (.tuple #[.agg #[v0,v1,v2,v3],.int .i64 0])∧SecD w' g p v0 s.1∧SecD w' g p v1 s.2.1∧SecD w' g p v2 s.2.2.1∧SecD w' g p v3 s.2.2.2∧Nw w w'
 | .error k=>e=.returned (.tuple #[.agg #[nilS,nilS,nilS,nilS],.int .i64 (k:Int)])∧k≠0∧Nw w w'
set_option maxRecDepth 100000 in
theorem Certain_any (w:World) (b:Nat) (A:Option Addr) (n c:Nat) (xs:List Nat) (hn:n=xs.length) (hnc:n≤c) (hm:n≤1000000000) (hr:Rd w b A (cN .u8 xs)) (hA:A=none→c=0) (hx:∀ x∈xs,x < 256) (hG:Gl w) :
  Calls Tryz.prog 79 #[.slice A n c] w fun e w'=>e=.returned (.int .i64 (certP xs:Nat))∧Nw w w':=by
 have HP:=hid (parse_any w b A n c xs hn hnc hm hr hA hx hG);unfold certP;clear hn hr hA hx hG;cases hp:parseP xs with
 | ok s =>
  rw [hp] at HP;dsimp only;clear hp;go_enter Tryz.func79,Tryz.ntmps79
  go_wp2_with fail;refine HP.out.mono ?_;rintro e w1 ⟨g,p,v0,v1,v2,v3,q0,q1,q2,q3,q4,rfl,D0,D1,D2,D3,hg,hN⟩;obtain ⟨_,A0,c0,rfl,_⟩:=D0;obtain ⟨_,A1,c1,rfl,_⟩:=D1;obtain ⟨_,A2,c2,rfl,_⟩:=D2;obtain ⟨_,A3,c3,rfl,_⟩:=D3;have HN:=hid hN;clear hN hg;go_wp2_with fail;go_ret;exact ⟨rfl,(HN.out.alloc' _).alloc' _⟩
 | error k =>
  rw [hp] at HP;dsimp only;have hk:=parseP_nz hp;clear hp;by_cases h3:k=3
  ·have h3b:((k:Int) != 3)=false:=by rw [bne_eq_false_iff_eq];omega
   rw [if_pos h3];clear h3 hk;go_enter Tryz.func79,Tryz.ntmps79
   go_wp2_with fail;refine HP.out.mono ?_;rintro e w1 ⟨rfl,_,hN⟩;have HN:=hid hN;clear hN;go_wp2_with fail;go_ret;exact ⟨rfl,(HN.out.alloc' _).alloc' _⟩
  ·have h3b:((k:Int) != 3)=true:=by rw [bne_iff_ne];omega
   rw [if_neg h3];clear h3 hk;go_enter Tryz.func79,Tryz.ntmps79
   go_wp2_with fail;refine HP.out.mono ?_;rintro e w1 ⟨rfl,_,hN⟩;have HN:=hid hN;clear hN;go_wp2_with fail;go_ret;exact ⟨rfl,(HN.out.alloc' _).alloc' _⟩
set_option maxRecDepth 100000 in
theorem ParseL_any (w:World) (b:Nat) (A:Option Addr) (n c:Nat) (xs:List Nat) (hn:n=xs.length) (hnc:n≤c) (hm:n≤1000000000) (hr:Rd w b A (cN .u8 xs)) (hA:A=none→c=0) (hx:∀ x∈xs,x < 256) (hG:Gl w) :
  Calls Tryz.prog 53 #[.slice A n c] w (PrsW w (parseP xs)):=by
 have hN0:Nw w (w.alloc (.cells #[nilS,nilS,nilS,nilS] 52)):=(Nw.refl w).alloc' _;have HP:=hid (parse_any _ b A n c xs hn hnc hm (hr.nw hN0) hA hx (hG.nw hN0));have hb0:=heap_alloc_new w (.cells #[nilS,nilS,nilS,nilS] 52);have HB0:=hid hb0;have HN0:=hid hN0;clear hn hr hA hx hG hb0 hN0;cases hp:parseP xs with
 | ok s =>
  rw [hp] at HP;clear hp;go_enter Tryz.func53,Tryz.ntmps53
  go_wp2_with fail;refine HP.out.mono ?_;rintro e w1 ⟨g,p,v0,v1,v2,v3,q0,q1,q2,q3,q4,rfl,D0,D1,D2,D3,hg,hN⟩;have HD:=hid (And.intro D0 (And.intro D1 (And.intro D2 D3)));obtain ⟨_,A0,c0,rfl,_⟩:=D0;obtain ⟨_,A1,c1,rfl,_⟩:=D1;obtain ⟨_,A2,c2,rfl,_⟩:=D2;obtain ⟨_,A3,c3,rfl,_⟩:=D3;have hb1:=(hN.block _ (lt_of_block HB0.out)).trans HB0.out;have hb2:∀ o1 o2:Obj,((w1.alloc o1).alloc o2).heap[w.heap.size]? = some (.cells #[nilS,nilS,nilS,nilS] 52 (0,0)):=fun o1 o2=>by
   have hl:=lt_of_block hb1;rw [heap_alloc_old _ _ (by rw [World.size_alloc];omega),heap_alloc_old _ _ hl];exact hb1
  have z0:∀ o1 o2:Obj,((w1.alloc o1).alloc o2).cell? ⟨w.heap.size,0,none⟩=some nilS:=fun o1 o2=>cell_at (k:=0) (hb2 o1 o2)
  have z1:∀ o1 o2:Obj,((w1.alloc o1).alloc o2).cell? ⟨w.heap.size,1,none⟩=some nilS:=fun o1 o2=>cell_at (k:=1) (hb2 o1 o2)
  have z2:∀ o1 o2:Obj,((w1.alloc o1).alloc o2).cell? ⟨w.heap.size,2,none⟩=some nilS:=fun o1 o2=>cell_at (k:=2) (hb2 o1 o2)
  have z3:∀ o1 o2:Obj,((w1.alloc o1).alloc o2).cell? ⟨w.heap.size,3,none⟩=some nilS:=fun o1 o2=>cell_at (k:=3) (hb2 o1 o2)
  have zf0:∀ o1 o2:Obj,((w1.alloc o1).alloc o2).frozen? ⟨w.heap.size,0,none⟩=false:=fun o1 o2=>at_freeL (hb2 o1 o2)
  have zf1:∀ o1 o2:Obj,((w1.alloc o1).alloc o2).frozen? ⟨w.heap.size,1,none⟩=false:=fun o1 o2=>at_freeL (hb2 o1 o2)
  have zf2:∀ o1 o2:Obj,((w1.alloc o1).alloc o2).frozen? ⟨w.heap.size,2,none⟩=false:=fun o1 o2=>at_freeL (hb2 o1 o2)
  have zf3:∀ o1 o2:Obj,((w1.alloc o1).alloc o2).frozen? ⟨w.heap.size,3,none⟩=false:=fun o1 o2=>at_freeL (hb2 o1 o2)
  have HB2:=hid hb2;clear hb2;have HG2:=hid hg;have HN:=hid hN;have HB1:=hid hb1;clear hN hg hb1;go_wp2_with fail;refine bodyPost_ret (results_ct rfl _ _ ⟨w.heap.size,0,none⟩ rfl (run_load4 (set4_at (HB2.out _ _) _ _ _ _))) rfl ?_;have hK:=set4_kp ((w1.alloc (.cells #[.slice A0 s.1.length c0,.slice A1 s.2.1.length c1,.slice A2 s.2.2.1.length c2,.slice A3 s.2.2.2.length c3] 52)).alloc (.cells #[.int .i64 (q0:Int),.int .i64 (q1:Int),.int .i64 (q2:Int),.int .i64 (q3:Int),.int .i64 (q4:Int)] 80)) w.heap.size (.slice A0 s.1.length c0) (.slice A1 s.2.1.length c1) (.slice A2 s.2.2.1.length c2) (.slice A3 s.2.2.2.length c3);have hN2:Nw w1 ((w1.alloc (.cells #[.slice A0 s.1.length c0,.slice A1 s.2.1.length c1,.slice A2 s.2.2.1.length c2,.slice A3 s.2.2.2.length c3] 52)).alloc (.cells #[.int .i64 (q0:Int),.int .i64 (q1:Int),.int .i64 (q2:Int),.int .i64 (q3:Int),.int .i64 (q4:Int)] 80)):=((Nw.refl w1).alloc' _).alloc' _;obtain ⟨D0,D1,D2,D3⟩:=HD.out;have hg2:w.heap.size≤g:=by have:=HG2.out;simp only [World.size_alloc] at this;omega
  exact ⟨g,p,_,_,_,_,rfl,(D0.nw hN2).kp3 hK hg2,(D1.nw hN2).kp3 hK hg2,(D2.nw hN2).kp3 hK hg2,(D3.nw hN2).kp3 hK hg2,Kp.nw ((HN0.out.trans HN.out).trans hN2) hK (Nat.le_refl _) (Nat.le_refl _)⟩
 | error k =>
  rw [hp] at HP;clear hp;go_enter Tryz.func53,Tryz.ntmps53
  go_wp2_with fail;refine HP.out.mono ?_;rintro e w1 ⟨rfl,hk,hN⟩;have hb1:=(hN.block _ (lt_of_block HB0.out)).trans HB0.out;have hb2:∀ o1 o2:Obj,((w1.alloc o1).alloc o2).heap[w.heap.size]? = some (.cells #[nilS,nilS,nilS,nilS] 52 (0,0)):=fun o1 o2=>by
   have hl:=lt_of_block hb1;rw [heap_alloc_old _ _ (by rw [World.size_alloc];omega),heap_alloc_old _ _ hl];exact hb1
  have z0:∀ o1 o2:Obj,((w1.alloc o1).alloc o2).cell? ⟨w.heap.size,0,none⟩=some nilS:=fun o1 o2=>cell_at (k:=0) (hb2 o1 o2)
  have z1:∀ o1 o2:Obj,((w1.alloc o1).alloc o2).cell? ⟨w.heap.size,1,none⟩=some nilS:=fun o1 o2=>cell_at (k:=1) (hb2 o1 o2)
  have z2:∀ o1 o2:Obj,((w1.alloc o1).alloc o2).cell? ⟨w.heap.size,2,none⟩=some nilS:=fun o1 o2=>cell_at (k:=2) (hb2 o1 o2)
  have z3:∀ o1 o2:Obj,((w1.alloc o1).alloc o2).cell? ⟨w.heap.size,3,none⟩=some nilS:=fun o1 o2=>cell_at (k:=3) (hb2 o1 o2)
  have zf0:∀ o1 o2:Obj,((w1.alloc o1).alloc o2).frozen? ⟨w.heap.size,0,none⟩=false:=fun o1 o2=>at_freeL (hb2 o1 o2)
  have zf1:∀ o1 o2:Obj,((w1.alloc o1).alloc o2).frozen? ⟨w.heap.size,1,none⟩=false:=fun o1 o2=>at_freeL (hb2 o1 o2)
  have zf2:∀ o1 o2:Obj,((w1.alloc o1).alloc o2).frozen? ⟨w.heap.size,2,none⟩=false:=fun o1 o2=>at_freeL (hb2 o1 o2)
  have zf3:∀ o1 o2:Obj,((w1.alloc o1).alloc o2).frozen? ⟨w.heap.size,3,none⟩=false:=fun o1 o2=>at_freeL (hb2 o1 o2)
  have HB2:=hid hb2;clear hb2;have HN:=hid hN;have HB1:=hid hb1;have HK:=hid hk;clear hN hk hb1;go_wp2_with fail;refine bodyPost_ret (results_ct rfl _ _ ⟨w.heap.size,0,none⟩ rfl (run_load4 (set4_at (HB2.out _ _) _ _ _ _))) rfl ?_;have hK:=set4_kp ((w1.alloc (.cells #[nilS,nilS,nilS,nilS] 52)).alloc (.cells #[.int .i64 0,.int .i64 0,.int .i64 0,.int .i64 0,.int .i64 0] 80)) w.heap.size nilS nilS nilS nilS;have hN2:Nw w1 ((w1.alloc (.cells #[nilS,nilS,nilS,nilS] 52)).alloc (.cells #[.int .i64 0,.int .i64 0,.int .i64 0,.int .i64 0,.int .i64 0] 80)):=((Nw.refl w1).alloc' _).alloc' _;exact ⟨rfl,HK.out,Kp.nw ((HN0.out.trans HN.out).trans hN2) hK (Nat.le_refl _) (Nat.le_refl _)⟩
end
section
open Go Go.RowKit Go.Lib Go.Sort Go.Shelf
def SecsC:Prop:=∀ (w:World) (b0 b1 b2 b3 c0 c1 c2 c3:Nat) (A0 A1 A2 A3:Option Addr) (l0 l1 l2 l3:List Nat),SecI0 w b0 A0 c0 l0→SecI0 w b1 A1 c1 l1→SecI0 w b2 A2 c2 l2→SecI0 w b3 A3 c3 l3→l2.length≤1000000→SecNum l0 l1 l3→Gl w →
 Calls Tryz.prog 34 #[.agg #[.slice A0 l0.length c0,.slice A1 l1.length c1,.slice A2 l2.length c2,.slice A3 l3.length c3]] w (BlkGot w (secsP (l0,l1,l2,l3)))
set_option maxRecDepth 100000 in
set_option maxHeartbeats 1000000 in
theorem PDec18_of (HSec:SecsC) (w:World) (b:Nat) (A:Option Addr) (n c:Nat) (xs:List Nat) (hn:n=xs.length) (hnc:n≤c) (hm:n≤1000000000) (hr:Rd w b A (cN .u8 xs)) (hA:A=none→c=0) (hx:∀ x∈xs,x < 256) (hD:DecNum xs) (hG:Gl w) :
  Calls Tryz.prog 32 #[.slice A n c] w (BlkGot w (decP xs)):=by
 have HP:=hid (ParseL_any w b A n c xs hn hnc (by omega) hr hA hx hG);have HB:Hid (∀ s,parseP xs=.ok s→SecsNum s):=hid hD;have HG:=hid hG;have HSe:=hid HSec;unfold decP;obtain ⟨X,hX⟩:∃ X,parseP xs=X:=⟨_,rfl⟩;rw [hX] at HP HB ⊢;obtain ⟨P,hPe⟩:∃ P,xb X secsP=P:=⟨_,rfl⟩;rw [hPe];have HPe:=hid hPe;clear hn hnc hr hx hX hPe hA hG HSec hD;go_enter Tryz.func32,Tryz.ntmps32
 go_wp2_with fail;refine HP.out.mono ?_;rintro e w1 hW;clear HP;cases X with
 | error k =>
  obtain ⟨rfl,hk,hN⟩:=hW;have hkb:((k:Int) != 0)=true:=by rw [bne_iff_ne];omega
  have HK:=hid hk;have HN:=hid hN;have hp:P=.error k:=HPe.out.symm;subst hp;clear hk hN;go_wp2_with fail;go_ret2;exact ⟨HN.out.alloc' _,rfl,HK.out⟩
 | ok s =>
  obtain ⟨g,p,v0,v1,v2,v3,rfl,h0,h1,h2,h3,hN⟩:=hW;obtain ⟨b0,A0,c0,rfl,r0,n0,k0,_,_,y0⟩:=h0;obtain ⟨b1,A1,c1,rfl,r1,n1,k1,_,_,y1⟩:=h1;obtain ⟨b2,A2,c2,rfl,r2,n2,k2,_,_,y2⟩:=h2;obtain ⟨b3,A3,c3,rfl,r3,n3,k3,_,_,y3⟩:=h3;obtain ⟨t0,t1,t2,t3,tq⟩:=HB.out s rfl;have HSx:=hid fun (W:World) (hW:Nw w1 W)=>HSe.out W b0 b1 b2 b3 c0 c1 c2 c3 A0 A1 A2 A3 s.1 s.2.1 s.2.2.1 s.2.2.2 ⟨r0.nw hW,n0,k0,y0,by omega⟩ ⟨r1.nw hW,n1,k1,y1,by omega⟩ ⟨r2.nw hW,n2,k2,y2,by omega⟩ ⟨r3.nw hW,n3,k3,y3,by omega⟩ t2 tq ((HG.out.nw hN).nw hW)
  have HN:=hid hN;have hp:P=secsP (s.1,s.2.1,s.2.2.1,s.2.2.2):=HPe.out.symm;clear hN r0 r1 r2 r3 n0 n1 n2 n3 k0 k1 k2 k3 y0 y1 y2 y3 t0 t1 t2 t3 tq HB;rw [← hp] at HSx;clear hp HPe;have HN2:Hid (Nw w1 (w1.alloc (.cells #[.slice A0 s.1.length c0,.slice A1 s.2.1.length c1,.slice A2 s.2.2.1.length c2,.slice A3 s.2.2.2.length c3] 52))):=hid ((Nw.refl w1).alloc' _);go_wp2_with fail;refine (HSx.out _ HN2.out).mono ?_;rintro e w2 hG;have HG2:=hid (BlkGot.trans (HN.out.trans HN2.out) hG);obtain ⟨hNn,hX⟩:=hG;clear hNn;cases P with
  | error k =>
   obtain ⟨rfl,hk⟩:=hX;clear hk;go_wp2_with fail;go_ret2;exact HG2.out
  | ok B =>
   obtain ⟨l,bo,Ao,co,rfl,hI,hv,hs,hl,hL⟩:=hX;clear hI hv hs hl hL;go_wp2_with fail;go_ret2;exact HG2.out
end
section
open Go Go.RowKit Go.Lib
def stV (p:Nat):Value :=
 if p=0 then .iface 77 (.agg #[.int .i64 5,.iface 73 (.agg #[.int .i64 1])])
 else if p≤5 then .iface 73 (.agg #[.int .i64 (p:Int)])
 else if p=6 then .iface 77 (.agg #[.int .i64 8,.iface 150 (.agg #[])])
 else .iface 150 (.agg #[])
def EndW (X:Option Nat) (e:Ending):Prop :=
 match X with
 | some t=>e=.returned (.tuple #[.int .i64 (t:Int),.bool true])
 | none=>∃ t:Int,e=.returned (.tuple #[.int .i64 t,.bool false])
theorem EndW.no {X:Option Nat} {t:Int} (h:X=none):EndW X (.returned (.tuple #[.int .i64 t,.bool false])):=by
 subst h;exact ⟨t,rfl⟩
set_option maxRecDepth 100000 in
theorem frameEnd_any (w:World) (p b:Nat) (A:Option Addr) (n c at_:Nat) (xs:List Nat) (hp:1≤p∧p≤5) (hn:n=xs.length) (hnc:n≤c) (hm:n≤1000000000) (hr:Rd w b A (cN .u8 xs)) (hx:∀ x∈xs,x < 256) (hat:at_≤n) :
  Calls Tryz.prog 364 #[.agg #[.int .i64 (p:Int)],.slice A n c,.int .i64 (at_:Int)] w fun e w'=>EndW (endQ p xs at_) e∧Nw w w':=by
 obtain ⟨X,hX⟩:∃ X,endQ p xs at_=X:=⟨_,rfl⟩;rw [hX];unfold endQ at hX;rw [if_neg (by omega),if_pos hp.2] at hX;by_cases h1:n≤at_
 ·have h1I:(n:Int)≤(at_:Int):=by omega
  rw [if_pos (by omega)] at hX;have HX:=hid hX.symm;clear hX hr hx hn h1 hp;go_enter Tryz.func364,Tryz.ntmps364
  go_wp2_with fail;go_ret2;exact ⟨EndW.no HX.out,(Nw.refl w).alloc' _⟩
 ·have h1I:¬ (n:Int)≤(at_:Int):=by omega
  rw [if_neg (by omega)] at hX;have hNa:Nw w (w.alloc (.cells #[.int .i64 (p:Int)] 73)):=(Nw.refl w).alloc' _;have HV:=VGet_any (w.alloc (.cells #[.int .i64 (p:Int)] 73)) b A n c xs hn hnc hm (hr.nw hNa) hx (at_+1) (by omega);obtain ⟨J,hJ⟩:∃ J,at_+1=J:=⟨_,rfl⟩;have hJI:(at_:Int)+1=(J:Int):=by omega
  rw [hJ] at HV hX;cases hv:vget0 (xs.drop J) with
  | error k =>
   rw [hv] at HV hX;have hk:=vget_ext.nz hv;have hk2:((k:Int) != 0)=true:=by rw [bne_iff_ne];omega
   have HV:=hid (show Calls Tryz.prog 104 #[.slice A n c,.int .i64 (J:Int)] (w.alloc (.cells #[.int .i64 (p:Int)] 73)) fun e w'=>e=.returned (.tuple #[.int .u64 0,.int .i64 0,.int .i64 (k:Int)])∧(w.alloc (.cells #[.int .i64 (p:Int)] 73))=w' from HV);have HX:=hid (show X=none from hX.symm);have HNa:=hid hNa;clear hX hr hx hn h1 hv hk hJ hp hNa;go_enter Tryz.func364,Tryz.ntmps364
   go_wp2_with fail;refine HV.out.mono ?_;rintro e w2 ⟨rfl,rfl⟩;go_wp2_with fail;go_ret2;exact ⟨EndW.no HX.out,HNa.out⟩
  | ok q =>
   obtain ⟨v,r⟩:=q;obtain ⟨hr1,hr2,hr3⟩:=drop_sfx hv;rw [hv] at HV hX;dsimp only at hX;obtain ⟨F,hF⟩:∃ F,n - r.length=F:=⟨_,rfl⟩;have HV:=hid (show Calls Tryz.prog 104 #[.slice A n c,.int .i64 (J:Int)] (w.alloc (.cells #[.int .i64 (p:Int)] 73)) fun e w'=>e=.returned (.tuple #[.int .u64 (v:Int),.int .i64 (F:Int),.int .i64 0])∧(w.alloc (.cells #[.int .i64 (p:Int)] 73))=w' from HV.mono fun e w' h=>⟨by rw [h.1,← hF];rfl,h.2⟩);obtain ⟨L,hL⟩:∃ L,r.length=L:=⟨_,rfl⟩;have hLI:(n:Int) - (F:Int)=(L:Int):=by omega
   have HNa:=hid hNa;by_cases h4:L < 4
   ·have h4I:(L:Int) < 4:=by omega
    rw [if_pos (.inl (by omega))] at hX;have HX:=hid (show X=none from hX.symm);clear hX hr hx hn h1 hv hJ hp hNa hF hL h4 hr1 hr2 hr3;go_enter Tryz.func364,Tryz.ntmps364
    go_wp2_with fail;refine HV.out.mono ?_;rintro e w2 ⟨rfl,rfl⟩;go_wp2_with fail;go_ret2;exact ⟨EndW.no HX.out,HNa.out⟩
   ·have h4I:¬ (L:Int) < 4:=by omega
    obtain ⟨Q,hQ⟩:∃ Q,L - 4=Q:=⟨_,rfl⟩;have hQI:(L:Int) - 4=(Q:Int):=by omega
    have HQb:=hid (show 0≤(Q:Int)∧(Q:Int)≤18446744073709551615 by omega);by_cases h5:Q < v
    ·have h5I:(Q:Int) < (v:Int):=by omega
     rw [if_pos (.inr (by omega))] at hX;have HX:=hid (show X=none from hX.symm);clear hX hr hx hn h1 hv hJ hp hNa hF hL h4 hr1 hr2 hr3 hQ h5;have hQw:IntKind.u64.wrap (Q:Int)=(Q:Int):=IntWalk.u64_in _ HQb.out;go_enter Tryz.func364,Tryz.ntmps364
     go_wp2_with fail;refine HV.out.mono ?_;rintro e w2 ⟨rfl,rfl⟩;go_wp2_with fail;go_ret2;exact ⟨EndW.no HX.out,HNa.out⟩
    ·have h5I:¬ (Q:Int) < (v:Int):=by omega
     rw [if_neg (by omega)] at hX;obtain ⟨T,hT⟩:∃ T,F+v=T:=⟨_,rfl⟩;have hTI:(F:Int)+(v:Int)=(T:Int):=by omega
     obtain ⟨T4,hT4⟩:∃ T4,T+4=T4:=⟨_,rfl⟩;have hT4I:(T:Int)+4=(T4:Int):=by omega
     have hvb:(v:Int)≤1000000000:=by omega
     have hTb:(T4:Int)≤1000000000:=by omega
     have HX:=hid (show X=some T4 by rw [← hX,← hn];congr 1;omega);clear hX hr hx hn h1 hv hJ hp hNa hF hL h4 hr1 hr2 hr3 hQ h5 hT hT4;go_enter Tryz.func364,Tryz.ntmps364
     go_wp2_with fail;refine HV.out.mono ?_;rintro e w2 ⟨rfl,rfl⟩;go_wp2_with fail;go_ret2;rw [HX.out];exact ⟨rfl,HNa.out⟩
set_option maxRecDepth 100000 in
theorem fixedEnd_any (w:World) (L:Nat) (v:Value) (A:Option Addr) (n c at_:Nat) (hL:L≤100) (hm:n≤1000000000) (hat:at_≤n) :
  Calls Tryz.prog 366 #[.agg #[.int .i64 (L:Int),v],.slice A n c,.int .i64 (at_:Int)] w fun e w'=>EndW (if at_+L≤n then some (at_+L) else none) e∧Nw w w':=by
 obtain ⟨T,hT⟩:∃ T,at_+L=T:=⟨_,rfl⟩;have hTI:(at_:Int)+(L:Int)=(T:Int):=by omega
 have HWb:=hid (show -9223372036854775808≤(at_:Int)+(L:Int)∧(at_:Int)+(L:Int)≤9223372036854775807 by omega);obtain ⟨R,hR⟩:∃ R,n - at_=R:=⟨_,rfl⟩;have hRI:(n:Int) - (at_:Int)=(R:Int):=by omega
 have HRb:=hid (show -9223372036854775808≤(R:Int)∧(R:Int)≤9223372036854775807 by omega);have hb0:=heap_alloc_new w (.cells #[.int .i64 (L:Int),v] 77);have k0:(w.alloc (.cells #[.int .i64 (L:Int),v] 77)).cell? ⟨w.heap.size,0,none⟩=some (.int .i64 (L:Int)):=cell_at (k:=0) hb0;rw [hT];by_cases h:T≤n
 ·have hI:(L:Int)≤(R:Int):=by omega
  have hId:decide ((L:Int)≤(R:Int))=true:=by simpa using hI
  rw [if_pos h];clear hT hR h hb0;go_enter Tryz.func366,Tryz.ntmps366
  go_wp2_with fail;go_quiet (fail)
  go_wp2_with fail;go_ret2;exact ⟨rfl,((Nw.refl w).alloc' _).drewN' nq⟩
 ·have hI:(R:Int) < (L:Int):=by omega
  have hId:decide ((L:Int)≤(R:Int))=false:=by rw [decide_eq_false_iff_not];omega
  have hNd:decide (L≤R)=false:=by rw [decide_eq_false_iff_not];omega
  rw [if_neg h];clear hT hR h hb0;go_enter Tryz.func366,Tryz.ntmps366
  go_wp2_with fail;go_quiet (fail)
  go_wp2_with fail;go_ret2;exact ⟨⟨(T:Int),rfl⟩,((Nw.refl w).alloc' _).drewN' nq⟩
theorem doneEnd_any (w:World) (A:Option Addr) (n c at_:Nat) :
  Calls Tryz.prog 369 #[.agg #[],.slice A n c,.int .i64 (at_:Int)] w fun e w'=>EndW none e∧Nw w w':=by
 go_enter Tryz.func369,Tryz.ntmps369
 go_wp2_with fail;go_ret2;exact ⟨⟨0,rfl⟩,(Nw.refl w).alloc' _⟩
theorem frameNext_any (w:World) (p:Nat) (hp:1≤p∧p≤5) :
  Calls Tryz.prog 365 #[.agg #[.int .i64 (p:Int)]] w fun e w'=>e=.returned (stV (p+1))∧Nw w w':=by
 have hNa:Nw w (w.alloc (.cells #[.int .i64 (p:Int)] 73)):=(Nw.refl w).alloc' _;have k0:(w.alloc (.cells #[.int .i64 (p:Int)] 73)).cell? ⟨w.heap.size,0,none⟩=some (.int .i64 (p:Int)):=cell_at (k:=0) (heap_alloc_new w _);by_cases h5:p=5
 ·subst h5;go_enter Tryz.func365,Tryz.ntmps365
  go_wp2_with fail;go_ret;exact ⟨rfl,hNa⟩
 ·have hb:((p:Int) == 5)=false:=by rw [beq_eq_false_iff_ne];omega
  have hs:stV (p+1)=.iface 73 (.agg #[.int .i64 ((p:Int)+1)]):=by
   unfold stV;rw [if_neg (by omega),if_pos (by omega)];rfl
  rw [hs];have hpb:(p:Int)≤5:=by omega
  clear hs h5 hp;go_enter Tryz.func365,Tryz.ntmps365
  go_wp2_with fail;go_ret;exact ⟨rfl,hNa⟩
theorem fixedNext_any (w:World) (L:Int) (T:TypeId) (v:Value) :
  Calls Tryz.prog 367 #[.agg #[.int .i64 L,.iface T v]] w fun e w'=>e=.returned (.iface T v)∧Nw w w':=by
 have hNa:Nw w (w.alloc (.cells #[.int .i64 L,.iface T v] 77)):=(Nw.refl w).alloc' _;have k1:(w.alloc (.cells #[.int .i64 L,.iface T v] 77)).cell? ⟨w.heap.size,1,none⟩=some (.iface T v):=cell_at (k:=1) (heap_alloc_new w _);go_enter Tryz.func367,Tryz.ntmps367
 go_wp2_with fail;go_ret;exact ⟨rfl,hNa⟩
theorem doneNext_any (w:World) :
  Calls Tryz.prog 370 #[.agg #[]] w fun e w'=>e=.returned (stV 8)∧Nw w w':=by
 go_enter Tryz.func370,Tryz.ntmps370
 go_wp2_with fail;go_ret;exact ⟨rfl,(Nw.refl w).alloc' _⟩
end
section
open Go Go.RowKit Go.Lib
def PcS (W:World) (g:Nat) (A:Option Addr) (n c at_ p err:Nat) (cl:Bool):Prop :=
 W.heap[g]? = some (.cells #[.slice A n c,.int .i64 (at_:Int),.int .i64 (p:Int),stV p,.int .i64 (err:Int),.bool cl] 79 (0,0))
theorem PcS.nw {W W':World} {g n c at_ p err:Nat} {A:Option Addr} {cl:Bool} (h:PcS W g A n c at_ p err cl) (hN:Nw W W'):PcS W' g A n c at_ p err cl:=(hN.block _ (lt_of_block h)).trans h
theorem PcS.lt {W:World} {g n c at_ p err:Nat} {A:Option Addr} {cl:Bool} (h:PcS W g A n c at_ p err cl):g < W.heap.size:=lt_of_block h
theorem PcS.c0 {W:World} {g n c at_ p err:Nat} {A:Option Addr} {cl:Bool} (h:PcS W g A n c at_ p err cl):W.cell? ⟨g,0,none⟩=some (.slice A n c):=cell_at (k:=0) h
theorem PcS.c1 {W:World} {g n c at_ p err:Nat} {A:Option Addr} {cl:Bool} (h:PcS W g A n c at_ p err cl):W.cell? ⟨g,1,none⟩=some (.int .i64 (at_:Int)):=cell_at (k:=1) h
theorem PcS.c2 {W:World} {g n c at_ p err:Nat} {A:Option Addr} {cl:Bool} (h:PcS W g A n c at_ p err cl):W.cell? ⟨g,2,none⟩=some (.int .i64 (p:Int)):=cell_at (k:=2) h
theorem PcS.c3 {W:World} {g n c at_ p err:Nat} {A:Option Addr} {cl:Bool} (h:PcS W g A n c at_ p err cl):W.cell? ⟨g,3,none⟩=some (stV p):=cell_at (k:=3) h
theorem PcS.c4 {W:World} {g n c at_ p err:Nat} {A:Option Addr} {cl:Bool} (h:PcS W g A n c at_ p err cl):W.cell? ⟨g,4,none⟩=some (.int .i64 (err:Int)):=cell_at (k:=4) h
theorem PcS.c5 {W:World} {g n c at_ p err:Nat} {A:Option Addr} {cl:Bool} (h:PcS W g A n c at_ p err cl):W.cell? ⟨g,5,none⟩=some (.bool cl):=cell_at (k:=5) h
theorem PcS.free {W:World} {g n c at_ p err:Nat} {A:Option Addr} {cl:Bool} (h:PcS W g A n c at_ p err cl) (k:Nat):W.frozen? ⟨g,k,none⟩=false:=by simp [World.frozen?,show W.heap[g]? = _ from h]
theorem PcS.s0 {W:World} {g n c at_ p err:Nat} {A:Option Addr} {cl:Bool} (h:PcS W g A n c at_ p err cl) (A':Option Addr) (n' c':Nat):PcS (W.setCell ⟨g,0,none⟩ (.slice A' n' c')) g A' n' c' at_ p err cl:=by
 have:=set_at (k:=0) (.slice A' n' c') h;unfold PcS;simpa using this
theorem PcS.s4 {W:World} {g n c at_ p err:Nat} {A:Option Addr} {cl:Bool} (h:PcS W g A n c at_ p err cl) (x:Nat):PcS (W.setCell ⟨g,4,none⟩ (.int .i64 (x:Int))) g A n c at_ p x cl:=by
 have:=set_at (k:=4) (.int .i64 (x:Int)) h;unfold PcS;simpa using this
theorem PcS.s5 {W:World} {g n c at_ p err:Nat} {A:Option Addr} {cl:Bool} (h:PcS W g A n c at_ p err cl) (x:Bool):PcS (W.setCell ⟨g,5,none⟩ (.bool x)) g A n c at_ p err x:=by
 have:=set_at (k:=5) (.bool x) h;unfold PcS;simpa using this
theorem PcS.adv {W:World} {g n c at_ p err:Nat} {A:Option Addr} {cl:Bool} (h:PcS W g A n c at_ p err cl) (x q:Nat):PcS (((W.setCell ⟨g,1,none⟩ (.int .i64 (x:Int))).setCell ⟨g,3,none⟩ (stV q)).setCell ⟨g,2,none⟩ (.int .i64 (q:Int))) g A n c x q err cl:=by
 have:=set_at (k:=2) (.int .i64 (q:Int)) (set_at (k:=3) (stV q) (set_at (k:=1) (.int .i64 (x:Int)) h));unfold PcS;simpa using this
theorem nil_eqP (g:Nat) (W:World):(binOp .eql 25 (.pointer (some ⟨g,0,none⟩)) (.pointer none)).run Tryz.prog W=.ok (.bool false) W:=by kernel_rfl
theorem PNew_any (w:World) :
  Calls Tryz.prog 16 #[] w fun e w'=>e=.returned (.pointer (some ⟨w.heap.size,0,none⟩))∧PcS w' w.heap.size none 0 0 0 0 0 false∧Nw w w':=by
 go_enter Tryz.func16,Tryz.ntmps16
 go_wp2_with fail;go_ret;exact ⟨rfl,heap_alloc_new w _,(Nw.refl w).alloc' _⟩
theorem PLen_any (w:World) (g n c at_ p err:Nat) (A:Option Addr) (cl:Bool) (h:PcS w g A n c at_ p err cl) :
  Calls Tryz.prog 22 #[.pointer (some ⟨g,0,none⟩)] w fun e w'=>e=.returned (.int .i64 (n:Int))∧w=w':=by
 have c0:=h.c0;have hnil:=nil_eqP g;clear h;go_enter Tryz.func22,Tryz.ntmps22
 go_wp2_with fail;go_ret;exact ⟨rfl,rfl⟩
theorem PParts_any (w:World) (g n c at_ p err:Nat) (A:Option Addr) (cl:Bool) (h:PcS w g A n c at_ p err cl) :
  Calls Tryz.prog 23 #[.pointer (some ⟨g,0,none⟩)] w fun e w'=>e=.returned (.int .i64 (p:Int))∧w=w':=by
 have c2:=h.c2;have hnil:=nil_eqP g;clear h;go_enter Tryz.func23,Tryz.ntmps23
 go_wp2_with fail;go_ret;exact ⟨rfl,rfl⟩
theorem PErr_any (w:World) (g n c at_ p err:Nat) (A:Option Addr) (cl:Bool) (h:PcS w g A n c at_ p err cl) :
  Calls Tryz.prog 25 #[.pointer (some ⟨g,0,none⟩)] w fun e w'=>e=.returned (.int .i64 (err:Int))∧w=w':=by
 have c4:=h.c4;have hnil:=nil_eqP g;clear h;go_enter Tryz.func25,Tryz.ntmps25
 go_wp2_with fail;go_ret;exact ⟨rfl,rfl⟩
theorem st_any (p:Nat) (hp:p≤7):∃ (T:TypeId) (v:Value) (F K:FuncId) (d:Bool),stV p=.iface T v∧(d=true↔p=7)∧(∀ W:World,(Instr.typeAssert (.iface T v) 75 150 true).run Tryz.prog W=.ok (.tuple #[.agg #[],.bool d]) W) ∧
  (∀ args W,(callFunc F args).run Tryz.prog W=.ok (.enter F args) W)∧(∀ args W,(callFunc K args).run Tryz.prog W=.ok (.enter K args) W) ∧
  (∀ W:World,(method (Tryz.prog.types.size+Made.depth) T v "tsblock/piece.end").run Tryz.prog W=.ok (F,v) W)∧(∀ W:World,(method (Tryz.prog.types.size+Made.depth) T v "tsblock/piece.next").run Tryz.prog W=.ok (K,v) W) ∧
  (∀ (w:World) (b:Nat) (A:Option Addr) (n c at_:Nat) (xs:List Nat),n=xs.length→n≤c→n≤1000000000→Rd w b A (cN .u8 xs)→(∀ x∈xs,x < 256)→at_≤n →
   Calls Tryz.prog F #[v,.slice A n c,.int .i64 (at_:Int)] w fun e w'=>EndW (endQ p xs at_) e∧Nw w w') ∧
  (∀ w:World,Calls Tryz.prog K #[v] w fun e w'=>e=.returned (stV (p+1))∧Nw w w'):=by
 by_cases h0:p=0
 ·subst h0;refine ⟨_,_,366,367,false,rfl,(by simp),(fun _=>by kernel_rfl),enters_of Tryz.func366 (by kernel_rfl) rfl,enters_of Tryz.func367 (by kernel_rfl) rfl,fun _=>by kernel_rfl,fun _=>by kernel_rfl,?_,?_⟩
  ·intro w b A n c at_ xs hn hnc hm hr hx hat;subst hn;exact (fixedEnd_any w 5 _ A _ c at_ (by omega) hm hat)
  ·intro w;exact fixedNext_any w _ _ _
 ·by_cases h5:p≤5
  ·have hs:stV p=.iface 73 (.agg #[.int .i64 (p:Int)]):=by
    unfold stV;rw [if_neg h0,if_pos h5]
   refine ⟨_,_,364,365,false,hs,(by simp;omega),(fun _=>by kernel_rfl),enters_of Tryz.func364 (by kernel_rfl) rfl,enters_of Tryz.func365 (by kernel_rfl) rfl,fun _=>by kernel_rfl,fun _=>by kernel_rfl,?_,?_⟩
   ·intro w b A n c at_ xs hn hnc hm hr hx hat;exact frameEnd_any w p b A n c at_ xs ⟨by omega,h5⟩ hn hnc hm hr hx hat
   ·intro w;exact frameNext_any w p ⟨by omega,h5⟩
  ·by_cases h6:p=6
   ·subst h6;refine ⟨_,_,366,367,false,rfl,(by simp),(fun _=>by kernel_rfl),enters_of Tryz.func366 (by kernel_rfl) rfl,enters_of Tryz.func367 (by kernel_rfl) rfl,fun _=>by kernel_rfl,fun _=>by kernel_rfl,?_,?_⟩
    ·intro w b A n c at_ xs hn hnc hm hr hx hat;subst hn;exact (fixedEnd_any w 8 _ A _ c at_ (by omega) hm hat)
    ·intro w;exact fixedNext_any w _ _ _
   ·obtain rfl:p=7:=by omega
    refine ⟨_,_,369,370,true,rfl,(by simp),(fun _=>by kernel_rfl),enters_of Tryz.func369 (by kernel_rfl) rfl,enters_of Tryz.func370 (by kernel_rfl) rfl,fun _=>by kernel_rfl,fun _=>by kernel_rfl,?_,?_⟩
    ·intro w b A n c at_ xs hn hnc hm hr hx hat;exact doneEnd_any w A n c at_
    ·intro w;exact doneNext_any w
end
section
open Go Go.RowKit Go.Lib
def pOf (g:Nat) (W:World):Nat:=match W.cell? ⟨g,2,none⟩ with | some v=>(intOf v).toNat | none=>0
theorem pOf_at {W:World} {g n c at_ p err:Nat} {A:Option Addr} {cl:Bool} (h:PcS W g A n c at_ p err cl):pOf g W=p:=by
 unfold pOf;rw [h.c2];simp [intOf]
def AdvW (w w':World) (g:Nat) (A:Option Addr) (n c:Nat) (xs:List Nat) (cl:Bool):Prop :=
 ∃ at_ p,PcS w' g A n c at_ p (certP xs) cl∧at_≤n∧p=partsP xs∧p≤7∧Prs p (xs.take at_)∧Kp g g w w'
set_option maxRecDepth 100000 in
set_option maxHeartbeats 2000000 in
theorem PAdv_any (w:World) (g n c at_ p b:Nat) (A:Option Addr) (xs:List Nat) (cl:Bool) (h:PcS w g A n c at_ p 0 cl) (hat:at_≤n) (hp:p≤7) (hP:Prs p (xs.take at_)) (hn:n=xs.length) (hnc:n≤c) (hm:n≤1000000000) (hr:Rd w b A (cN .u8 xs)) (hb:b≠g) (hA:A=none→c=0) (hx:∀ x∈xs,x < 256) (hG:Gl w) (hg:3≤g) :
  Calls Tryz.prog 42 #[.pointer (some ⟨g,0,none⟩)] w fun e w'=>e=.returned (.tuple #[])∧AdvW w w' g A n c xs cl:=by
 have HP:=hid hP;have HR:=hid hr;have HX:=hid hx;have HG:=hid hG;have HA:=hid hA;have H:=hid h;clear hP hr hx hG hA h;go_enter Tryz.func42,Tryz.ntmps42
 go_wp2_with fail;go_loopw [2] (fun _ wr=>∃ at1 p1,PcS wr g A n c at1 p1 0 cl∧at1≤n∧p1≤7∧Hid (Prs p1 (xs.take at1))∧Hid (Kp g g w wr)) (fun _ wr=>8 - pOf g wr)
 case atStart=>exact ⟨at_,p,H.out,hat,hp,HP,hid (Kp.refl _ _ _)⟩
 case round =>
  obtain ⟨at1,p1,h1,hat1,hp1,HP1,HK⟩:=hrel;obtain ⟨T,v,F,K,d,hst,hd,hTA,hF,hK,hmF,hmK,hE,hNx⟩:=st_any p1 hp1;have H1:=hid h1;obtain ⟨X,hX⟩:∃ X,endQ p1 xs at1=X:=⟨_,rfl⟩;have H0:=hid fun (W:World) (hN:Nw wr W)=>show W.cell? ⟨g,0,none⟩=some (.slice A n c)∧W.cell? ⟨g,1,none⟩=some (.int .i64 (at1:Int))∧W.cell? ⟨g,3,none⟩=some (.iface T v) from ⟨(h1.nw hN).c0,(h1.nw hN).c1,hst ▸ (h1.nw hN).c3⟩
  have A1:Hid (∀ W,((W.cell? ⟨g,0,none⟩=some (.slice A n c)∧W.cell? ⟨g,1,none⟩=some (.int .i64 (at1:Int))∧W.cell? ⟨g,3,none⟩=some (.iface T v))∧Nw wr W)→Calls Tryz.prog F #[v,.slice A n c,.int .i64 (at1:Int)] W fun e w'=>EndW X e∧((w'.cell? ⟨g,0,none⟩=some (.slice A n c)∧w'.cell? ⟨g,1,none⟩=some (.int .i64 (at1:Int))∧w'.cell? ⟨g,3,none⟩=some (.iface T v))∧Nw wr w')):=hid fun W hS =>
   (hX ▸ hE W b A n c at1 xs hn hnc hm ((HR.out.kp HK.out hb hb).nw hS.2) HX.out hat1).mono fun e w' h=>⟨h.1,H0.out _ (hS.2.trans h.2),hS.2.trans h.2⟩
  have E0:Hid ((wr.cell? ⟨g,0,none⟩=some (.slice A n c)∧wr.cell? ⟨g,1,none⟩=some (.int .i64 (at1:Int))∧wr.cell? ⟨g,3,none⟩=some (.iface T v))∧Nw wr wr):=hid ⟨H0.out _ (Nw.refl _),Nw.refl _⟩;have HNx:=hid hNx;have HhX:=hid hX;have Hst:=hid hst;have Hd:=hid hd;have HN:=hid hn;clear hNx hE hX h1 hst hd hn;have hq:Tryz.prog.types.size+Made.depth=556:=by kernel_rfl
  rw [hq] at hmF hmK;clear hq;have HGr:=hid (HG.out.kp HK.out hg hg);cases X with
  | none =>
   have HC:Hid (∀ W,Nw wr W→Calls Tryz.prog 79 #[.slice A n c] W fun e w'=>e=.returned (.int .i64 (certP xs:Nat))∧Nw wr w'):=hid fun W hN =>
    (Certain_any W b A n c xs HN.out hnc hm ((HR.out.kp HK.out hb hb).nw hN) HA.out HX.out (HGr.out.nw hN)).mono fun e w' h=>⟨h.1,hN.trans h.2⟩
   go_wp2_with fail;go_region_held3 (fun w'=>(w'.cell? ⟨g,0,none⟩=some (.slice A n c)∧w'.cell? ⟨g,1,none⟩=some (.int .i64 (at1:Int))∧w'.cell? ⟨g,3,none⟩=some (.iface T v))∧Nw wr w')
    (first | exact ⟨H0.out _ (Nw.drew1 _),Nw.drew1 _⟩ | exact ⟨H0.out _ (Nw.drewN wr _),Nw.drewN wr _⟩ | exact E0.out | exact hS)
    (first
     | (refine (A1.out _ (by assumption)).mono ?_;rintro e w5 ⟨⟨t,rfl⟩,hS⟩))
   have hS0:=hS.1.1;have hS1:=hS.1.2.1;have hS3:=hS.1.2.2;have HN5:=hid hS.2;have H5:=hid (H1.out.nw hS.2);have hl5:=H5.out.lt;have f5:=H5.out.free 4;clear hS;cases d with
   | false =>
    go_wp2_with fail;go_quiet (fail)
    go_wp2_with fail;refine (HC.out _ ((HN5.out.alloc' _).drewN' nq)).mono ?_;rintro e w6 ⟨rfl,hN6⟩;have f6:=(H1.out.nw hN6).free 4;have e6:=(H1.out.nw hN6).c4;have HN6:=hid hN6;clear hN6;go_wp2_with fail;go_end0
    refine ⟨rfl,at1,p1,(H1.out.nw HN6.out).s4 _,hat1,?_,hp1,HP1.out,(HK.out.nw' HN6.out).setCell' (.inl rfl) _⟩;have hp6:p1≤6:=by have:=Hd.out;simp at this;omega
    exact (adv_none hp6 (HN.out ▸ hat1) HP1.out HhX.out).symm
   | true =>
    have hp7:p1=7:=Hd.out.1 rfl;by_cases hlt:at1 < n
    ·have hltI:decide ((at1:Int) < (n:Int))=true:=by rw [decide_eq_true_iff];omega
     have hltN:decide (at1 < n)=true:=by rw [decide_eq_true_iff];omega
     go_wp2_with fail;go_quiet (fail)
     go_wp2_with fail;refine (HC.out _ ((HN5.out.alloc' _).drewN' nq)).mono ?_;rintro e w6 ⟨rfl,hN6⟩;have f6:=(H1.out.nw hN6).free 4;have e6:=(H1.out.nw hN6).c4;have HN6:=hid hN6;clear hN6;go_wp2_with fail;go_end0
     refine ⟨rfl,at1,p1,(H1.out.nw HN6.out).s4 _,hat1,?_,hp1,HP1.out,(HK.out.nw' HN6.out).setCell' (.inl rfl) _⟩;subst hp7;exact (adv_done (HN.out ▸ hat1) HP1.out).1.symm
    ·have hltI:decide ((at1:Int) < (n:Int))=false:=by rw [decide_eq_false_iff_not];omega
     have hltN:decide (at1 < n)=false:=by rw [decide_eq_false_iff_not];omega
     go_wp2_with fail;go_quiet (fail)
     go_wp2_with fail;go_end0
     subst hp7;obtain ⟨q1,q2⟩:=adv_done (HN.out ▸ hat1) HP1.out;have q3:=q2 (by have:=HN.out;omega);refine ⟨rfl,at1,7,?_,hat1,q1.symm,hp1,HP1.out,HK.out.nw' ((HN5.out.alloc' _).drewN' nq)⟩;rw [q3];exact H1.out.nw ((HN5.out.alloc' _).drewN' nq)
  | some tq =>
   have hp6:p1≤6:=by
    by_cases h7:p1=7
    ·subst h7;have:=HhX.out;simp [endQ] at this
    ·omega
   obtain ⟨hlt,hle,hcb,hco⟩:=adv_some HX.out hp6 (HN.out ▸ hat1) HP1.out HhX.out;have htn:tq≤n:=by have:=HN.out;omega
   have hzl:(xs.take tq).length=tq:=by rw [List.length_take];omega
   obtain ⟨z,hz⟩:∃ z,certP (xs.take tq)=z:=⟨_,rfl⟩;have HC:Hid (∀ W,Nw wr W→Calls Tryz.prog 79 #[.slice A tq c] W fun e w'=>e=.returned (.int .i64 (z:Int))∧Nw wr w'):=hid fun W hN =>
    (hz ▸ Certain_any W b A tq c (xs.take tq) hzl.symm (by omega) (by omega) (by rw [cN,List.map_take];exact ((HR.out.kp HK.out hb hb).nw hN).take tq) HA.out (fun x hx=>HX.out x (List.mem_of_mem_take hx)) (HGr.out.nw hN)).mono fun e w' h=>⟨h.1,hN.trans h.2⟩
   obtain ⟨q,hq⟩:∃ q,p1+1=q:=⟨_,rfl⟩;have hqI:(p1:Int)+1=(q:Int):=by omega
   obtain ⟨T2,v2,F2,K2,d2,hst2,-⟩:=st_any q (by omega);have HNx2:Hid (∀ W,Nw wr W→Calls Tryz.prog K #[v] W fun e w'=>e=.returned (.iface T2 v2)∧Nw wr w'):=hid fun W hN=>(HNx.out W).mono fun e w' h=>⟨by rw [h.1,hq,hst2],hN.trans h.2⟩
   have Hst2:=hid hst2;have Hz:=hid hz;have Hlt:=hid hlt;have Hle:=hid hle;have Hq:=hid hq;have Hcb:=hid hcb;have Hco:=hid hco;clear hst2 hz hzl hlt hle hcb hco hq;have htI:¬ (tq:Int) < 0:=by omega
   go_wp2_with fail;go_region_held3 (fun w'=>(w'.cell? ⟨g,0,none⟩=some (.slice A n c)∧w'.cell? ⟨g,1,none⟩=some (.int .i64 (at1:Int))∧w'.cell? ⟨g,3,none⟩=some (.iface T v))∧Nw wr w')
    (first | exact ⟨H0.out _ (Nw.drew1 _),Nw.drew1 _⟩ | exact ⟨H0.out _ (Nw.drewN wr _),Nw.drewN wr _⟩ | exact E0.out | exact hS)
    (first
     | (refine (A1.out _ (by assumption)).mono ?_;rintro e w5 ⟨rfl,hS⟩))
   have hS0:=hS.1.1;have HN5:=hid hS.2;clear hS;by_cases h0:z=0
   ·subst h0;go_wp2_with fail;refine (HC.out _ HN5.out).mono ?_;rintro e w6 ⟨rfl,hN6⟩;have e63:w6.cell? ⟨g,3,none⟩=some (.iface T v):=Hst.out ▸ (H1.out.nw hN6).c3;have HN6:=hid hN6;clear hN6;go_wp2_with fail;refine (HNx2.out _ HN6.out).mono ?_;rintro e w7 ⟨rfl,hN7⟩;have e71:=(H1.out.nw hN7).c1;have e72:=(H1.out.nw hN7).c2;have e73:w7.cell? ⟨g,3,none⟩=some (.iface T v):=Hst.out ▸ (H1.out.nw hN7).c3;have f71:=(H1.out.nw hN7).free 1;have f72:=(H1.out.nw hN7).free 2;have f73:=(H1.out.nw hN7).free 3;have HN7:=hid hN7;clear hN7;go_wp2_with fail;go_roundw
    case rel =>
     have h9:=(H1.out.nw HN7.out).adv tq q;rw [Hst2.out] at h9;exact ⟨tq,q,h9,htn,by have:=Hq.out;omega,hid (Hq.out ▸ Hco.out Hz.out),hid ((((HK.out.nw' HN7.out).setCell' (.inl rfl) _).setCell' (.inl rfl) _).setCell' (.inl rfl) _)⟩
    case measure =>
     have h9:=(H1.out.nw HN7.out).adv tq q;rw [Hst2.out] at h9;rw [pOf_at h9,pOf_at H1.out];have:=Hq.out;omega
   ·have h0b:((z:Int) != 0)=true:=by rw [bne_iff_ne];omega
    go_wp2_with fail;refine (HC.out _ HN5.out).mono ?_;rintro e w6 ⟨rfl,hN6⟩;have f6:=(H1.out.nw hN6).free 4;have e6:=(H1.out.nw hN6).c4;have HN6:=hid hN6;clear hN6;go_wp2_with fail;refine bodyPost_ret (results_none rfl _ _ _) rfl ?_;have hzz:=Hz.out;have hcx:=certP_stays (bs:=xs.take tq) (by rw [hzz];exact h0) (xs.drop tq);rw [List.take_append_drop,hzz] at hcx;refine ⟨rfl,at1,p1,?_,hat1,(Hcb.out (by rw [hzz];exact h0)).symm,hp1,HP1.out,(HK.out.nw' HN6.out).setCell' (.inl rfl) _⟩;rw [hcx];exact (H1.out.nw HN6.out).s4 z
end
section
theorem cntS_ext (e:List Nat):∀ (k:Nat) (bs:List Nat) (acc:List (List Nat × Nat)) (r:List Nat) (j:Nat),restP bs k acc r=.error j→j≠3→cntS k (r++e)=cntS k r
 | 0,_,_,_,_,_,_=>rfl
 | k+1,bs,acc,r,j,h,hj=>by
  rw [restP] at h;have hE:=sect_ext (5 - k);cases hs:sectP (5 - k) r with
  | error i =>
   rw [hs] at h;have hij:i=j:=by injection h
   rw [cntS_succ_er hs,cntS_succ_er (hE.er hs (by omega) e)]
  | ok q =>
   obtain ⟨l,q⟩:=q;rw [hs] at h;rw [cntS_succ_ok hs,cntS_succ_ok (hE.ok hs e),cntS_ext e k bs _ q j h hj]
theorem partsP_stays {bs:List Nat} (h:certP bs≠0) (e:List Nat):partsP (bs++e)=partsP bs:=by
 cases hp:parseP bs with
 | ok s=>exact absurd (certP_ok hp) h
 | error k =>
  rw [certP_er hp] at h;have h3:k≠3:=by
   intro h3;rw [if_pos h3] at h;exact h rfl
  have hp2:=parse_same hp h3 e;unfold partsP;rw [hp,hp2];dsimp only;by_cases h4:k=4
  ·rw [if_pos h4,if_pos h4]
  ·rw [if_neg h4,if_neg h4];have hq:=hp;rw [parseP_rest] at hq;cases hl:litP hd0 bs with
   | error i =>
    rw [hl] at hq;have hik:i=k:=by injection hq
    rw [(litP_ext hd0).2.1 hl (by omega) e]
   | ok r =>
    rw [hl] at hq;rw [(litP_ext hd0).1 hl e];dsimp only;rw [cntS_ext e 5 bs [] r k hq h3]
end
section
open Go Go.RowKit Go.Lib
def Fed (W:World) (g own:Nat) (xs:List Nat) (cl:Bool):Prop :=
 ∃ A c at_ p,PcS W g A xs.length c at_ p (certP xs) cl∧Ow W own 5 1 A xs.length c (cN .u8 xs)∧own≠g∧at_≤xs.length∧p=partsP xs∧Prs p (xs.take at_)
theorem PFeed_closed (w:World) (g own:Nat) (xs:List Nat) (A:Option Addr) (n c:Nat) (h:Fed w g own xs true):Calls Tryz.prog 18 #[.pointer (some ⟨g,0,none⟩),.slice A n c] w fun e w'=>e=.returned (.int .i64 2)∧w=w':=by
 obtain ⟨A1,c1,at_,p,h,-⟩:=h;have c5:=h.c5;have hnil:=nil_eqP g;clear h;go_enter Tryz.func18,Tryz.ntmps18
 go_wp2_with fail;go_ret;exact ⟨rfl,rfl⟩
set_option maxRecDepth 100000 in
set_option maxHeartbeats 2000000 in
theorem PFeed_any (w:World) (g own b2:Nat) (xs ys:List Nat) (A2:Option Addr) (m c2:Nat) (h:Fed w g own xs false) (hr:Rd w b2 A2 (cN .u8 ys)) (hA2:A2=none→c2=0) (hm:m=ys.length) (hl:xs.length+ys.length≤1000000000) (hx:∀ x∈xs++ys,x < 256) (hG:Gl w) (hg:3≤g) (ho:3≤own) :
  Calls Tryz.prog 18 #[.pointer (some ⟨g,0,none⟩),.slice A2 m c2] w fun e w'=>e=.returned (.int .i64 0)∧∃ own',Fed w' g own' (xs++ys) false∧(own'=own∨w.heap.size≤own')∧Kp g own w w':=by
 obtain ⟨A,c,at_,p,h,hO,hne,hat,hp,hP⟩:=h;obtain ⟨n,hn⟩:∃ n,xs.length=n:=⟨_,rfl⟩;rw [hn] at h hO hat hl;have c0:=h.c0;have c5:=h.c5;have hnil:=nil_eqP g;have hgl:=h.lt;have HH:=hid h;have HO:=hid hO;have HR:=hid hr;have HX:=hid hx;have HG:=hid hG;have HP:=hid hP;have Hp:=hid hp;have HN:=hid hn;have HM:=hid hm;obtain ⟨z,hz⟩:∃ z,certP xs=z:=⟨_,rfl⟩;have Hz:=hid hz;rw [hz] at HH;rw [← hm] at hl;clear h hO hr hx hG hP hp hn hm hz;go_enter Tryz.func18,Tryz.ntmps18
 by_cases h0:z=0
 ·subst h0;go_wp2_with (at_builtin;refine wpList_app E_u8 rfl (.tmp 17) (.tmp 18) rfl rfl HO.out rfl HR.out (by rw [List.length_map,HM.out,Nat.mul_one]) hA2 (oc_N _ _) (by simp only [maxLen];omega) (by omega) ?_;intro b5 A5 c5' w5 q1 q2 q3 q4;have Q1:=hid q1;have Q2:=hid q2;have Q3:=hid q3;have H5:=hid (show PcS w5 g A n c at_ p 0 false from (q3.block g hgl (Ne.symm hne) (Ne.symm hne)).trans HH.out);clear q1 q2 q3 q4;have e50:=H5.out.c0;have f50:=H5.out.free 0;have e54:=H5.out.c4)
  go_wp2_with fail;have hbg:b5≠g:=by rcases Q2.out with h | h<;>omega
  have hKs:Kp g g w5 (w5.setCell ⟨g,0,none⟩ (.slice A5 (n+m) c5')):=(Kp.refl g g w5).setCell' (.inl rfl) _;have hOw:=Q1.out.kp hKs hbg hbg;rw [← List.map_append] at hOw;have hlen:n+m=(xs++ys).length:=by rw [List.length_append,HN.out,HM.out]
  have hAn:A5=none→c5'=0:=by
   intro h;rcases hOw with ⟨_,_,h2,_⟩ | ⟨h1,_⟩
   ·exact h2
   ·rw [h] at h1;cases h1
  refine (PAdv_any _ g (n+m) c5' at_ p b5 A5 (xs++ys) false (H5.out.s0 A5 (n+m) c5') (by omega) (by rw [Hp.out];exact partsP_le xs) (prs_more (by rw [HN.out];exact hat) HP.out) hlen hOw.cap.1 hl hOw.rd hbg hAn HX.out ((HG.out.kp Q3.out ho ho).kp hKs hg hg) hg).mono ?_;rintro e w6 ⟨rfl,at6,p6,h6,h6a,h6p,h67,h6P,h6K⟩;have H6:=hid h6;have H6K:=hid h6K;have H6P:=hid h6P;clear h6 h6K h6P;go_wp2_with fail;go_ret;rw [hlen] at H6 h6a;refine ⟨rfl,b5,⟨A5,c5',at6,p6,H6.out,?_,hbg,h6a,h6p,H6P.out⟩,Q2.out,?_⟩
  ·rw [← hlen];exact hOw.kp H6K.out hbg hbg
  ·have k1:Kp g own w w5:=(Kp.refl g own w).trans Q3.out (.inr (.inl rfl)) (.inr (.inl rfl));exact (k1.trans hKs (.inl rfl) (.inl rfl)).trans H6K.out (.inl rfl) (.inl rfl)
 ·have h0b:((z:Int) == 0)=false:=by rw [beq_eq_false_iff_ne];omega
  go_wp2_with (at_builtin;refine wpList_app E_u8 rfl (.tmp 17) (.tmp 18) rfl rfl HO.out rfl HR.out (by rw [List.length_map,HM.out,Nat.mul_one]) hA2 (oc_N _ _) (by simp only [maxLen];omega) (by omega) ?_;intro b5 A5 c5' w5 q1 q2 q3 q4;have Q1:=hid q1;have Q2:=hid q2;have Q3:=hid q3;have H5:=hid (show PcS w5 g A n c at_ p z false from (q3.block g hgl (Ne.symm hne) (Ne.symm hne)).trans HH.out);clear q1 q2 q3 q4;have e50:=H5.out.c0;have f50:=H5.out.free 0;have e54:=H5.out.c4)
  go_wp2_with fail;go_ret;have hbg:b5≠g:=by rcases Q2.out with h | h<;>omega
  have hKs:Kp g g w5 (w5.setCell ⟨g,0,none⟩ (.slice A5 (n+m) c5')):=(Kp.refl g g w5).setCell' (.inl rfl) _;have hOw:=Q1.out.kp hKs hbg hbg;rw [← List.map_append] at hOw;have hlen:n+m=(xs++ys).length:=by rw [List.length_append,HN.out,HM.out]
  have hzz:=Hz.out;have hcx:certP (xs++ys)=z:=(certP_stays (by rw [hzz];exact h0) ys).trans hzz;have hpp:partsP (xs++ys)=partsP xs:=partsP_stays (by rw [hzz];exact h0) ys;have h9:=H5.out.s0 A5 (n+m) c5';rw [hlen] at h9 hOw;refine ⟨rfl,b5,⟨A5,c5',at_,p,?_,?_,hbg,by omega,by rw [hpp];exact Hp.out,prs_more (by rw [HN.out];exact hat) HP.out⟩,Q2.out,?_⟩
  ·rw [hcx];rw [← hlen] at h9 ⊢;exact h9
  ·rw [← hlen] at hOw ⊢;exact hOw
  ·have k1:Kp g own w w5:=(Kp.refl g own w).trans Q3.out (.inr (.inl rfl)) (.inr (.inl rfl));exact k1.trans hKs (.inl rfl) (.inl rfl)
end
section
open Go Go.RowKit Go.Lib
set_option maxRecDepth 100000 in
theorem DecodeE_any (w:World) (b:Nat) (A:Option Addr) (n c:Nat) (xs:List Nat) (k:Nat) (hk:parseP xs=.error k) (hn:n=xs.length) (hnc:n≤c) (hm:n≤1000000000) (hr:Rd w b A (cN .u8 xs)) (hA:A=none→c=0) (hx:∀ x∈xs,x < 256) (hG:Gl w) :
  Calls Tryz.prog 32 #[.slice A n c] w fun e w'=>e=.returned (.tuple #[.slice none 0 0,.int .i64 (k:Int)])∧Nw w w':=by
 have HP:=hid (hk ▸ ParseL_any w b A n c xs hn hnc hm hr hA hx hG);have hP2:Calls Tryz.prog 53 #[.slice A n c] w (PrsW w (.error k)):=HP.out;have HP2:=hid hP2;clear HP hP2 hr hx hA hG hk hn hnc;go_enter Tryz.func32,Tryz.ntmps32
 go_wp2_with fail;refine HP2.out.mono ?_;rintro e w1 ⟨rfl,hk,hN⟩;have hkb:((k:Int) != 0)=true:=by rw [bne_iff_ne];omega
 have HNN:=hid hN;clear hN hk;go_wp2_with fail;go_ret2;exact ⟨rfl,(HNN.out.alloc' _)⟩
set_option maxRecDepth 100000 in
theorem PCloseE_any (w:World) (g own:Nat) (xs:List Nat) (cl:Bool) (k:Nat) (hk:parseP xs=.error k) (h:Fed w g own xs cl) (hm:xs.length≤1000000000) (hx:∀ x∈xs,x < 256) (hG:Gl w) (hg:3≤g) :
  Calls Tryz.prog 20 #[.pointer (some ⟨g,0,none⟩)] w fun e w'=>e=.returned (.tuple #[.slice none 0 0,.int .i64 (k:Int)])∧Fed w' g own xs true∧Kp g g w w':=by
 obtain ⟨A,c,at_,p,h,hO,hne,hat,hp,hP⟩:=h;have hKs:Kp g g w (w.setCell ⟨g,5,none⟩ (.bool true)):=(Kp.refl g g w).setCell' (.inl rfl) _;have hOw:=hO.kp hKs hne hne;have hAn:A=none→c=0:=by
  intro h;rcases hO with ⟨_,_,h2,_⟩ | ⟨h1,_⟩
  ·exact h2
  ·rw [h] at h1;cases h1
 have HD:=hid (DecodeE_any _ own A xs.length c xs k hk rfl hOw.cap.1 hm hOw.rd hAn hx (hG.kp hKs hg hg));have H:=hid h;have HF:=hid (show ∀ W,Nw (w.setCell ⟨g,5,none⟩ (.bool true)) W→Fed W g own xs true from fun W hN=>⟨A,c,at_,p,(h.s5 true).nw hN,hOw.nw hN,hne,hat,hp,hP⟩);have HK:=hid hKs;have c0:=h.c0;have c5:=h.c5;have f5:=h.free 5;have hnil:=nil_eqP g;obtain ⟨n,hn⟩:∃ n,xs.length=n:=⟨_,rfl⟩;rw [hn] at HD c0;clear hO hAn hOw hKs h hP hp hx hat hk hm hn;go_enter Tryz.func20,Tryz.ntmps20
 go_wp2_with fail;refine HD.out.mono ?_;rintro e w1 ⟨rfl,hN⟩;have HN:=hid hN;clear hN;go_wp2_with fail;go_ret2;exact ⟨rfl,HF.out _ HN.out,HK.out.nw' HN.out⟩
theorem Fed.new {W:World} {g:Nat} (h:PcS W g none 0 0 0 0 0 false) (own:Nat) (hne:own≠g):Fed W g own [] false :=
 ⟨none,0,0,0,h,Ow.nil _ _ _ _,hne,Nat.le_refl _,rfl,prs_nil []⟩
theorem PLenF_any (w:World) (g own:Nat) (xs:List Nat) (cl:Bool) (h:Fed w g own xs cl) :
  Calls Tryz.prog 22 #[.pointer (some ⟨g,0,none⟩)] w fun e w'=>e=.returned (.int .i64 (xs.length:Int))∧w=w':=by
 obtain ⟨A,c,at_,p,h,-⟩:=h;exact PLen_any w g _ _ _ _ _ _ _ h
theorem PPartsF_any (w:World) (g own:Nat) (xs:List Nat) (cl:Bool) (h:Fed w g own xs cl) :
  Calls Tryz.prog 23 #[.pointer (some ⟨g,0,none⟩)] w fun e w'=>e=.returned (.int .i64 (partsP xs:Nat))∧w=w':=by
 obtain ⟨A,c,at_,p,h,-,-,-,rfl,-⟩:=h;exact PParts_any w g _ _ _ _ _ _ _ h
theorem PErrF_any (w:World) (g own:Nat) (xs:List Nat) (cl:Bool) (h:Fed w g own xs cl) :
  Calls Tryz.prog 25 #[.pointer (some ⟨g,0,none⟩)] w fun e w'=>e=.returned (.int .i64 (certP xs:Nat))∧w=w':=by
 obtain ⟨A,c,at_,p,h,-⟩:=h;exact PErr_any w g _ _ _ _ _ _ _ h
end
section
open Go Go.RowKit Go.Lib Go.Sort Go.Shelf
def GotX (X:Except Nat (List BVal)) (e:Ending) (w':World):Prop:=∃ W,BlkGot W X e w'
set_option maxRecDepth 100000 in
theorem PClose_of (HSec:SecsC) (w:World) (g own:Nat) (xs:List Nat) (cl:Bool) (h:Fed w g own xs cl) (hm:xs.length≤1000000000) (hx:∀ x∈xs,x < 256) (hD:DecNum xs) (hG:Gl w) (hg:3≤g) :
  Calls Tryz.prog 20 #[.pointer (some ⟨g,0,none⟩)] w fun e w'=>GotX (decP xs) e w'∧Fed w' g own xs true∧Kp g g w w':=by
 obtain ⟨A,c,at_,p,h,hO,hne,hat,hp,hP⟩:=h;have hKs:Kp g g w (w.setCell ⟨g,5,none⟩ (.bool true)):=(Kp.refl g g w).setCell' (.inl rfl) _;have hOw:=hO.kp hKs hne hne;have hAn:A=none→c=0:=by
  intro h;rcases hO with ⟨_,_,h2,_⟩ | ⟨h1,_⟩
  ·exact h2
  ·rw [h] at h1;cases h1
 have HD:=hid (PDec18_of HSec _ own A xs.length c xs rfl hOw.cap.1 hm hOw.rd hAn hx hD (hG.kp hKs hg hg));have H:=hid h;have HF:=hid (show ∀ W,Nw (w.setCell ⟨g,5,none⟩ (.bool true)) W→Fed W g own xs true from fun W hN=>⟨A,c,at_,p,(h.s5 true).nw hN,hOw.nw hN,hne,hat,hp,hP⟩);have HK:=hid hKs;have c0:=h.c0;have c5:=h.c5;have f5:=h.free 5;have hnil:=nil_eqP g;obtain ⟨P,hPe⟩:∃ P,decP xs=P:=⟨_,rfl⟩;rw [hPe] at HD ⊢;obtain ⟨n,hn⟩:∃ n,xs.length=n:=⟨_,rfl⟩;rw [hn] at HD c0;clear hO hAn hOw hKs h hP hp hx hat hm hn hPe HSec hD;go_enter Tryz.func20,Tryz.ntmps20
 go_wp2_with fail;refine HD.out.mono ?_;rintro e w1 hB;have HB:=hid hB;obtain ⟨hN,hX⟩:=hB;have HN:=hid hN;clear hN;cases P with
 | error k =>
  obtain ⟨rfl,hk⟩:=hX;clear hk;go_wp2_with fail;go_ret2;exact ⟨⟨_,HB.out⟩,HF.out _ HN.out,HK.out.nw' HN.out⟩
 | ok B =>
  obtain ⟨l,bo,Ao,co,rfl,hI,hv,hs,hl,hL⟩:=hX;clear hI hv hs hl hL;go_wp2_with fail;go_ret2;exact ⟨⟨_,HB.out⟩,HF.out _ HN.out,HK.out.nw' HN.out⟩
end
section
open Go Go.RowKit Go.Lib
theorem endP_not13 {bs r:List Nat} {s:Secs}:endP bs s r≠.error 13:=by
 intro h;unfold endP at h;split at h
 ·injection h with h;omega
 ·split at h
  ·injection h with h;omega
  ·cases hq:litP [75,66,83,84] (r.drop 4) with
   | error k =>
    rw [hq] at h;injection h with h
    have:=(litP_ext _).2.2 hq;omega
   | ok q =>
    rw [hq,xb_ok] at h;split at h
    ·cases h
    ·injection h with h;omega
theorem prs_parts {p at_:Nat} {b:List Nat} (hle:at_≤b.length) (hp:p≤7) (hP:Prs p (b.take at_)):p≤partsP b:=by
 by_cases h7:p=7
 ·subst h7;rw [(adv_done hle hP).1];exact Nat.le_refl _
 by_cases h0:p=0
 ·omega
 have hs:=(prs_split hle).1;cases hq:parseP b with
 | ok s =>
  have:partsP b=7:=by unfold partsP;rw [hq]
  omega
 | error k =>
  by_cases h4:k=4
  ·have:partsP b=7:=by unfold partsP;rw [hq];dsimp only;rw [if_pos h4]
   omega
  ·by_cases h5:p≤5
   ·unfold Prs at hP;rw [if_neg h0,if_pos h5] at hP;obtain ⟨acc,h⟩:=hP;obtain ⟨⟨r,hl,hc⟩,_⟩:=h (b.drop at_);rw [← hs] at hl;rw [partsP_of hq h4 hl];split<;>omega
   ·have h6:p=6:=by omega
    unfold Prs at hP;rw [if_neg h0,if_neg h5,if_pos h6] at hP;obtain ⟨s,h⟩:=hP;obtain ⟨⟨r,hl,hc⟩,he⟩:=h (b.drop at_);rw [← hs] at hl he;rw [partsP_of hq h4 hl,if_neg,hc]
    ·omega
    ·rintro ⟨_,rfl⟩;rw [he] at hq;exact endP_not13 hq
theorem Fed.mono {W:World} {g own:Nat} {xs:List Nat} {cl:Bool} (h:Fed W g own xs cl) (e:List Nat):partsP xs≤partsP (xs++e):=by
 obtain ⟨A,c,at_,p,_,_,_,hat,rfl,hP⟩:=h;exact prs_parts (by rw [List.length_append];omega) (partsP_le xs) (prs_more hat hP)
end
section
open Go Go.RowKit Go.Lib
theorem Fed.nw {W W':World} {g own:Nat} {xs:List Nat} {cl:Bool} (h:Fed W g own xs cl) (hN:Nw W W'):Fed W' g own xs cl:=by
 obtain ⟨A,c,a,p,h,hO,r⟩:=h;exact ⟨A,c,a,p,h.nw hN,hO.nw hN,r⟩
theorem par5:parseP [84,83,66,75,1]=.error 3:=by rfl
theorem rd_mark (w:World) (cs:Array Value) (q:Nat × Nat):Rd (w.alloc (.cells cs 5 q)) w.heap.size (some ⟨w.heap.size,0,none⟩) cs.toList:=by
 refine .inr ⟨0,rfl,by rw [World.size_alloc];omega,fun j v h=>?_⟩;have hb:=heap_alloc_new w (.cells cs 5 q);rw [Nat.zero_add];simp only [World.cell?,hb];simpa using h
set_option maxRecDepth 100000 in
set_option maxHeartbeats 2000000 in
theorem alive19_any (w:World) (hG:Gl w):Calls Tryz.prog 15 #[] w fun e w'=>e=.returned (.bool true)∧Nw w w':=by
 have HG:=hid hG;have hnil:=nil_eqP w.heap.size;have kc1:∀ W:World,(convert 22 22 (.slice (some ⟨W.heap.size,0,none⟩) 1 1)).run Tryz.prog (W.alloc (.cells #[.int .u8 84] 5))=.ok (.slice (some ⟨W.heap.size,0,none⟩) 1 1) (W.alloc (.cells #[.int .u8 84] 5 (1,2))):=fun W=>Lib.run_convert_bytes_const (P:=Tryz.prog) W 22 5 #[.int .u8 84] 1 1 Tryz.underlying22 Tryz.underlying5
 have kc4:∀ W:World,(convert 22 22 (.slice (some ⟨W.heap.size,0,none⟩) 4 4)).run Tryz.prog (W.alloc (.cells #[.int .u8 83,.int .u8 66,.int .u8 75,.int .u8 1] 5))=.ok (.slice (some ⟨W.heap.size,0,none⟩) 4 4) (W.alloc (.cells #[.int .u8 83,.int .u8 66,.int .u8 75,.int .u8 1] 5 (4,5))):=fun W=>Lib.run_convert_bytes_const (P:=Tryz.prog) W 22 5 #[.int .u8 83,.int .u8 66,.int .u8 75,.int .u8 1] 4 4 Tryz.underlying22 Tryz.underlying5
 clear hG;go_enter Tryz.func15,Tryz.ntmps15
 go_wp2_with fail;refine (PNew_any w).mono ?_;rintro e w1 ⟨rfl,h1,hN1⟩;have H1:=hid (Fed.new h1 (w.heap.size+1) (by omega));have HN1:=hid hN1;clear h1 hN1;go_wp2_with fail;have hg:=HG.out.lt;have hA1:Nw w1 (w1.alloc (.cells #[.int .u8 84] 5 (1,2))):=(Nw.refl w1).alloc' _;refine (PFeed_any _ w.heap.size (w.heap.size+1) w1.heap.size [] [84] (some ⟨w1.heap.size,0,none⟩) 1 1 (H1.out.nw hA1) (rd_mark w1 #[.int .u8 84] (1,2)) (by intro h;cases h) rfl (by decide) (by decide) ((HG.out.nw HN1.out).nw hA1) (by omega) (by omega)).mono ?_;rintro e w2 ⟨rfl,own2,h2,ho2,hK2⟩;have H2:=hid h2;have hN2:Nw w w2:=Kp.nw (HN1.out.trans hA1) hK2 (Nat.le_refl _) (by omega);have HN2:=hid hN2;have ho2':w.heap.size≤own2:=by
  have:=HN1.out.size;rcases ho2 with h | h
  ·omega
  ·simp only [World.size_alloc] at h;omega
 clear h2 hK2 hN2 hA1 ho2;go_wp2_with fail;have hA2:Nw w2 (w2.alloc (.cells #[.int .u8 83,.int .u8 66,.int .u8 75,.int .u8 1] 5 (4,5))):=(Nw.refl w2).alloc' _;refine (PFeed_any _ w.heap.size own2 w2.heap.size [84] [83,66,75,1] (some ⟨w2.heap.size,0,none⟩) 4 4 (H2.out.nw hA2) (rd_mark w2 #[.int .u8 83,.int .u8 66,.int .u8 75,.int .u8 1] (4,5)) (by intro h;cases h) rfl (by decide) (by decide) ((HG.out.nw HN2.out).nw hA2) (by omega) (by omega)).mono ?_;rintro e w3 ⟨rfl,own3,h3,ho3,hK3⟩;have H3:=hid h3;have hN3:Nw w w3:=Kp.nw (HN2.out.trans hA2) hK3 (Nat.le_refl _) ho2';have HN3:=hid hN3;have ho3':w.heap.size≤own3:=by
  have:=HN2.out.size;rcases ho3 with h | h
  ·omega
  ·simp only [World.size_alloc] at h;omega
 clear h3 hK3 hN3 hA2 ho3 kc1 kc4;go_wp2_with fail;refine (PLenF_any w3 w.heap.size own3 _ false H3.out).mono ?_;rintro e w4 ⟨rfl,rfl⟩;go_wp2_with fail;refine (PPartsF_any w3 w.heap.size own3 _ false H3.out).mono ?_;rintro e w4 ⟨rfl,rfl⟩;have h51:((partsP ([84]++[83,66,75,1]):Nat):Int)=1:=by rfl
 rw [h51];go_wp2_with fail;refine (PCloseE_any w3 w.heap.size own3 _ false 3 par5 H3.out (by decide) (by decide) (HG.out.nw HN3.out) (by omega)).mono ?_;rintro e w4 ⟨rfl,h4,hK4⟩;have H4:=hid h4;have HN4:=hid (Kp.nw HN3.out hK4 (Nat.le_refl _) (Nat.le_refl _));clear h4 hK4;go_wp2_with fail;refine (PFeed_closed w4 w.heap.size own3 _ none 0 0 H4.out).mono ?_;rintro e w5 ⟨rfl,rfl⟩;go_wp2_with fail;go_ret;exact ⟨rfl,HN4.out⟩
end
section
open Go Go.RowKit Go.Lib Go.Sort Go.Shelf
structure CutS where
 l:List Nat
 A:Option Addr
 c:Nat
def CutS.cell (s:CutS):Value:=.slice s.A s.l.length s.c
def InCut (W:World) (b:Nat) (s:CutS):Prop:=Rd W b s.A (cN .u8 s.l)∧(s.A=none→s.c=0)∧s.l.length≤s.c
def CutsW (w:World) (b:Nat) (xs:List Nat) (e:Ending) (w':World):Prop :=
 Nw w w'∧∃ (ss:List CutS) (bo:Nat) (Ao:Option Addr) (co:Nat),e=.returned (.slice Ao ss.length co)∧OwN w w' bo 22 1 Ao ss.length co (ss.map CutS.cell)∧(ss.map (·.l)).flatten=xs∧(∀ s∈ss,InCut w b s)∧ss.length≤21
theorem InCut.nw {W W':World} {b:Nat} {s:CutS} (h:InCut W b s) (hN:Nw W W'):InCut W' b s:=⟨h.1.nw hN,h.2⟩
theorem E_byts:ElemT Tryz.prog 27 22 (.slice none 0 0) 1 24:=ElemT.mk' Tryz.underlying27 (by kernel_rfl) rfl (by omega)
theorem bytes_of {w:World} {a:Option Addr} {len cap:Nat} {zs:List Int} (h:IsRow .u16 w a len cap zs):∃ b xs,InRow .u16 w b a len cap xs∧∀ x∈xs,x < 65536:=by
 obtain ⟨b,xs,h⟩:=InRow.of h fun z hz=>(bounds_u16 hz).1
 exact ⟨b,xs,h,fun x hx=>by have:=(bounds_u16 (h.wf x hx)).2;omega⟩
structure DatN (w:World) (b:Nat) (A:Option Addr) (q c:Nat) (d:List Nat):Prop where
 rd:Rd w b A (cN .u8 d)
 len:q=d.length
 cap:q≤c
 nil:A=none→c=0
 max:q≤6000
theorem DatN.cut {w:World} {b q c:Nat} {A:Option Addr} {d:List Nat} (h:DatN w b A q c d) (n:Nat) (hn:n≤q):DatN w b (if c=n then A else A.map (·.add n)) (q - n) (c - n) (d.drop n):=by
 have h1:=h.rd.cut (k:=n) (cap:=c) (size:=1) (by rw [List.length_map,← h.len,Nat.mul_one];exact h.cap);refine ⟨?_,by rw [List.length_drop,← h.len],by have:=h.cap;omega,fun e=>?_,by have:=h.max;omega⟩
 ·rw [Nat.mul_one] at h1;unfold cN at h1 ⊢;rw [List.map_drop];exact h1
 ·by_cases q0:c=n
  ·omega
  ·rw [if_neg q0,Option.map_eq_none_iff] at e;have:=h.nil e;omega
theorem DatN.take {w:World} {b q c:Nat} {A:Option Addr} {d:List Nat} (h:DatN w b A q c d) (n:Nat) (hn:n≤q):InCut w b ⟨d.take n,A,c⟩∧(CutS.cell ⟨d.take n,A,c⟩=.slice A n c):=by
 have hl:(d.take n).length=n:=by rw [List.length_take,← h.len];omega
 refine ⟨⟨?_,h.nil,?_⟩,?_⟩
 ·have:=h.rd.take n;unfold cN at this ⊢;rw [List.map_take];exact this
 ·show (d.take n).length≤c
  have:=h.cap;omega
 ·show Value.slice A (d.take n).length c=_
  rw [hl]
set_option maxRecDepth 100000 in
set_option maxHeartbeats 1600000 in
theorem Cuts_any (w:World) (b n c bt nt ct:Nat) (A At:Option Addr) (xs ks:List Nat) (hD:DatN w b A n c xs) (hrt:Rd w bt At (cN .u16 ks)) (hnt:nt=ks.length) (hnct:nt≤ct) (hk:∀ x∈ks,x < 65536) :
  Calls Tryz.prog 17 #[.slice A n c,.slice At nt ct] w (CutsW w b xs):=by
 obtain ⟨M,hM⟩:∃ M,min nt 20=M:=⟨_,rfl⟩;have hmin:min (nt:Int) 20=(M:Int):=by omega
 have hMct:(M:Int)≤(ct:Int):=by omega
 have hM20:M≤20:=by omega
 have HD:=hid hD;have HT:=hid hrt;have HK:=hid hk;have HM:Hid (M≤ks.length):=hid (by omega);clear hD hrt hk hM hnt hnct;go_enter Tryz.func17,Tryz.ntmps17
 go_wp2_with fail;go_loopw [0,5,15] (fun dv ov iv wr=>∃ (i:Nat) (d:List Nat) (Ad:Option Addr) (q cq:Nat) (ss:List CutS) (bo:Nat) (Ao:Option Addr) (co:Nat),i≤M∧iv=.int .i64 (i:Int)∧dv=.slice Ad q cq∧ov=.slice Ao i co∧Hid (ss.length=i)∧Hid (DatN w b Ad q cq d)∧Hid ((ss.map (·.l)).flatten++d=xs)∧Hid (∀ s∈ss,InCut w b s)∧Hid (OwN w wr bo 22 1 Ao i co (ss.map CutS.cell))∧Hid (Nw w wr)) (fun _ _ iv _=>M - (intOf iv).toNat)
 case atStart=>exact ⟨0,xs,A,n,c,[],0,none,0,Nat.zero_le _,rfl,rfl,rfl,hid rfl,HD,hid rfl,hid (fun s hs=>(by cases hs)),hid (OwN.nil _ _ _ _ _),hid (Nw.refl _)⟩
 case round =>
  clear HD;obtain ⟨i,d,Ad,q,cq,ss,bo,Ao,co,hi,rfl,rfl,rfl,HL,HD,HF,HI,HO,HN⟩:=hrel;have hcq:=HD.out.cap;have hq6:=HD.out.max;by_cases hlt:i < M
  ·have hltI:(i:Int) < (M:Int):=by omega
   have hik:i < ks.length:=by have:=HM.out;omega
   obtain ⟨o,rfl,_,hc⟩:=(HT.out.nw HN.out).get (k:=i) (by unfold cN;rw [List.length_map];exact hik);unfold cN at hc;rw [List.getElem_map] at hc;have hk6:=HK.out _ (List.getElem_mem hik);generalize ks[i]=k at *;obtain ⟨Q1,hQ1⟩:∃ Q1,q+1=Q1:=⟨_,rfl⟩;have hQI:(q:Int)+1=(Q1:Int):=by omega
   obtain ⟨m,hm⟩:∃ m,k % Q1=m:=⟨_,rfl⟩;have hmq:m≤q:=by have:=Nat.mod_lt k (show Q1 > 0 by omega);omega
   have hrem:Int.tmod (k:Int) (Q1:Int)=(m:Int):=by rw [← hm];exact (Int.ofNat_tmod k Q1).symm
   have hQ0:¬ (Q1:Int)=0:=by omega
   have hmcI:(m:Int)≤(cq:Int):=by omega
   have hmqI:(m:Int)≤(q:Int):=by omega
   have HC:=hid (HD.out.cut m hmq);have HTk:=hid (HD.out.take m hmq);clear hm hik hlt hQ1;go_wp2_with (at_builtin;refine wpList_appL E_byts rfl (.tmp 25) (.tmp 29) rfl rfl HO.out HN.out.size rfl rfl (by simp [Value.oneCell']) (by omega) (by omega) ?_;intro b5 A5 c5 w5 q1 q2 q3;have Q1:=hid q1;have Q2:=hid q2;clear q1 q2 q3)
   go_wp2_with fail;go_roundw
   case rel=>exact ⟨i+1,d.drop m,_,q - m,cq - m,ss++[⟨d.take m,Ad,cq⟩],b5,A5,c5,by omega,by go_num,rfl,rfl,hid (by rw [List.length_append,HL.out];rfl),HC,hid (by rw [← HF.out,List.map_append,List.flatten_append];simp [List.take_append_drop]),hid (fun s hs=>by
    rcases List.mem_append.1 hs with hs | hs
    ·exact HI.out s hs
    ·rw [List.mem_singleton] at hs;rw [hs];exact HTk.out.1),hid (by rw [List.map_append,List.map_cons,List.map_nil,HTk.out.2];exact Q1.out),hid (HN.out.up Q2.out)⟩
   case measure=>simp [intOf];omega
  ·obtain rfl:i=M:=by omega
   have hnl:¬ (i:Int) < (i:Int):=by omega
   go_wp2_with (at_builtin;refine wpList_appL E_byts rfl (.tmp 35) (.tmp 37) rfl rfl HO.out HN.out.size rfl rfl (by simp [Value.oneCell']) (by omega) (by omega) ?_;intro b5 A5 c5 w5 q1 q2 q3;have Q1:=hid q1;have Q2:=hid q2;clear q1 q2 q3)
   go_wp2_with fail;go_ret;have hl:=HL.out;have hT:=HD.out.take q (Nat.le_refl _);rw [List.take_of_length_le (by rw [HD.out.len];exact Nat.le_refl _)] at hT;refine ⟨HN.out.up Q2.out,ss++[⟨d,Ad,cq⟩],b5,A5,c5,?_,?_,?_,?_,?_⟩
   ·rw [List.length_append,hl];rfl
   ·have:=Q1.out;rw [List.length_append,hl,List.map_append,List.map_cons,List.map_nil,hT.2];exact this
   ·rw [List.map_append,List.flatten_append];simpa using HF.out
   ·intro s hs;rcases List.mem_append.1 hs with hs | hs
    ·exact HI.out s hs
    ·rw [List.mem_singleton] at hs;rw [hs];exact hT.1
   ·rw [List.length_append,hl];simp;omega
end
section
open Go Go.RowKit Go.Lib Go.Sort Go.Shelf
theorem Kp.past {g own:Nat} {w2 W W':World} (h:Kp g g w2 W) (hk:Kp g own W W') (ho:w2.heap.size≤own):Kp g g w2 W' :=
 ⟨hk.os.trans h.os,hk.tape.trans h.tape,hk.output.trans h.output,Nat.le_trans h.size hk.size,fun k h1 h2 h3=>(hk.block k (Nat.lt_of_lt_of_le h1 h.size) h2 (by omega)).trans (h.block k h1 h2 h3)⟩
theorem rd_ne {w:World} {b:Nat} {A:Option Addr} {xs:List Value} (g:Nat) (h:Rd w b A xs) (hb:A=none∨g < b):∃ b',b'≠g∧Rd w b' A xs:=by
 rcases hb with rfl | hb
 ·rcases h with rfl | ⟨o,e,_⟩
  ·exact ⟨g+1,by omega,Rd.nil _ _ _⟩
  ·cases e
 ·exact ⟨b,by omega,h⟩
theorem rd_ne2 {w:World} {b:Nat} {A:Option Addr} {xs:List Value} (h:Rd w b A xs):∃ b',b'≠w.heap.size∧Rd w b' A xs:=by
 rcases h with rfl | ⟨o,rfl,h2,h3⟩
 ·exact ⟨w.heap.size+1,by omega,Rd.nil _ _ _⟩
 ·exact ⟨b,by omega,.inr ⟨o,rfl,h2,h3⟩⟩
end
section
open Go Go.RowKit Go.Lib Go.Sort Go.Shelf
set_option maxRecDepth 100000 in
set_option maxHeartbeats 2000000 in
theorem PieceStays_of (HSec:SecsC) (w:World) (b0 n c bt nt ct:Nat) (A At:Option Addr) (xs ks:List Nat) (hr0:Rd w b0 A (cN .u8 xs)) (hn:n=xs.length) (hnc:n≤c) (hA:A=none→c=0) (hx:∀ x∈xs,x < 256) (hrt:Rd w bt At (cN .u16 ks)) (hnt:nt=ks.length) (hnct:nt≤ct) (hk:∀ x∈ks,x < 65536) (hG:Gl w) :
  Calls Tryz.prog 5 #[.slice A n c,.slice At nt ct] w fun e w'=>e=.returned (.bool true)∧Nw w w':=by
 have HG:=hid hG;have HSe:=hid HSec;clear HSec;obtain ⟨b,hbg,hr⟩:=rd_ne2 hr0;clear hr0;by_cases hl:6000 < n
 ·have hlI:(6000:Int) < (n:Int):=by omega
  clear hG hr hn hnc hA hx hrt hnt hnct hk hl;go_enter Tryz.func5,Tryz.ntmps5
  go_wp2_with fail;refine (alive19_any w HG.out).mono ?_;rintro e w1 ⟨rfl,hN⟩;have HN:=hid hN;clear hN;go_wp2_with fail;go_ret;exact ⟨rfl,HN.out⟩
 ·have hlI:¬ (6000:Int) < (n:Int):=by omega
  have HD:Hid (DatN w b A n c xs):=hid ⟨hr,hn,hnc,hA,by omega⟩;have HX:=hid hx;have HT:=hid (And.intro hrt (And.intro hnt (And.intro hnct hk)));have hnil:=nil_eqP w.heap.size;have HBg:=hid hbg;clear hG hr hn hnc hA hx hrt hnt hnct hk hl hbg;go_enter Tryz.func5,Tryz.ntmps5
  go_wp2_with fail;refine (PNew_any w).mono ?_;rintro e w1 ⟨rfl,h1,hN1⟩;have H1:=hid h1;have HN1:=hid hN1;clear h1 hN1;go_wp2_with fail;have HD1:DatN w1 b A n c xs:=⟨HD.out.rd.nw HN1.out,HD.out.len,HD.out.cap,HD.out.nil,HD.out.max⟩;refine (Cuts_any w1 b n c bt nt ct A At xs ks HD1 (HT.out.1.nw HN1.out) HT.out.2.1 HT.out.2.2.1 HT.out.2.2.2).mono ?_;rintro e w2 ⟨hN2,ss,bo,Ao,co,rfl,hO,hfl,hin,hs21⟩;have hgl:=H1.out.lt;have hs12:=hN2.size;have HF0:Hid (Fed w2 w.heap.size w2.heap.size [] false):=hid (Fed.new (H1.out.nw hN2) w2.heap.size (by omega));have HN2:=hid (HN1.out.trans hN2);have HIn:=hid fun s hs=>(hin s hs).nw hN2
  have HFl:=hid hfl;obtain ⟨b2,hb2,hO2⟩:=rd_ne w.heap.size hO.1.rd (hO.2.imp id fun h=>by omega);have HO:=hid fun (W:World) (hK:Kp w.heap.size w.heap.size w2 W)=>hO2.kp hK hb2 hb2
  have HGl:=hid hgl;obtain ⟨g,hg⟩:∃ g,w.heap.size=g:=⟨_,rfl⟩;rw [hg] at hnil HF0 HO;have Hg:=hid hg;clear hN2 hO hfl hin hO2 hb2 HD1 H1 hgl hs12 HT;go_wp2_with fail;clear hg;go_loopw [6,7,23] (fun pv ev iv wr=>∃ (i own:Nat) (ys:List Nat),i≤ss.length∧iv=.int .i64 (i:Int)∧pv=.int .i64 (partsP ys:Nat)∧ev=.int .i64 (certP ys:Nat)∧w2.heap.size≤own∧Hid (ys=((ss.take i).map (·.l)).flatten)∧Hid (Fed wr g own ys false)∧Hid (Kp g g w2 wr)) (fun _ _ iv _=>ss.length - (intOf iv).toNat)
  case atStart=>exact ⟨0,w2.heap.size,[],Nat.zero_le _,rfl,rfl,rfl,Nat.le_refl _,hid rfl,HF0,hid (Kp.refl _ _ _)⟩
  case round =>
   clear HF0;obtain ⟨i,own,ys,hi,rfl,rfl,rfl,hown,HY,HF,HK⟩:=hrel;have HNr:Hid (Nw w wr):=hid (Kp.nw HN2.out HK.out (by rw [Hg.out];exact Nat.le_refl _) (by rw [Hg.out];exact Nat.le_refl _));by_cases hlt:i < ss.length
   ·have hltI:(i:Int) < (ss.length:Int):=by omega
    obtain ⟨o,rfl,_,hc⟩:=(HO.out wr HK.out).get (k:=i) (by rw [List.length_map];exact hlt);rw [List.getElem_map] at hc;have HIs:=hid (HIn.out _ (List.getElem_mem hlt));have hfl:ys++ss[i].l=((ss.take (i+1)).map (·.l)).flatten:=by
     rw [List.take_succ_eq_append_getElem hlt,List.map_append,List.flatten_append,HY.out];simp
    have hpre:∃ r,xs=(ys++ss[i].l)++r:=⟨((ss.drop (i+1)).map (·.l)).flatten,by rw [hfl,← List.flatten_append,← List.map_append,List.take_append_drop,HFl.out]⟩;have HFl1:=hid hfl;have hmo:=HF.out.mono ss[i].l;have hst:=fun h=>certP_stays (bs:=ys) h ss[i].l
    generalize ss[i]=s at *;obtain ⟨l,Al,cl⟩:=s;unfold CutS.cell at hc;dsimp only at hc hfl hpre HFl1 hmo hst;obtain ⟨zs,hzs⟩:∃ zs,ys++l=zs:=⟨_,rfl⟩;rw [hzs] at hpre HFl1 hmo hst;have HMo:=hid hmo;have HSt:=hid hst;clear hmo hst;obtain ⟨r,hr⟩:=hpre;obtain ⟨N1,hN1⟩:∃ N1,zs.length=N1:=⟨_,rfl⟩;have hzl:ys.length+l.length=N1:=by rw [← hN1,← hzs,List.length_append]
    have hNn:N1≤n:=by rw [HD.out.len,hr,List.length_append];omega
    have h6:=HD.out.max;have hcap:=HD.out.cap;have hsum:(ys.length:Int)+(l.length:Int)=(N1:Int):=by omega
    have hNc:(N1:Int)≤(c:Int):=by omega
    have htk:xs.take N1=zs:=by rw [hr,← hN1,List.take_left]
    have hzb:∀ x∈zs,x < 256:=fun x hx=>HX.out x (by rw [hr];exact List.mem_append.2 (.inl hx))
    have HGr:=HG.out.nw HNr.out;have hGN:=HG.out.lt;have HFd:=hid (PFeed_any wr g own b ys l Al l.length cl HF.out (HIs.out.1.kp HK.out (by rw [← Hg.out];exact HBg.out) (by rw [← Hg.out];exact HBg.out)) HIs.out.2.1 rfl (by omega) (by rw [hzs];exact hzb) HGr (by rw [← Hg.out];exact hGN) (by have:=HN2.out.size;omega));rw [hzs] at HFd;have HRd:Hid (∀ W,Nw w W→Rd W b A (cN .u8 zs)):=hid fun W hN=>by
     have:=(HD.out.rd.nw hN).take N1;unfold cN at this ⊢;rw [← htk,List.map_take];exact this
    have HZ:=hid (And.intro hN1.symm (And.intro hzb (And.intro hNn hcap)));clear hfl hzs hr hzl htk hzb hN1 HGr hlt hNn hcap;go_wp2_with fail;refine HFd.out.mono ?_;rintro e w5 ⟨rfl,own',hF5,ho5,hK5⟩;have hK6:=HK.out.past hK5 hown;have hNw5:Nw w w5:=Kp.nw HN2.out hK6 (by rw [Hg.out];exact Nat.le_refl _) (by rw [Hg.out];exact Nat.le_refl _);have HF5:=hid hF5;have HK6:=hid hK6;have ho6:w2.heap.size≤own':=by
     rcases ho5 with h | h
     ·omega
     ·have:=HK.out.size;omega
    have HN5:=hid hNw5;obtain ⟨q2,hq2⟩:∃ q,partsP zs=q:=⟨_,rfl⟩;obtain ⟨z2,hz2⟩:∃ z,certP zs=z:=⟨_,rfl⟩;have A2:Hid (∀ W,Nw w5 W→Calls Tryz.prog 23 #[.pointer (some ⟨g,0,none⟩)] W fun e w'=>e=.returned (.int .i64 (q2:Int))∧W=w'):=hid fun W hN=>(PPartsF_any W g own' zs false (hF5.nw hN)).mono fun e w' h=>⟨by rw [h.1,hq2],h.2⟩
    have A3:Hid (∀ W,Nw w5 W→Calls Tryz.prog 25 #[.pointer (some ⟨g,0,none⟩)] W fun e w'=>e=.returned (.int .i64 (z2:Int))∧W=w'):=hid fun W hN=>(PErrF_any W g own' zs false (hF5.nw hN)).mono fun e w' h=>⟨by rw [h.1,hz2],h.2⟩
    have hqq:=HMo.out;have hzz:=HSt.out;have hq7:=partsP_le zs;rw [hq2] at hqq hq7;rw [hz2] at hzz;have HQ2:=hid (And.intro hq2 hz2);generalize partsP ys=q at *;generalize certP ys=z at *;have f1:¬ (q2:Int) < (q:Int):=by omega
    have f2:¬ (7:Int) < (q2:Int):=by omega
    have d1:decide ((q2:Int) < (q:Int))=false:=decide_eq_false f1;have d2:decide ((7:Int) < (q2:Int))=false:=decide_eq_false f2;clear hF5 ho5 hK5 hK6 hNw5 hq2 hz2 HFd HF HK hqq hq7;by_cases hz0:z=0
    ·have f3:((z:Int) != 0)=false:=by rw [bne_eq_false_iff_eq];omega
     clear hzz hz0;go_wp2_with (first
      | (go_at_call 23;refine (A2.out _ (Nw.refl _)).mono ?_;rintro e w6 ⟨rfl,rfl⟩)
      | (go_at_call 25;refine (A3.out _ (Nw.refl _)).mono ?_;rintro e w6 ⟨rfl,rfl⟩))
     go_roundw
     case rel=>exact ⟨i+1,own',zs,by omega,by go_num,by rw [HQ2.out.1],by rw [HQ2.out.2],ho6,HFl1,HF5,HK6⟩
     case measure=>simp [intOf];omega
    ·have f3:((z:Int) != 0)=true:=by rw [bne_iff_ne];omega
     have f4:((z2:Int) != (z:Int))=false:=by rw [bne_eq_false_iff_eq,hzz hz0]
     clear hzz hz0;go_wp2_with (first
      | (go_at_call 23;refine (A2.out _ (Nw.refl _)).mono ?_;rintro e w6 ⟨rfl,rfl⟩)
      | (go_at_call 25;refine (A3.out _ (Nw.refl _)).mono ?_;rintro e w6 ⟨rfl,rfl⟩))
     go_roundw
     case rel=>exact ⟨i+1,own',zs,by omega,by go_num,by rw [HQ2.out.1],by rw [HQ2.out.2],ho6,HFl1,HF5,HK6⟩
     case measure=>simp [intOf];omega
   ·obtain rfl:i=ss.length:=by omega
    have hnl:¬ (ss.length:Int) < (ss.length:Int):=by omega
    have hys:ys=xs:=by rw [HY.out,List.take_length,HFl.out]
    subst hys;have hm6:=HD.out.max;have hln:=HD.out.len;have HC:=hid (PClose_of HSe.out wr g own ys false HF.out (by omega) HX.out (decNum_short HX.out (by omega)) (HG.out.nw HNr.out) (by rw [← Hg.out];exact HG.out.lt));obtain ⟨D,hD⟩:∃ D,decP ys=D:=⟨_,rfl⟩;have HDc:Hid (certP ys≠0→D=.error (certP ys)):=hid fun h=>by
     rw [← hD];unfold decP;cases hq:parseP ys with
     | ok s=>rw [certP_ok hq] at h;exact (h rfl).elim
     | error k =>
      have h1:=certP_er hq;by_cases h3:k=3
      ·rw [h1,if_pos h3] at h;exact (h rfl).elim
      ·rw [h1,if_neg h3];rfl
    rw [hD] at HC;obtain ⟨q,hq⟩:∃ q,partsP ys=q:=⟨_,rfl⟩;obtain ⟨z,hz⟩:∃ z,certP ys=z:=⟨_,rfl⟩;rw [hz] at HDc;rw [hq,hz];clear hD HF hz hm6 hln;go_wp2_with fail;refine HC.out.mono ?_;rintro e w3 ⟨⟨W,hB⟩,hF3,hK3⟩;have HF3:=hid hF3;have HN3:=hid (Kp.nw HNr.out hK3 (by rw [Hg.out];exact Nat.le_refl _) (by rw [Hg.out];exact Nat.le_refl _));obtain ⟨_,hX⟩:=hB;clear hF3 hK3 HC;cases D with
    | error k =>
     obtain ⟨rfl,hk⟩:=hX;by_cases hz0:z=0
     ·have f1:((z:Int) == 0)=true:=by rw [beq_iff_eq];omega
      clear hz0 hk;go_wp2_with fail;refine (alive19_any w3 (HG.out.nw HN3.out)).mono ?_;rintro e w4 ⟨rfl,hN4⟩;have HN4:=hid hN4;clear hN4;go_wp2_with fail;refine (PPartsF_any w4 g own ys true (HF3.out.nw HN4.out)).mono ?_;rintro e w5 ⟨rfl,rfl⟩;rw [hq];go_wp2_with fail;go_ret;exact ⟨rfl,HN3.out.trans HN4.out⟩
     ·have f1:((z:Int) == 0)=false:=by rw [beq_eq_false_iff_ne];omega
      have hkz:k=z:=by
       have:=HDc.out hz0;injection this
      have f2:((k:Int) == (z:Int))=true:=by rw [beq_iff_eq,hkz]
      clear hz0 hk hkz;go_wp2_with fail;refine (alive19_any w3 (HG.out.nw HN3.out)).mono ?_;rintro e w4 ⟨rfl,hN4⟩;have HN4:=hid hN4;clear hN4;go_wp2_with fail;refine (PPartsF_any w4 g own ys true (HF3.out.nw HN4.out)).mono ?_;rintro e w5 ⟨rfl,rfl⟩;rw [hq];go_wp2_with fail;go_ret;exact ⟨rfl,HN3.out.trans HN4.out⟩
    | ok B =>
     obtain ⟨l,bo2,Ao2,co2,rfl,hI,hv,hs,hl,hL⟩:=hX;have hz0:z=0:=Classical.byContradiction fun h=>by
      have:=HDc.out h;cases this
     have f1:((z:Int) == 0)=true:=by rw [beq_iff_eq];omega
     clear hI hv hs hl hL hz0;go_wp2_with fail;refine (alive19_any w3 (HG.out.nw HN3.out)).mono ?_;rintro e w4 ⟨rfl,hN4⟩;have HN4:=hid hN4;clear hN4;go_wp2_with fail;refine (PPartsF_any w4 g own ys true (HF3.out.nw HN4.out)).mono ?_;rintro e w5 ⟨rfl,rfl⟩;rw [hq];go_wp2_with fail;go_ret;exact ⟨rfl,HN3.out.trans HN4.out⟩
end
section
open Go Go.RowKit Go.Lib Go.Sort Go.Shelf
open Go.ChangeMaps (setBlock heap_setBlock_same heap_setBlock_other)
theorem str_law:Go.WideMaps.KeyLaw Tryz.prog 9:=Go.WideMaps.string_law str_und
theorem maps_und:Tryz.prog.underlying 190=some (.map 9 4):=by kernel_rfl
def SOk (s:ByteArray):Prop:=s.size≤maxLen
theorem str_keyOf (s:ByteArray) (h:SOk s):∃ l,keyOf Tryz.prog 9 (.string s)=some l:=⟨_,Go.WideMaps.keyOf_string_mk str_und h⟩
def entS (i:Nat) (s:ByteArray):MapEntry:=⟨.string s,.bool true,i⟩
def entsS (l:List ByteArray):Array MapEntry:=(l.mapIdx entS).toArray
theorem entsS_get (l:List ByteArray) (j:Nat):(entsS l).toList[j]? = l[j]?.map (entS j):=by simp [entsS,List.getElem?_mapIdx]
theorem entsS_push (l:List ByteArray) (s:ByteArray):entsS (l++[s])=(entsS l).push (entS l.length s):=by
 unfold entsS;rw [List.mapIdx_append];simp
theorem entsS_keys {l:List ByteArray} (hl:∀ s∈l,SOk s):∀ e∈(entsS l).toList,∃ k,keyOf Tryz.prog 9 e.key=some k:=by
 intro e he;obtain ⟨j,hj⟩:=List.getElem?_of_mem he;rw [entsS_get] at hj;obtain ⟨p,hp,rfl⟩:=Option.map_eq_some_iff.1 hj;exact str_keyOf p (hl p (List.mem_of_getElem? hp))
theorem findS_new {l:List ByteArray} (hl:∀ s∈l,SOk s) {x:ByteArray} (hx:SOk x) (hn:x ∉ l) (w:World):(Instr.findKey 9 (.string x) (entsS l).toList).run Tryz.prog w=.ok none w:=by
 obtain ⟨k,hk⟩:=str_keyOf x hx;rcases str_law.find w hk _ (entsS_keys hl) with ⟨h,_⟩ | ⟨j,e,_,h2,h3⟩
 ·exact h
 ·rw [entsS_get] at h2;obtain ⟨p,hp,rfl⟩:=Option.map_eq_some_iff.1 h2;have h4:p=x:=Value.string.inj h3;exact (hn (h4 ▸ List.mem_of_getElem? hp)).elim
theorem findS_old {l:List ByteArray} (hl:∀ s∈l,SOk s) {x:ByteArray} (hx:SOk x) (hm:x∈l) (w:World):∃ j:Nat,l[j]? = some x∧(Instr.findKey 9 (.string x) (entsS l).toList).run Tryz.prog w=.ok (some (j,.bool true)) w:=by
 obtain ⟨k,hk⟩:=str_keyOf x hx;rcases str_law.find w hk _ (entsS_keys hl) with ⟨_,h⟩ | ⟨i,e,h1,h2,h3⟩
 ·obtain ⟨j,hj⟩:=List.getElem?_of_mem hm;refine (h (entS j x) (List.mem_of_getElem? (i:=j) ?_) rfl).elim;rw [entsS_get,hj];rfl
 ·rw [entsS_get] at h2;obtain ⟨p,hp,rfl⟩:=Option.map_eq_some_iff.1 h2;have h4:p=x:=Value.string.inj h3;exact ⟨i,by rw [hp,h4],h1⟩
theorem has_iff {l:List ByteArray} {s:ByteArray}:hasS l s=true↔s∈l:=by
 unfold hasS;rw [List.any_eq_true];constructor
 ·rintro ⟨x,hx,h⟩;rw [← bytes_ext (of_decide_eq_true h)];exact hx
 ·exact fun h=>⟨s,h,decide_eq_true rfl⟩
def addS (l:List ByteArray) (s:ByteArray):List ByteArray:=if hasS l s=true then l else l++[s]
theorem addS_mem {l:List ByteArray} {s x:ByteArray}:x∈addS l s↔x∈l∨x=s:=by
 unfold addS;by_cases h:hasS l s=true
 ·rw [if_pos h];exact ⟨.inl,fun q=>q.elim id fun e=>e ▸ has_iff.1 h⟩
 ·rw [if_neg h];simp
theorem run_putS {w:World} {b:Nat} {l:List ByteArray} (hb:w.heap[b]? = some (.map (entsS l) l.length)) (hl:∀ s∈l,SOk s) {x:ByteArray} (hx:SOk x) :
  (Instr.mapUpdate 190 (.map (some b)) (.string x) (.bool true)).run Tryz.prog w=.ok () (setBlock w b (.map (entsS (addS l x)) (addS l x).length)):=by
 obtain ⟨k,hk⟩:=str_keyOf x hx;unfold addS;by_cases hh:hasS l x=true
 ·rw [if_pos hh];obtain ⟨j,hj,hf⟩:=findS_old hl hx (has_iff.1 hh) w;have he:(entsS l).toList[j]? = some (entS j x):=by rw [entsS_get,hj];rfl
  have hj2:(entsS l)[j]? = some (entS j x):=by simpa using he
  have hsame:(entsS l).modify j (fun e=>{ e with key:=.string x,val:=.bool true })=entsS l:=by
   apply Array.ext'
   rw [Array.toList_modify,Go.ChangeMaps.modify_eq_set _ _ _ _ he];exact WideElems.set_self _ _ _ he
  simp [Instr.mapUpdate,run_underlying maps_und,MapKept.run_getObj_map hb,str_law.check w false hk,hf,hj2,entS,str_law.stays w hk,hsame,MapKept.run_setObj_map _ hb,Result.andThen,setBlock]
 ·rw [if_neg hh,entsS_push];have hm:x ∉ l:=fun q=>hh (has_iff.2 q)
  simp [Instr.mapUpdate,run_underlying maps_und,MapKept.run_getObj_map hb,str_law.check w false hk,findS_new hl hx hm,MapKept.run_setObj_map _ hb,Result.andThen,setBlock,entS]
theorem run_hasS {w:World} {b:Nat} {l:List ByteArray} (hb:w.heap[b]? = some (.map (entsS l) l.length)) (hl:∀ s∈l,SOk s) {x:ByteArray} (hx:SOk x) :
  (Instr.lookup 190 (.map (some b)) (.string x) false).run Tryz.prog w=.ok (.bool (hasS l x)) w:=by
 obtain ⟨k,hk⟩:=str_keyOf x hx;have hz:∀ W:World,(zeroValue 4).run Tryz.prog W=.ok (.bool false) W:=fun W=>by first | exact Tryz.zeroValue4 W | kernel_rfl
 cases hh:hasS l x with
 | true =>
  obtain ⟨j,hj,hf⟩:=findS_old hl hx (has_iff.1 hh) w;simp [Instr.lookup,run_underlying maps_und,MapKept.run_getObj_map hb,str_law.check w _ hk,hf,Result.andThen]
 | false =>
  have hm:x ∉ l:=fun q=>by rw [has_iff.2 q] at hh;cases hh
  simp [Instr.lookup,run_underlying maps_und,MapKept.run_getObj_map hb,str_law.check w _ hk,findS_new hl hx hm,hz,Result.andThen]
end
end Go.Proofs.YtmmonehfnfbpbaaGreatDoor
