/- Laws that the last text builds on. -/
import Derived.Test.YticphebaflnedaaGreatDoorD1
namespace Go.Proofs.YticphebaflnedaaGreatDoor
open Go.Lib(hid)
section
open Go Go.RowKit
theorem u32_and_nat (a b:Nat) (ha:a < 4294967296) (hb:b < 4294967296):bits .and .u32 (a:Int) (b:Int)=((a &&& b:Nat):Int):=by
 have h:bits .and .u32 (a:Int) (b:Int)=IntKind.u32.wrap (BitVec.ofInt 32 a &&& BitVec.ofInt 32 b).toNat:=rfl;rw [h,BitVec.toNat_and,BitVec.ofInt_natCast,BitVec.ofInt_natCast,BitVec.toNat_ofNat,BitVec.toNat_ofNat,show (2:Nat) ^ 32=4294967296 from rfl,Nat.mod_eq_of_lt ha,Nat.mod_eq_of_lt hb];have:a &&& b≤a:=Nat.and_le_left;rw [IntWalk.u32_in _ (by omega)]
theorem u32_xor_nat (a b:Nat) (ha:a < 4294967296) (hb:b < 4294967296):bits .xor .u32 (a:Int) (b:Int)=((a ^^^ b:Nat):Int):=by
 have h:bits .xor .u32 (a:Int) (b:Int)=IntKind.u32.wrap (BitVec.ofInt 32 a ^^^ BitVec.ofInt 32 b).toNat:=rfl;rw [h,BitVec.toNat_xor,BitVec.ofInt_natCast,BitVec.ofInt_natCast,BitVec.toNat_ofNat,BitVec.toNat_ofNat,show (2:Nat) ^ 32=4294967296 from rfl,Nat.mod_eq_of_lt ha,Nat.mod_eq_of_lt hb];have:=xor_lt32 ha hb;rw [IntWalk.u32_in _ (by omega)]
theorem and15 (a:Nat):a &&& 15=a % 16:=Nat.and_two_pow_sub_one_eq_mod a 4
theorem half_byte {w:World} (hG:Gl w) (t:Nat) (ht:t < 4294967296):∃ v:Nat,v < 4294967296∧w.cell? ⟨1,t % 16,none⟩=some (.int .u32 (v:Int))∧bits .xor .u32 (v:Int) ((t:Int) / 16)=((bstep4 t:Nat):Int):=by
 have h16:t % 16 < 16:=by omega
 have hc:=ctab_eq (t % 16) h16;have hg:ctab[t % 16]? = some (bstep4 (t % 16)):=by
  rw [hc,List.getD_eq_getElem?_getD];have:t % 16 < ctab.length:=by show t % 16 < 16;exact h16
  rw [List.getElem?_eq_getElem this];rfl
 have hv:bstep4 (t % 16) < 4294967296:=bstep4_lt (by omega);refine ⟨bstep4 (t % 16),hv,hG.crc _ _ (by rw [List.getElem?_map,hg];rfl),?_⟩;rw [show (t:Int) / 16=((t / 16:Nat):Int) by omega,u32_xor_nat _ _ hv (by omega),← bstep4_tab]
set_option maxRecDepth 100000 in
theorem Update_any (w:World) (s b:Nat) (A:Option Addr) (n c:Nat) (l:List Nat) (hn:n=l.length) (hm:n≤1000000000000) (hr:Rd w b A (cN .u8 l)) (hl:∀ x∈l,x < 256) (hs:s < 4294967296) (hG:Gl w) :
  Calls Tryz.prog 265 #[.int .u32 (s:Int),.slice A n c] w fun e w'=>e=.returned (.int .u32 (crcU s l:Nat))∧w=w':=by
 subst hn;have HR:=hid hr;have HL:=hid hl;have HG:=hid hG;have HS:=hid hs;clear hr hl hG hs;go_enter Tryz.func265,Tryz.ntmps265
 go_wp2
 go_loop [0,9] (fun v i=>∃ k S:Nat,k≤l.length∧i=.int .i64 k∧v=.int .u32 (S:Int)∧Hid (S < 4294967296)∧Hid (S=crcU s (l.take k))) (fun _ i=>l.length - (intOf i).toNat)
 case atStart=>exact ⟨0,s,by omega,rfl,rfl,HS,hid rfl⟩
 case round =>
  obtain ⟨k,S,hk,rfl,rfl,HS2,HE⟩:=hrel;by_cases hlt:k < l.length
  ·have hltI:(k:Int) < (l.length:Int):=by omega
   obtain ⟨o,rfl,_,hc⟩:=HR.out.get (k:=k) (by simpa using hlt);rw [List.getElem_map] at hc;have hxl:=HL.out l[k] (List.getElem_mem hlt);have HT:=hid (show crcU s (l.take (k+1))=cstep (crcU s (l.take k)) l[k] from by rw [List.take_succ_eq_append_getElem hlt,crcU_snoc]);generalize l[k]=x at *;have ht:S ^^^ x < 4294967296:=xor_lt32 HS2.out (by omega);have x1:=u32_xor_nat S x HS2.out (by omega);obtain ⟨T,hT⟩:∃ T,S ^^^ x=T:=⟨_,rfl⟩;rw [hT] at x1 ht;have a1:bits .and .u32 (T:Int) 15=((T % 16:Nat):Int):=(u32_and_nat T 15 ht (by omega)).trans (by rw [and15]);obtain ⟨v1,hv1,c1,y1⟩:=half_byte HG.out T ht;have ht2:=bstep4_lt ht;obtain ⟨U,hU⟩:∃ U,bstep4 T=U:=⟨_,rfl⟩;rw [hU] at y1 ht2;have a2:bits .and .u32 (U:Int) 15=((U % 16:Nat):Int):=(u32_and_nat U 15 ht2 (by omega)).trans (by rw [and15]);obtain ⟨v2,hv2,c2,y2⟩:=half_byte HG.out U ht2;have ht3:=bstep4_lt ht2;obtain ⟨Z,hZ⟩:∃ Z,bstep4 U=Z:=⟨_,rfl⟩;rw [hZ] at y2 ht3;have HZ:=hid (show Z=cstep S x from by rw [← hZ,← hU,← hT];rfl);have HZ3:=hid ht3;have hT16:T % 16 < 16:=by omega
   have hU16:U % 16 < 16:=by omega
   obtain ⟨i1,hi1⟩:∃ i,T % 16=i:=⟨_,rfl⟩;obtain ⟨i2,hi2⟩:∃ i,U % 16=i:=⟨_,rfl⟩;rw [hi1] at a1 c1 hT16;rw [hi2] at a2 c2 hU16;have d1:IntKind.u32.wrap ((x:Int))=(x:Int):=IntWalk.u32_in _ (by omega);clear ht3 hZ hU hT hi1 hi2;go_wp2
   go_round
   case rel=>exact ⟨k+1,Z,by omega,by go_num,rfl,HZ3,hid (by rw [HT.out,← HE.out,HZ.out])⟩
   case measure=>simp [intOf];omega
  ·obtain rfl:k=l.length:=by omega
   go_wp2;go_ret;refine ⟨?_,rfl⟩;rw [HE.out,List.take_length];rfl
set_option maxRecDepth 100000 in
theorem Sum_any (w:World) (b:Nat) (A:Option Addr) (n c:Nat) (l:List Nat) (hn:n=l.length) (hm:n≤1000000000000) (hr:Rd w b A (cN .u8 l)) (hl:∀ x∈l,x < 256) (hG:Gl w) :
  Calls Tryz.prog 193 #[.slice A n c] w fun e w'=>e=.returned (.int .u32 (crc l:Nat))∧w=w':=by
 have HU:=hid (Update_any w 4294967295 b A n c l hn hm hr hl (by omega) hG);have hlt:=crcU_lt l 4294967295 (by omega) hl;have HC:=hid (show crc l=4294967295 - crcU 4294967295 l from rfl);obtain ⟨U,hU⟩:∃ U,crcU 4294967295 l=U:=⟨_,rfl⟩;rw [hU] at HU HC hlt;have HLT:=hid hlt;clear hn hm hr hl hG hU hlt;go_enter Tryz.func193,Tryz.ntmps193
 go_wp2_with (go_at_call 265;refine HU.out.mono ?_;rintro e w1 ⟨rfl,hw⟩;subst hw)
 go_ret;have hx:bits .xor .u32 IntKind.u32.max (U:Int)=((4294967295 - U:Nat):Int):=by
  rw [show IntKind.u32.max=((4294967295:Nat):Int) from rfl,u32_xor_nat _ _ (by omega) HLT.out,Nat.xor_comm,xor_ones HLT.out]
 refine ⟨?_,rfl⟩;rw [HC.out,← hx];rfl
theorem sum4_cells (l:List Nat) (C:Nat):cN .u8 (l++sum4 C)=cN .u8 l++[.int .u8 ((C:Int) % 256),.int .u8 ((C:Int) / 256 % 256),.int .u8 ((C:Int) / 65536 % 256),.int .u8 ((C:Int) / 16777216 % 256)]:=by
 unfold cN sum4;rw [List.map_append];rfl
set_option maxRecDepth 100000 in
set_option maxHeartbeats 1000000 in
theorem CrcAppend_any (w:World) (b:Nat) (A:Option Addr) (n c:Nat) (l:List Nat) (hn:n=l.length) (hm:n≤100000000000) (hr:Rd w b A (cN .u8 l)) (hnil:A=none→c=0) (hl:∀ x∈l,x < 256) (hG:Gl w) :
  Calls Tryz.prog 122 #[.slice A n c] w (NewB w (addCrc l)):=by
 have HS:=hid fun W (hN:Nw w W)=>Sum_any W b A n c l hn (by omega) (hr.nw hN) hl (hG.nw hN)
 have HR:=hid fun W (hN:Nw w W)=>hr.nw hN
 have HA:=hid (show addCrc l=l++sum4 (crc l) from rfl);have hC:=crc_lt l;have HL:=hid hn;obtain ⟨C,hC2⟩:∃ C,crc l=C:=⟨_,rfl⟩;rw [hC2] at HS HA hC;have e0:IntKind.u8.wrap (C:Int)=((C % 256:Nat):Int):=by rw [IntKind.wrap_u8];omega
 have e1:IntKind.u8.wrap ((C:Int) / 256)=((C / 256 % 256:Nat):Int):=by rw [IntKind.wrap_u8];omega
 have e2:IntKind.u8.wrap ((C:Int) / 65536)=((C / 65536 % 256:Nat):Int):=by rw [IntKind.wrap_u8];omega
 have e3:IntKind.u8.wrap ((C:Int) / 16777216)=((C / 16777216 % 256:Nat):Int):=by rw [IntKind.wrap_u8];omega
 clear hC2 hn hl hG hr;have hN0:Nw w (w.alloc (.cells #[] 5)):=(Nw.refl w).alloc' _;go_enter Tryz.func122,Tryz.ntmps122
 go_wp2_with (first
  | (go_at_call 193;refine (HS.out _ hN1).mono ?_;rintro e w2 ⟨rfl,hw⟩;subst hw)
  | (at_builtin;refine wpList_app E_u8 rfl (.tmp 6) (.tmp 7) rfl rfl (Ow.empty w 5 1) rfl (HR.out _ hN0) (by rw [List.length_map,HL.out,Nat.mul_one]) hnil (by intro v hv;obtain ⟨y,_,rfl⟩:=List.mem_map.1 hv;rfl) (by simp only [maxLen];omega) (by omega) ?_;intro g1 A1 c1 w1 q1 q2 q3 q4;have hN1:Nw w w1:=Kp.nw hN0 q3 (Nat.le_refl _) (Nat.le_refl _);rw [Nat.zero_add,List.nil_append] at q1;have Q1:=hid q1;have hg1:w.heap.size≤g1:=(by rcases q2 with h | h;exact Nat.le_of_eq h.symm;have:=hN0.size;omega);clear q1 q2 q3 q4))
 refine wp_loop_rounds 5 ?_;rw [rounds_succ];go_wp2_with (at_builtin;refine wpList_app1 E_u8 rfl (.tmp 14) (.tmp 20) rfl rfl Q1.out (u:=.int .u8 ((C:Int) % 256)) rfl rfl (by omega) (by omega) ?_;intro g2 A2 c2 w2 q1 q2 q3 q4;have hN2:Nw w w2:=Kp.nw hN1 q3 hg1 hg1;have hg2:w.heap.size≤g2:=(by have:=hN1.size;omega);have Q2:=hid q1;clear q1 q2 q3 q4 Q1)
 rw [rounds_succ];go_wp2_with (at_builtin;refine wpList_app1 E_u8 rfl (.tmp 14) (.tmp 20) rfl rfl Q2.out (u:=.int .u8 ((C:Int) / 256 % 256)) rfl rfl (by omega) (by omega) ?_;intro g3 A3 c3 w3 q1 q2 q3 q4;have hN3:Nw w w3:=Kp.nw hN2 q3 hg2 hg2;have hg3:w.heap.size≤g3:=(by have:=hN2.size;omega);have Q3:=hid q1;clear q1 q2 q3 q4 Q2)
 rw [rounds_succ];go_wp2_with (at_builtin;refine wpList_app1 E_u8 rfl (.tmp 14) (.tmp 20) rfl rfl Q3.out (u:=.int .u8 ((C:Int) / 65536 % 256)) rfl rfl (by omega) (by omega) ?_;intro g4 A4 c4 w4 q1 q2 q3 q4;have hN4:Nw w w4:=Kp.nw hN3 q3 hg3 hg3;have hg4:w.heap.size≤g4:=(by have:=hN3.size;omega);have Q4:=hid q1;clear q1 q2 q3 q4 Q3)
 rw [rounds_succ];go_wp2_with (at_builtin;refine wpList_app1 E_u8 rfl (.tmp 14) (.tmp 20) rfl rfl Q4.out (u:=.int .u8 ((C:Int) / 16777216 % 256)) rfl rfl (by omega) (by omega) ?_;intro g5 A5 c5 w5 q1 q2 q3 q4;have hN5:Nw w w5:=Kp.nw hN4 q3 hg4 hg4;have hg5:w.heap.size≤g5:=(by have:=hN4.size;omega);have Q5:=hid q1;clear q1 q2 q3 q4 Q4)
 rw [rounds_succ];go_wp2_with fail;go_ret;have hl:(addCrc l).length=n+1+1+1+1:=by rw [HA.out,List.length_append,← HL.out];simp [sum4]
 refine ⟨g5,A5,c5,by rw [hl];rfl,?_,hg5,hN5⟩;rw [hl,HA.out];have h:=Q5.out;rw [sum4_cells];simp only [List.append_assoc,List.cons_append,List.nil_append] at h ⊢;exact h
end
section
open Go Go.RowKit Go.Lib
def sB (s:ByteArray):List Nat:=s.data.toList.map (·.toNat)
def bS (l:List Nat):ByteArray:=⟨(l.map UInt8.ofNat).toArray⟩
theorem sB_length (s:ByteArray):(sB s).length=s.size:=by unfold sB;rw [List.length_map];rfl
theorem sB_lt (s:ByteArray):∀ x∈sB s,x < 256:=by
 intro x hx;obtain ⟨u,_,rfl⟩:=List.mem_map.1 hx;exact u.toNat_lt
theorem sB_bS {l:List Nat} (h:∀ x∈l,x < 256):sB (bS l)=l:=by
 simp only [sB,bS,List.map_map]
 conv=>rhs;rw [← List.map_id l]
 apply List.map_congr_left
 intro x hx;have:=h x hx;simp [Nat.mod_eq_of_lt this]
theorem bS_size (l:List Nat):(bS l).size=l.length:=by show (l.map UInt8.ofNat).toArray.size=_;simp
theorem sB_inj {a b:ByteArray} (h:sB a=sB b):a=b:=by
 obtain ⟨⟨x⟩⟩:=a;obtain ⟨⟨y⟩⟩:=b;have:x=y:=by
  simp only [sB] at h;exact (List.map_inj_right (fun u v e=>UInt8.toNat_inj.1 e)).1 h
 rw [this]
theorem strCells_sB (s:ByteArray):strCells s=cN .u8 (sB s):=by
 simp only [strCells,cN,sB,List.map_map];rfl
def lenB (l:List Nat):List Nat:=vint l.length++l
def frame (id:Nat) (l:List Nat):List Nat:=addCrc (id::lenB l)
theorem lenB_lt {l:List Nat} (h:∀ x∈l,x < 256):∀ x∈lenB l,x < 256:=by
 intro x hx;rcases List.mem_append.1 hx with hx | hx
 ·exact vint_lt _ x hx
 ·exact h x hx
theorem frame_lt {id:Nat} {l:List Nat} (hi:id < 256) (h:∀ x∈l,x < 256):∀ x∈frame id l,x < 256:=addCrc_lt _ (by
 intro x hx;rcases List.mem_cons.1 hx with rfl | hx
 ·exact hi
 ·exact lenB_lt h x hx)
theorem u8_lit (l:List Nat):∀ u∈cN .u8 l,u.oneCell'=true:=by intro v hv;obtain ⟨y,_,rfl⟩:=List.mem_map.1 hv;rfl
theorem run_str {w:World} {b:Nat} {A:Option Addr} {n c:Nat} {l:List Nat} (hn:n=l.length) (hr:Rd w b A (cN .u8 l)) :
  (convert 25 9 (.slice A n c)).run Tryz.prog w=.ok (.string (bS l)) w:=by
 subst hn;rcases hr with h | ⟨o,rfl,_,hc⟩
 ·have h0:l=[]:=List.map_eq_nil_iff.1 h;subst h0;cases A with
  | none=>exact run_convert_bytes_nil w 25 5 Tryz.underlying25 Tryz.underlying5 0 c 9 Tryz.underlying9
  | some a =>
   have:=run_convert_bytes_back w 25 9 5 a c [] Tryz.underlying25 Tryz.underlying5 Tryz.underlying9 (fun j hj=>by simp at hj);exact this
 ·have h:=run_convert_bytes_arg w 25 5 Tryz.underlying25 Tryz.underlying5 b o l.length c (l.map fun x:Nat=>(x:Int)) (List.length_map _) (fun i hi=>by
   refine hc i _ ?_;rw [List.getElem?_map,List.getElem?_eq_getElem hi,List.getD_eq_getElem?_getD,List.getElem?_map,List.getElem?_eq_getElem hi];rfl) 9 Tryz.underlying9
  rw [h];unfold strOfNums bS;rw [List.map_map];rfl
section
variable {P:Program} {w:World} {b:Nat} {e:TypeId} {n c:Nat} {A:Option Addr} {xs:List Value}
theorem run_appS {t u ty:TypeId} (E:ElemT P t e (.int .u8 0) 1 1) (hu:P.underlying u=some .string) (hown:Ow w b e 1 A n c xs) (s:ByteArray) (hm:n+s.size≤140737488355328) :
  ∃ b' A' c' w',(Builtin.append_ #[t,u] ty #[.slice A n c,.string s]).run P w=.ok (.slice A' (n+s.size) c') w'∧Ow w' b' e 1 A' (n+s.size) c' (xs++strCells s)∧(b'=b∧A≠none∨w.heap.size≤b'∨A'=none)∧Kp b b w w'∧(A=none→Nw w w'):=by
 obtain ⟨i,hi,hz,hsz,hby⟩:=E.info;obtain ⟨v',w',hrun,hrow,hg,hnil⟩:=run_append_own_string (P:=P) w 0 t u ty e i E.und hu hi hz hsz hby (.slice A n c) n xs hown.row s (by simp only [maxLen];omega) hm (Nat.zero_le _);obtain ⟨A',c',rfl⟩:=own_slice hrow;have hk:Kp b b w w':=(Kp.refl b b w).grown hg (fun k e=>.inl (hown.ownBlock k e).1);have hnn:A=none→Nw w w':=fun e=>(Nw.refl w).grown' hg (fun k e'=>((hown.ownBlock k e').2 e).elim)
 cases A with
 | none =>
  have ⟨_,hn0,hc0,hx0⟩:(none:Option Addr)=none∧n=0∧c=0∧xs=[]:=by
   rcases hown with h | ⟨h,_⟩
   ·exact h
   ·cases h
  subst hn0 hc0 hx0;by_cases h0:s.size=0
  ·have hv:=hnil.2 ⟨rfl,h0⟩;injection hv with h1 h2 h3
   subst h1;exact ⟨b,none,c',w',hrun,Ow.of_row hrow (.inr rfl),.inr (.inr rfl),hk,hnn⟩
  ·have hr:=run_append_nil_string (P:=P) w t u ty e i (.int .u8 0) E.und hu hi hz s (by omega) (by omega) (by rw [hby];omega);have h9:=hr.symm.trans hrun;injection h9 with h1 h2
   injection h1 with h1
   subst h1;exact ⟨w.heap.size,_,c',w',hrun,Ow.of_row hrow (.inl rfl),.inr (.inl (Nat.le_refl _)),hk,hnn⟩
 | some ad =>
  have ⟨h1,h2⟩:ad=⟨b,0,none⟩∧w.ownsRow 0 e 1 (.slice (some ad) n c) n xs:=by
   rcases hown with ⟨h,_⟩ | ⟨h,_,h2⟩
   ·cases h
   ·injection h with h;exact ⟨h,h2⟩
  subst h1;rcases h2.2 with ⟨hv,_⟩ | ⟨g,cap,cur,hv,_,hh,hnc,hcm,hcs,ht⟩
  ·cases hv
  ·injection hv with e1 e2 e3
   injection e1 with e1
   injection e1 with e1
   subst e1 e3;by_cases hroom:n+s.size≤c
   ·have hr:=run_append_room_string (P:=P) w t u ty e i E.und hu hi hsz b n c cur hh s hroom (by omega);have h9:=hr.symm.trans hrun;injection h9 with h1 h2
    injection h1 with h1
    subst h1;exact ⟨b,_,c',w',hrun,Ow.of_row hrow (.inl rfl),.inl ⟨rfl,by simp⟩,hk,hnn⟩
   ·have hr:=run_append_grow_string (P:=P) w t u ty e i (.int .u8 0) E.und hu hi hz ⟨b,0,none⟩ n c xs (by rw [hsz];exact hown.len) (h2.cells (g:=b) rfl) s (by omega) (by omega) (by rw [hby];exact growslice_fits (by omega) (by omega));have h9:=hr.symm.trans hrun;injection h9 with h1 h2
    injection h1 with h1
    subst h1;exact ⟨w.heap.size,_,c',w',hrun,Ow.of_row hrow (.inl rfl),.inr (.inl (Nat.le_refl _)),hk,hnn⟩
def Apx (w:World) (b:Nat) (e:TypeId) (A:Option Addr) (n c:Nat) (xs:List Value):Prop :=
 Ow w b e 1 A n c xs∨(Rd w b A xs∧xs.length=n∧c=n∧0 < n)
theorem Apx.nw {w':World} (h:Apx w b e A n c xs) (hN:Nw w w'):Apx w' b e A n c xs:=by
 rcases h with h | ⟨h,k⟩
 ·exact .inl (h.nw hN)
 ·exact .inr ⟨h.nw hN,k⟩
theorem Apx.kp {w':World} {g:Nat} (h:Apx w b e A n c xs) (hk:Kp g g w w') (hg:b≠g∨A=none):Apx w' b e A n c xs:=by
 rcases h with h | ⟨h,k1,k2,k3⟩
 ·left
  rcases hg with hg | rfl
  ·exact h.kp hk hg hg
  ·rcases h with ⟨_,q1,q2,q3⟩ | ⟨q,_⟩
   ·exact .inl ⟨rfl,q1,q2,q3⟩
   ·cases q
 ·rcases hg with hg | rfl
  ·exact .inr ⟨h.kp hk hg hg,k1,k2,k3⟩
  ·rcases h with h | ⟨_,h,_⟩
   ·subst h;simp at k1;omega
   ·cases h
theorem wpList_appX {ops:Array Oper} {rest:List Oper} {o:Oper} {a:Act} {Q:Exit→Act→World→Prop} {t:TypeId} {z:Value} {bytes:Nat} (E:ElemT P t e z 1 bytes) (hgd:o.guard=none) (s x:Operand)
  (ho:o.op=.call { callee:=.builtin .append,args:=#[s,x],argTypes:=#[t,t] })
  (hs:a.eval s=.slice A n c) (hown:Apx w b e A n c xs)
  {b2:Nat} {A2:Option Addr} {m c2:Nat} {news:List Value} (hx:a.eval x=.slice A2 m c2) (hr:Rd w b2 A2 news) (hl:news.length=m) (hm:0 < m) (h1:∀ u∈news,u.oneCell'=true)
  (hbytes:(n+m)*bytes≤140737488355328) (hby:0 < bytes)
  (h:∀ b' A' c' w',Ow w' b' e 1 A' (n+m) c' (xs++news)→(b'=b∧A≠none∨w.heap.size≤b'∨A'=none)→Kp b b w w'→(A=none→Nw w w')→wpList P ops Q rest (a.put o.dst (.slice A' (n+m) c')) w') :
  wpList P ops Q (o::rest) a w:=by
 have hnm:n+m≤140737488355328:=Nat.le_trans (Nat.le_mul_of_pos_right _ hby) hbytes;rcases hown with hown | ⟨hown,h2,rfl,h4⟩
 ·refine wpList_app E hgd s x ho hs hown hx hr (by omega) (fun e=>?_) h1 (by simp only [maxLen];omega) hbytes ?_
  ·subst e;rcases hr with rfl | ⟨o,e,_⟩
   ·simp at hl;omega
   ·cases e
  ·intro b' A' c' w' q1 q2 q3 q4;refine h b' A' c' w' q1 ?_ q3 (fun e=>(q4 e).1);by_cases hA:A=none
   ·exact .inr (q4 hA).2
   ·rcases q2 with q | q
    ·exact .inl ⟨q,hA⟩
    ·exact .inr (.inl q)
 ·obtain ⟨i,hi,hz,hsz,hby'⟩:=E.info;obtain ⟨off,hA,_,hc⟩:∃ o,A=some ⟨b,o,none⟩∧b < w.heap.size∧∀ j u,xs[j]? = some u→w.cell? ⟨b,o+j,none⟩=some u:=by
   rcases hown with h | h
   ·subst h;simp at h2;omega
   ·exact h
  obtain ⟨off2,hA2,_,hc2⟩:∃ o,A2=some ⟨b2,o,none⟩∧b2 < w.heap.size∧∀ j u,news[j]? = some u→w.cell? ⟨b2,o+j,none⟩=some u:=by
   rcases hr with h | h
   ·subst h;simp at hl;omega
   ·exact h
  subst hA hA2;refine wpList_append_grows w hgd s x t ho e i z 1 bytes E.und hi hz hsz hby' E.cells (by omega) (some ⟨b,off,none⟩) _ _ xs hs (fun e=>by cases e) (by omega) (fun q hq j u hu=>by cases hq;rw [add_lit'];exact hc j u hu) ⟨b2,off2,none⟩ m c2 news hx (by omega) (fun j u hu=>by rw [add_lit'];exact hc2 j u hu) h1 (by omega) (by simp only [maxLen];omega) hbytes ?_;intro v' w' hrow hg;have hrow0:w'.ownsRow 0 e 1 v' _ _:=⟨hrow.1,by
   rcases hrow.2 with h | ⟨g,cap,cur,p,_,r⟩
   ·exact .inl h
   ·exact .inr ⟨g,cap,cur,p,Nat.zero_le _,r⟩⟩
  obtain ⟨A',c',rfl⟩:=own_slice hrow0;obtain ⟨g,cap,hv,hbase,hlt⟩:=hrow.form (by omega);injection hv with e1 e2 e3
  subst e1 e3;have hN:Nw w w':=(Nw.refl w).grown' hg (fun k e=>by cases e);exact h g _ _ w' (Ow.of_row hrow0 (.inl rfl)) (.inr (.inl hbase)) (hN.kp b b) (fun _=>hN)
theorem wpList_appS {ops:Array Oper} {rest:List Oper} {o:Oper} {a:Act} {Q:Exit→Act→World→Prop} {t u:TypeId} (E:ElemT P t e (.int .u8 0) 1 1) (hu:P.underlying u=some .string) (hgd:o.guard=none) (s x:Operand)
  (ho:o.op=.call { callee:=.builtin .append,args:=#[s,x],argTypes:=#[t,u] })
  (hs:a.eval s=.slice A n c) (hown:Ow w b e 1 A n c xs) {str:ByteArray} (hx:a.eval x=.string str) (hm:n+str.size≤140737488355328)
  (h:∀ b' A' c' w',Ow w' b' e 1 A' (n+str.size) c' (xs++strCells str)→(b'=b∧A≠none∨w.heap.size≤b'∨A'=none)→Kp b b w w'→(A=none→Nw w w')→wpList P ops Q rest (a.put o.dst (.slice A' (n+str.size) c')) w') :
  wpList P ops Q (o::rest) a w:=by
 refine wpList_plain hgd fun K hK=>?_
 obtain ⟨b',A',c',w',hr,h1,h2,h3,h4⟩:=run_appS (ty:=o.type) E hu hown str hm;unfold Oper.wp execOp;simp only [ho,resolve,invoke,builtin,Sem.run_bind,Sem.run_pure,Result.andThen_ok,List.map_toArray,List.map_cons,List.map_nil,hs,hx,hr];exact hK _ _ (h b' A' c' w' h1 h2 h3 h4)
end
set_option maxRecDepth 100000 in
theorem AppendBytes_any (w:World) (b:Nat) (A:Option Addr) (n c:Nat) (xs:List Nat) (s:ByteArray) (hO:Ow w b 5 1 A n c (cN .u8 xs)) (hn:n≤1000000000) (hs:s.size≤1000000000) :
  Calls Tryz.prog 113 #[.slice A n c,.string s] w (AppB w b A n xs (lenB (sB s))):=by
 have HV:=hid (VAppend_any w b A n c xs s.size hO (by omega) (by omega));have hL:=vint_len s.size (by omega);have HB:=hid (show lenB (sB s)=vint s.size++sB s from by unfold lenB;rw [sB_length]);obtain ⟨V,hV⟩:∃ V,vint s.size=V:=⟨_,rfl⟩;rw [hV] at HV hL HB;clear hV hO;go_enter Tryz.func113,Tryz.ntmps113
 go_wp2_with fail;refine HV.out.mono ?_;rintro e w1 ⟨b1,A1,c1,rfl,hO1,hb1,hk1,hn1⟩;have HO1:=hid hO1;clear hO1;go_wp2_with (at_builtin;refine wpList_appS E_u8 Tryz.underlying9 rfl (.tmp 9) (.tmp 10) rfl rfl HO1.out rfl (by omega) ?_;intro b2 A2 c2 w2 q1 q2 q3 q4;have Q1:=hid q1;have Q2:=hid q2;have Q3:=hid q3;have Q4:=hid q4;clear q1 q2 q3 q4)
 go_ret;have hl:n+(lenB (sB s)).length=n+V.length+s.size:=by rw [HB.out,List.length_append,sB_length];omega
 refine ⟨b2,A2,c2,by rw [hl];rfl,?_,?_,?_,?_⟩
 ·have h:=Q1.out;rw [strCells_sB] at h;rw [hl,HB.out,← List.append_assoc];unfold cN at h ⊢;rw [List.map_append];exact h
 ·have hs1:=hk1.size;rcases Q2.out with ⟨h,h'⟩ | h | h
  ·rcases hb1 with h2 | h2 | h2
   ·exact .inl ⟨h.trans h2.1,h2.2⟩
   ·right;left;omega
   ·exact (h' h2).elim
  ·right;left;omega
  ·exact .inr (.inr h)
 ·rcases hb1 with h2 | h2 | h2
  ·have:=Q3.out;rw [h2.1] at this;exact hk1.trans this (.inl rfl) (.inl rfl)
  ·exact hk1.trans Q3.out (.inr (.inr h2)) (.inr (.inr h2))
  ·exact hk1.nw' (Q4.out h2)
 ·intro e;rcases hb1 with h2 | h2 | h2
  ·exact (h2.2 e).elim
  ·exact Kp.nw (hn1 e) Q3.out h2 h2
  ·exact (hn1 e).trans (Q4.out h2)
set_option maxRecDepth 100000 in
theorem AppendSection_any (w:World) (b:Nat) (A:Option Addr) (n c:Nat) (xs:List Nat) (id b2:Nat) (A2:Option Addr) (n2 c2:Nat) (l:List Nat) (hO:Apx w b 5 A n c (cN .u8 xs)) (hn:n≤1000000000) (hi:id < 256) (hr:Rd w b2 A2 (cN .u8 l)) (hn2:n2=l.length) (hm:n2≤1000000000) (hl:∀ x∈l,x < 256) (hG:Gl w) :
  Calls Tryz.prog 120 #[.slice A n c,.agg #[.int .u8 (id:Int),.slice A2 n2 c2]] w (AppB w b A n xs (frame id l)):=by
 have hw2:Nw w ((w.alloc (.cells #[.int .u8 (id:Int),.slice A2 n2 c2] 193)).alloc (.cells #[.int .u8 (id:Int)] 5)):=((Nw.refl w).alloc' _).alloc' _;have hcv:=run_str hn2 (hr.nw hw2) (c:=c2);have hlit:Ow ((w.alloc (.cells #[.int .u8 (id:Int),.slice A2 n2 c2] 193)).alloc (.cells #[.int .u8 (id:Int)] 5)) (w.heap.size+1) 5 1 (some ⟨w.heap.size+1,0,none⟩) 1 1 (cN .u8 [id]):=by
  have:=Ow.lit (w.alloc (.cells #[.int .u8 (id:Int),.slice A2 n2 c2] 193)) 5 1 1 #[.int .u8 (id:Int)] rfl (by omega);rw [World.size_alloc] at this;exact this
 have hsz:(bS l).size=n2:=by rw [bS_size,hn2]
 have HAB:=hid (AppendBytes_any _ _ _ 1 1 [id] (bS l) hlit (by omega) (by omega));have HSB:=hid (sB_bS hl);have hLL:(lenB l).length≤1000000010:=by
  unfold lenB;rw [List.length_append];have:=vint_len l.length (by omega);omega
 have HLt:=hid (show ∀ x∈[id]++lenB l,x < 256 from by
  intro x hx;rcases List.mem_append.1 hx with hx | hx
  ·obtain rfl:=List.mem_singleton.1 hx;exact hi
  ·exact lenB_lt hl x hx)
 have HF:=hid (show frame id l=addCrc ([id]++lenB l) from rfl);have HO:=hid hO;have HW2:=hid hw2;have HG:=hid hG;rw [HSB.out] at HAB;clear hO hlit hw2 hr hl hG hn2;go_enter Tryz.func120,Tryz.ntmps120
 go_wp2_with fail;refine HAB.out.mono ?_;rintro e w3 ⟨b3,A3,c3,rfl,hO3,hb3,hk3,hn3⟩;have hb3':w.heap.size+1≤b3∨A3=none:=by
  rcases hb3 with h | h | h
  ·left;omega
  ·left;have:=h;simp at this;omega
  ·exact .inr h
 have hN3:Nw w w3:=Kp.nw HW2.out hk3 (by omega) (by omega);have HCA:=hid (CrcAppend_any w3 b3 A3 (1+(lenB l).length) c3 ([id]++lenB l) (by rw [List.length_append,List.length_singleton]) (by omega) hO3.rd hO3.nilc HLt.out (HG.out.nw hN3));rw [← HF.out] at HCA;obtain ⟨L,hL⟩:∃ L,(lenB l).length=L:=⟨_,rfl⟩;have hfl:(frame id l).length=1+L+4:=by rw [HF.out,addCrc_length,List.length_append,List.length_singleton,hL]
 rw [hL] at HCA hLL ⊢;clear hO3 hL hb3 hk3 hn3;go_wp2_with fail;refine HCA.out.mono ?_;rintro e w4 ⟨b4,A4,c4,rfl,hO4,hb4,hn4⟩;obtain ⟨M,hM⟩:∃ M,(frame id l).length=M:=⟨_,rfl⟩;rw [hM] at hfl hO4 ⊢;have hN4:=hN3.trans hn4;have HO4:=hid hO4.rd;have HM:=hid hM;have hnil:=hO4.nilc;have HOk:=hid (HO.out.nw hN4);have hMl:M≤1000000015:=by omega
 have hM0:0 < M:=by omega
 clear hO4 hM hfl;go_wp2_with (at_builtin;refine wpList_appX E_u8 rfl (.tmp 5) (.tmp 13) rfl rfl HOk.out rfl HO4.out (by rw [List.length_map,HM.out]) hM0 (u8_lit _) (by omega) (by omega) ?_;intro b5 A5 c5 w5 q1 q2 q3 q4;have Q1:=hid q1;have Q2:=hid q2;have Q3:=hid q3;have Q4:=hid q4;clear q1 q2 q3 q4)
 go_ret;refine ⟨b5,A5,c5,by rw [HM.out];rfl,?_,?_,(hN4.kp b b).trans Q3.out (.inl rfl) (.inl rfl),fun e=>hN4.trans (Q4.out e)⟩
 ·rw [HM.out];have h:=Q1.out;unfold cN at h ⊢;rw [List.map_append];exact h
 ·rcases Q2.out with h | h | h
  ·exact .inl h
  ·right;left;have:=hN4.size;omega
  ·exact .inr (.inr h)
theorem AppB.own {w w0 W:World} {b n:Nat} {A:Option Addr} {xs news:List Nat} {e:Ending} (K:List Nat) (h:AppB W b A n xs news e w) (hN:Nw w0 W) (hb:(w0.heap.size≤b∧b ∉ K)∨A=none) (hK:∀ k∈K,k < W.heap.size) :
  ∃ b' A' c',e=.returned (.slice A' (n+news.length) c')∧Ow w b' 5 1 A' (n+news.length) c' (cN .u8 (xs++news))∧((w0.heap.size≤b'∧b' ∉ K)∨A'=none)∧Nw w0 w∧(∀ k∈K,w.heap[k]? = W.heap[k]?)∧∀ k∈K,k < w.heap.size:=by
 obtain ⟨b',A',c',he,hO,hb',hk,hn⟩:=h;have hsz:=hN.size;have hs2:=hk.size;refine ⟨b',A',c',he,hO,?_,?_,fun k hkK=>?_,fun k hkK=>Nat.lt_of_lt_of_le (hK k hkK) hs2⟩
 ·rcases hb' with ⟨rfl,h⟩ | h | h
  ·rcases hb with h' | h'
   ·exact .inl h'
   ·exact (h h').elim
  ·left;exact ⟨by omega,fun hm=>by have:=hK _ hm;omega⟩
  ·exact .inr h
 ·rcases hb with h' | h'
  ·exact Kp.nw hN hk h'.1 h'.1
  ·exact hN.trans (hn h')
 ·rcases hb with h' | h'
  ·exact hk.block k (hK k hkK) (fun e=>h'.2 (e ▸ hkK)) (fun e=>h'.2 (e ▸ hkK))
  ·exact (hn h').block k (hK k hkK)
end
section
open Go Go.RowKit Go.Sort
structure Gp where
 n:Nat
 os:Array Obj
instance:Inhabited Gp:=⟨⟨0,#[]⟩⟩
abbrev Gr (w w':World):Prop:=∃ p:Gp,w'=grow (w.drewN p.n) p.os
theorem Gr.refl (w:World):Gr w w:=⟨⟨0,#[]⟩,by rw [grow_empty];rfl⟩
theorem Gr.trans {a b c:World} (h:Gr a b) (k:Gr b c):Gr a c:=by
 obtain ⟨⟨n,os⟩,rfl⟩:=h;obtain ⟨⟨m,os'⟩,rfl⟩:=k;exact ⟨⟨n+m,os++os'⟩,by show grow (grow ((a.drewN n).drewN m) os) os'=_;rw [grow_grow,World.drewN_drewN]⟩
theorem Gr.alloc (w:World) (o:Obj):Gr w (w.alloc o):=⟨⟨0,#[o]⟩,by rw [alloc_eq_grow];rfl⟩
theorem Gr.drewN (w:World) (n:Nat):Gr w (w.drewN n):=⟨⟨n,#[]⟩,by rw [grow_empty]⟩
theorem Gr.of_dr {w w':World} (h:Dr w w'):Gr w w':=by
 obtain ⟨n,rfl⟩:=h;exact Gr.drewN w n
theorem Gr.nw {w w':World} (h:Gr w w'):Nw w w':=by
 obtain ⟨⟨n,os⟩,rfl⟩:=h;refine ⟨rfl,rfl,rfl,by simp [grow],fun k hk=>?_⟩;exact heap_grow_old (w.drewN n) os hk
theorem Calls.gr {P:Program} {f:FuncId} {args:Array Value} {w:World} {p:Gp} {v:Value} (h:Calls P f args (grow (w.drewN p.n) p.os) fun e w'=>e=.returned v∧Gr (grow (w.drewN p.n) p.os) w') :
  Calls P f args (grow (w.drewN p.n) p.os) fun e w''=>e=.returned v∧∃ q:Gp,w''=grow (w.drewN q.n) q.os:=h.mono fun _ _ x=>⟨x.1,Gr.trans ⟨p,rfl⟩ x.2⟩
theorem cell_gr {w:World} {a:Addr} {v:Value} (hb:a.block < w.heap.size) (h:w.cell? a=some v) (p:Gp):(grow (w.drewN p.n) p.os).cell? a=some v:=by
 rw [cell?_grow _ _ _ (by exact hb)];exact h
theorem cell_old {w w':World} {a:Addr} {v:Value} (hN:Nw w w') (hg:a.block < w.heap.size) (h:w.cell? a=some v):w'.cell? a=some v :=
 (World.cell?_of_block (hN.block _ hg)).trans h
theorem Gr.alloc' {a w:World} (h:Gr a w) (o:Obj):Gr a (w.alloc o):=h.trans (Gr.alloc w o)
theorem Gr.drewO (w:World):Gr w w.drew:=Gr.drewN w 1
theorem Gr.block {a w:World} (h:Gr a w) (k:Nat) (hk:k < a.heap.size):w.heap[k]? = a.heap[k]?:=h.nw.block k hk
theorem Nw.drewP {a w:World} (h:Nw a w):Nw a w.drew:=Nw.trans h ⟨rfl,rfl,rfl,Nat.le_refl _,fun _ _=>rfl⟩
theorem Nw.drewO (w:World):Nw w w.drew:=⟨rfl,rfl,rfl,Nat.le_refl _,fun _ _=>rfl⟩
section
variable {P:Program} {ops:Array Oper} {md:Region.Mode} {C:World→Prop}
theorem wp_region_gr {id:Nat} {Q:Exit→Act→World→Prop} {a:Act} {w:World} {l:List Oper} (hm:P.follows .mixedOrders=true) (hB:Region.lexB .any l.toArray=true)
  (h:wpQuiet P l.toArray (fun w'=>∃ p:Gp,w'=grow (w.drewN p.n) p.os) (fun a'=>∀ w',(∃ p:Gp,w'=grow (w.drewN p.n) p.os)→Q .normal a' w') l a):(Code.region id l.toArray true).wp P Q a w :=
 wp_region_quiet (C:=fun w'=>∃ p:Gp,w'=grow (w.drewN p.n) p.os) hm hB ⟨⟨1,#[]⟩,by rw [grow_empty];rfl⟩ (by simpa using h)
def wpAnyLC (P:Program) (md:Region.Mode) (ops:Array Oper) (C:World→Prop) (n:Nat) (L:Array Bool→Act→Prop):Nat→Array Bool→Act→Prop
 | 0,listed,a=>L listed a
 | f+1,listed,a =>
  Region.ready md ops listed≠[]∧∀ i∈Region.ready md ops listed,i < n∧qOp P ops C i (wpAnyLC P md ops C n L f (listed.setIfInBounds i true)) a
theorem wpAny_of_headC {n g:Nat} {L:Array Bool→Act→Prop} {Q':Exit→Act→World→Prop} (hL:∀ listed a w,C w→L listed a→wpAny P md ops Q' g listed a w) :
  ∀ (f:Nat) (listed:Array Bool) (a:Act) (w:World),C w→wpAnyLC P md ops C n L f listed a→wpAny P md ops Q' (f+g) listed a w
 | 0,listed,a,w,hw,h=>by rw [Nat.zero_add];exact hL _ _ _ hw h
 | f+1,listed,a,w,hw,h=>by
  rw [show f+1+g=(f+g)+1 by omega];exact ⟨fun h0=>absurd h0 h.1,fun i hi=>wpOp_of_qOp hw (fun a' w' hw' h'=>wpAny_of_headC hL f _ a' w' hw' h') (h.2 i hi).2⟩
theorem wpAnyLC_first {n i:Nat} {oi:Oper} {v:Value} {L:Array Bool→Act→Prop} (hi:ops[i]? = some oi) (hsel:∀ (j:Nat) (o:Oper) cs b,ops[j]? = some o→o.op≠.select cs b)
  (hs:Region.sinkB md ops n=true) (hc:Region.chainB md ops n=true) (hn:n < ops.size) (hin:i < n)
  (hdone:∀ listed a,L listed a→∀ j∈Region.ready md ops listed,n≤j) :
  ∀ (f:Nat) (listed:Array Bool) (a:Act),HeadInv md ops n listed →
   (∀ j oj,ops[j]? = some oj→j≠i→listed.getD j true=false→(∀ e∈oj.after,Region.binds md e=true→e.on≠i)→oi.apart ops oj=true) →
   i∈Region.ready md ops listed→YieldsIn P ops C oi v a →
   wpAnyLC P md ops C n L f (listed.setIfInBounds i true) (a.put oi.dst v)→wpAnyLC P md ops C n L (f+1) listed a:=by
 intro f;induction f with
 | zero =>
  intro listed a inv _ hr hy H;have hun:=(mem_ready.1 hr).1;refine ⟨fun h=>(by rw [h] at hr;cases hr),fun j hj=>?_⟩;have hjn:j < n:=by
   rcases Nat.lt_or_ge j n with h | h
   ·exact h
   ·exact absurd hj (tail_waits hs hc hn inv _ i rfl hin hun j h)
  refine ⟨hjn,?_⟩;by_cases hji:j=i
  ·subst hji;exact hy.qOp hi H
  ·have:=hdone _ _ H j (ready_mono hj hji);omega
 | succ f ih =>
  intro listed a inv hfree hr hy H;have hun:=(mem_ready.1 hr).1;refine ⟨fun h=>(by rw [h] at hr;cases hr),fun j hj=>?_⟩;have hjn:j < n:=by
   rcases Nat.lt_or_ge j n with h | h
   ·exact h
   ·exact absurd hj (tail_waits hs hc hn inv _ i rfl hin hun j h)
  refine ⟨hjn,?_⟩;by_cases hji:j=i
  ·subst hji;exact hy.qOp hi H
  ·have h1:=(H.2 j (ready_mono hj hji)).2;obtain ⟨hjun,oj,hoj,hall⟩:=mem_ready.1 hj;have hnot:∀ e∈oj.after,Region.binds md e=true→e.on≠i:=fun e he hb heq=>by
    have h1:=hall e he hb;rw [heq,getD_both hun] at h1;cases h1
   have h2:=qOp_put hoj (hfree j oj hoj hji hjun hnot) (fun cs b=>hsel i oi cs b hi) (fun cs b=>hsel j oj cs b hoj) hy h1;have hfree':∀ k ok,ops[k]? = some ok→k≠i→(listed.setIfInBounds j true).getD k true=false →
     (∀ e∈ok.after,Region.binds md e=true→e.on≠i)→oi.apart ops ok=true:=fun k ok hk hki hun hno=>by
    refine hfree k ok hk hki ?_ hno;by_cases hjk:j=k
    ·subst hjk;exact hjun
    ·rw [getD_set_ne true hjk] at hun;exact hun
   refine qOp_mono (fun a' h3=>ih (listed.setIfInBounds j true) a' (inv.set hj hjn) hfree' (ready_mono hr (Ne.symm hji)) h3.1 ?_) h2;rw [Array.setIfInBounds_comm _ _ hji];exact h3.2
theorem wpAnyLC_lex {n g:Nat} {Lq:Act→Prop} (hsel:Region.noSelect ops=true) (hs:Region.sinkB md ops n=true) (hc:Region.chainB md ops n=true) (hn:n < ops.size) :
  ∀ (l:List Oper) (k:Nat) (listed:Array Bool) (a:Act),(∀ j,j < l.length→l[j]? = ops[k+j]?)→k+l.length=n→HeadInv md ops n listed →
  Region.lexHead md ops g l.length k listed=true→wpQuiet P ops C Lq l a →
  wpAnyLC P md ops C n (fun listed' a'=>Region.seqB md ops g n listed'=true∧Lq a') l.length listed a
 | [],k,listed,a,_,hk,_,hB,h=>by
  have:k=n:=by simpa using hk
  subst this;exact ⟨by simpa [Region.lexHead] using hB,h⟩
 | o::l,k,listed,a,hl,hk,inv,hB,h=>by
  have h0:ops[k]? = some o:=by simpa using (hl 0 (by simp)).symm
  simp only [List.length_cons,Region.lexHead,Bool.and_eq_true] at hB;obtain ⟨⟨hr,hf⟩,hB'⟩:=hB;have hkn:k < n:=by simp only [List.length_cons] at hk;omega
  have hr':k∈Region.ready md ops listed:=by simpa using hr
  have hst:qOp P ops C k (wpQuiet P ops C Lq l) a:=by unfold qOp;simp only [h0];exact h
  obtain ⟨v,hy,hK⟩:=yieldsIn_of_qOp h0 hst;exact wpAnyLC_first h0 (Region.noSelect_spec hsel) hs hc hn hkn (fun listed' a' hL=>seqB_ready hL.1) l.length listed a inv (Region.free_spec h0 hf) hr' hy
   (wpAnyLC_lex hsel hs hc hn l (k+1) _ _ (fun j hj=>by have:=hl (j+1) (by simp;omega);simpa [Nat.add_assoc,Nat.add_comm 1 j] using this) (by simp only [List.length_cons] at hk;omega) (inv.set hr' hkn) hB' hK)
theorem wp_region_gr_tail {id:Nat} {Q:Exit→Act→World→Prop} {a:Act} {w:World} {l:List Oper} (n:Nat) (hm:P.follows .mixedOrders=true) (hB:Region.lexTailB .any l.toArray n=true)
  (h:wpQuiet P l.toArray (fun w'=>∃ p:Gp,w'=grow (w.drewN p.n) p.os) (fun a'=>∀ w',(∃ p:Gp,w'=grow (w.drewN p.n) p.os)→wpList P l.toArray Q (l.drop n) a' w') (l.take n) a):(Code.region id l.toArray true).wp P Q a w:=by
 simp only [Region.lexTailB,Bool.and_eq_true,decide_eq_true_eq] at hB;obtain ⟨⟨⟨⟨hsel,hn⟩,hs⟩,hc⟩,hlex⟩:=hB;have hn':n < l.length:=by simpa using hn
 have htl:(l.take n).length=n:=by simp;omega
 have hdl:(l.drop n).length=l.toArray.size - n:=by simp
 have inv0:HeadInv .any l.toArray n (Array.replicate l.toArray.size false) :=
  ⟨by simp,fun j oj _ hl=>(by rw [getD_replicate_false] at hl;cases hl),fun t _ ht=>getD_in (by simpa using ht) (getD_replicate_false _ _)⟩
 have H:=wpAnyLC_lex (md:=.any) (g:=l.toArray.size - n) hsel hs hc hn (l.take n) 0 _ a (fun j hj=>by
  have hj':j < n:=by rw [htl] at hj;exact hj
  simp [hj']) (by simpa using htl) inv0 (by rw [htl];exact hlex) h
 refine wp_region_any hm ?_;have:=wpAny_of_headC (Q':=Q) (g:=l.toArray.size - n) (fun listed a' w' hw hL=>by
  have:=wpAny_of_seq (md:=.any) (Q':=Q) (l.drop n) n listed a' w' (fun j=>by simp [List.getElem?_drop]) (by rw [hdl];exact hL.1) (hL.2 w' hw)
  rwa [hdl] at this) _ _ _ { w with drawn:=w.drawn+1 } ⟨⟨1,#[]⟩,by rw [grow_empty];rfl⟩ H
 rw [htl,show n+(l.toArray.size - n)=l.toArray.size by omega] at this;exact this
end
end
section
open Go Go.RowKit Go.Sort
section
variable {P:Program} {ops:Array Oper} {md:Region.Mode} {C:World→Prop} {n:Nat}
theorem wpIn_of_quiet {o:Oper} {a:Act} {K:Act→Prop} {K':Act→World→Prop} {Q':Exit→Act→World→Prop} {w:World} (hw:C w) (h:∀ a w',C w'→K a→K' a w') (hh:o.quiet P a C K):o.wpIn Fence.wide n P a w K' Q':=by
 obtain ⟨v,h1,h2⟩:=hh;have h3:=h1 w hw;unfold Oper.quietAt at h3;unfold Oper.wpIn;rw [Fence.wide_round,Oper.semAt_none];refine ⟨fun _ _=>trivial,?_⟩;generalize (execOp a.eval o).run P w=r at *;cases r with
 | ok x w' =>
  cases x<;>simp only [Oper.quietUpon] at h3<;>simp only [Oper.uponIn]
  case value u =>
   obtain ⟨e1,e2⟩:=h3;rw [e1,e2];exact h _ _ hw h2
  case skip =>
   obtain ⟨e1,e2⟩:=h3;rw [e1,← e2];exact h _ _ hw h2
  case enter f args =>
   obtain ⟨e1,hc⟩:=h3;rw [e1];refine ⟨fun e=>(by simp [Fence.wide] at e),callsIn_wide.2 (hc.mono fun e w'' ⟨he,hw''⟩=>by subst he;exact h _ _ hw'' h2)⟩
 | halt x w'=>simp only [Oper.quietUpon] at h3
theorem wpOpIn_of_qOp {i:Nat} {a:Act} {K:Act→Prop} {K':Act→World→Prop} {Q':Exit→Act→World→Prop} {w:World} (hC:C w) (h:∀ a w',C w'→K a→K' a w') (hh:qOp P ops C i K a):wpOpIn Fence.wide n P ops Q' i K' a w:=by
 unfold qOp at hh;unfold wpOpIn;split
 ·rename_i ho;simp only [ho] at hh;exact h _ _ hC hh
 ·rename_i o ho
  simp only [ho] at hh;split
  ·rename_i hw;simp only [hw,if_true] at hh;exact wpIn_of_quiet hC h hh
  ·rename_i hw;simp only [hw] at hh;exact ⟨fun _ _=>trivial,h _ _ hC hh⟩
theorem wpAnyIn_of_headC {m g:Nat} {L:Array Bool→Act→Prop} {Q':Exit→Act→World→Prop} (hL:∀ listed a w,C w→L listed a→wpAnyIn Fence.wide n P md ops Q' g listed a w) :
  ∀ (f:Nat) (listed:Array Bool) (a:Act) (w:World),C w→wpAnyLC P md ops C m L f listed a→wpAnyIn Fence.wide n P md ops Q' (f+g) listed a w
 | 0,listed,a,w,hw,h=>by rw [Nat.zero_add];exact hL _ _ _ hw h
 | f+1,listed,a,w,hw,h=>by
  rw [show f+1+g=(f+g)+1 by omega];exact ⟨fun h0=>absurd h0 h.1,fun i hi=>wpOpIn_of_qOp hw (fun a' w' hw' h'=>wpAnyIn_of_headC hL f _ a' w' hw' h') (h.2 i hi).2⟩
theorem wpAnyIn_of_seq {Q':Exit→Act→World→Prop}:∀ (l:List Oper) (k:Nat) (listed:Array Bool) (a:Act) (w:World),(∀ j,l[j]? = ops[k+j]?) →
  Region.seqB md ops l.length k listed=true→wpListIn Fence.wide n P ops Q' l a w→wpAnyIn Fence.wide n P md ops Q' l.length listed a w
 | [],_,_,_,_,_,hB,h=>⟨by simpa [Region.seqB] using hB,h⟩
 | o::l,k,listed,a,w,hl,hB,h=>by
  have h0:ops[k]? = some o:=by simpa using (hl 0).symm
  simp only [List.length_cons,Region.seqB,Bool.and_eq_true,decide_eq_true_eq] at hB;refine ⟨fun h1=>(by rw [hB.1] at h1;cases h1),fun i hi=>?_⟩;rw [hB.1] at hi;obtain rfl:i=k:=by simpa using hi
  have hw:wpOpIn Fence.wide n P ops Q' i (wpListIn Fence.wide n P ops Q' l) a w:=by unfold wpOpIn;simp only [h0];exact h
  exact wpOpIn_mono (fun a' w' h'=>wpAnyIn_of_seq l (i+1) _ a' w' (fun j=>by have:=hl (j+1);simpa [Nat.add_assoc,Nat.add_comm 1 j] using this) hB.2 h') hw
theorem wpIn_region_gr_tail {id:Nat} {Q:Exit→Act→World→Prop} {a:Act} {w:World} {l:List Oper} (m:Nat) (hm:P.follows .mixedOrders=true) (hB:Region.lexTailB .any l.toArray m=true)
  (h:wpQuiet P l.toArray (fun w'=>∃ p:Gp,w'=grow (w.drewN p.n) p.os) (fun a'=>∀ w',(∃ p:Gp,w'=grow (w.drewN p.n) p.os)→wpListIn Fence.wide n P l.toArray Q (l.drop m) a' w') (l.take m) a):(Code.region id l.toArray true).wpIn Fence.wide n P Q a w:=by
 simp only [Region.lexTailB,Bool.and_eq_true,decide_eq_true_eq] at hB;obtain ⟨⟨⟨⟨hsel,hn⟩,hs⟩,hc⟩,hlex⟩:=hB;have hn':m < l.length:=by simpa using hn
 have htl:(l.take m).length=m:=by simp;omega
 have hdl:(l.drop m).length=l.toArray.size - m:=by simp
 have inv0:HeadInv .any l.toArray m (Array.replicate l.toArray.size false) :=
  ⟨by simp,fun j oj _ hl=>(by rw [getD_replicate_false] at hl;cases hl),fun t _ ht=>getD_in (by simpa using ht) (getD_replicate_false _ _)⟩
 have H:=wpAnyLC_lex (md:=.any) (g:=l.toArray.size - m) hsel hs hc hn (l.take m) 0 _ a (fun j hj=>by
  have hj':j < m:=by rw [htl] at hj;exact hj
  simp [hj']) (by simpa using htl) inv0 (by rw [htl];exact hlex) h
 refine wpIn_region_any hm ?_;have:=wpAnyIn_of_headC (n:=n) (Q':=Q) (g:=l.toArray.size - m) (fun listed a' w' hw hL=>by
  have:=wpAnyIn_of_seq (n:=n) (md:=.any) (Q':=Q) (l.drop m) m listed a' w' (fun j=>by simp [List.getElem?_drop]) (by rw [hdl];exact hL.1) (hL.2 w' hw)
  rwa [hdl] at this) _ _ _ { w with drawn:=w.drawn+1 } ⟨⟨1,#[]⟩,by rw [grow_empty];rfl⟩ H
 rw [htl,show m+(l.toArray.size - m)=l.toArray.size by omega] at this;exact this
end
end
section
open Go Go.RowKit
def smpSum (l:List Ser):Nat:=(l.map fun s=>s.smps.length).sum
theorem smpSum_snoc {l:List Ser} {k:Nat} (h:k < l.length):smpSum (l.take (k+1))=smpSum (l.take k)+l[k].smps.length:=by
 unfold smpSum;rw [List.take_succ_eq_append_getElem h,List.map_append,List.sum_append];simp only [List.map_cons,List.map_nil,List.sum_cons,List.sum_nil,Nat.add_zero]
theorem smpSum_take (l:List Ser) (k:Nat):smpSum (l.take k)≤smpSum l:=by
 unfold smpSum
 conv=>rhs;rw [← List.take_append_drop k l,List.map_append,List.sum_append]
 omega
theorem Samples_any (w:World) (b:Nat) (A:Option Addr) (n c:Nat) (l:List Ser) (hI:InSer w b A n c l) (hs:smpSum l≤1000000000) (hn:n≤1000000000) :
  Calls Tryz.prog 169 #[.slice A n c] w fun e w'=>e=.returned (.int .i64 (smpSum l:Int))∧Nw w w':=by
 have hl:=hI.len;subst hl;have HR:=hid hI.rd;clear hI;go_enter Tryz.func169,Tryz.ntmps169
 go_wp2;go_loopw [3,8] (fun v i wr=>∃ k:Nat,k≤l.length∧i=.int .i64 k∧∃ N:Nat,v=.int .i64 N∧N≤1000000000∧Hid (N=smpSum (l.take k))∧Hid (Nw w wr)) (fun _ i _=>l.length - (intOf i).toNat)
 case atStart=>exact ⟨0,by omega,rfl,0,rfl,by omega,hid rfl,hid (Nw.refl _)⟩
 case round =>
  obtain ⟨k,hk,rfl,N,rfl,hN,HS,HN⟩:=hrel;by_cases hlt:k < l.length
  ·have hltI:(k:Int) < (l.length:Int):=by omega
   obtain ⟨o,rfl,_,hc0,hc1⟩:=two_at (HR.out.nw HN.out) hlt;have HNX:=hid (smpSum_snoc hlt);have htk:=smpSum_take l (k+1);rw [HNX.out,← HS.out] at htk;generalize l[k]=s at *;go_wp2;go_roundw
   case rel=>exact ⟨k+1,by omega,by go_num,N+s.smps.length,by go_num,by omega,hid (by rw [HNX.out,← HS.out]),hid (HN.out.alloc' _)⟩
   case measure=>simp [intOf];omega
  ·obtain rfl:k=l.length:=by omega
   go_wp2;go_ret;have h:=HS.out;rw [List.take_length] at h;rw [h];exact ⟨rfl,HN.out⟩
theorem RSamples_any (w:World) (b:Nat) (A:Option Addr) (n c:Nat) (l:List Ser) (hI:InSer w b A n c l) (hs:smpSum l≤1000000000) (hn:n≤1000000000) :
  Calls Tryz.prog 96 #[.slice A n c] w fun e w'=>e=.returned (.int .i64 (smpSum l:Int))∧w=w':=by
 have hl:=hI.len;subst hl;have HR:=hid hI.rd;clear hI;go_enter Tryz.func96,Tryz.ntmps96
 go_wp2
 go_loop [3,4] (fun v i=>∃ k:Nat,k≤l.length∧i=.int .i64 k∧∃ N:Nat,v=.int .i64 N∧N≤1000000000∧Hid (N=smpSum (l.take k))) (fun _ i=>l.length - (intOf i).toNat)
 case atStart=>exact ⟨0,by omega,rfl,0,rfl,by omega,hid rfl⟩
 case round =>
  obtain ⟨k,hk,rfl,N,rfl,hN,HS⟩:=hrel;by_cases hlt:k < l.length
  ·have hltI:(k:Int) < (l.length:Int):=by omega
   obtain ⟨o,rfl,_,hc0,hc1⟩:=two_at HR.out hlt;have HNX:=hid (smpSum_snoc hlt);have htk:=smpSum_take l (k+1);rw [HNX.out,← HS.out] at htk;generalize l[k]=s at *;go_wp2
   go_round
   case rel=>exact ⟨k+1,by omega,by go_num,N+s.smps.length,by go_num,by omega,hid (by rw [HNX.out,← HS.out])⟩
   case measure=>simp [intOf];omega
  ·obtain rfl:k=l.length:=by omega
   go_wp2;go_ret;have h:=HS.out;rw [List.take_length] at h;rw [h];exact ⟨rfl,rfl⟩
theorem mcheck_any (w:World) (b:Nat) (A:Option Addr) (n c:Nat) (l:List Ser) (hI:InSer w b A n c l) (hs:smpSum l≤100000) (hn:n≤100000) :
  Calls Tryz.prog 100 #[.slice A n c] w fun e w'=>e=.returned (.int .i64 0)∧Nw w w':=by
 have HS:=hid (Samples_any w b A n c l hI (by omega) (by omega));have h1:decide ((1048576:Int) < (n:Int))=false:=by rw [decide_eq_false_iff_not];omega
 generalize smpSum l=S at *;have h2:decide ((16777216:Int) < (S:Int))=false:=by rw [decide_eq_false_iff_not];omega
 clear hI;go_enter Tryz.func100,Tryz.ntmps100
 go_wp2_with (go_at_call 169;refine HS.out.mono ?_;rintro e w1 ⟨rfl,hN⟩)
 go_ret;exact ⟨rfl,hN⟩
theorem large_any (w:World) (b:Nat) (A:Option Addr) (n c:Nat) (l:List Ser) (hI:InSer w b A n c l) (hs:smpSum l≤100000) (hn:n≤100000) :
  Calls Tryz.prog 47 #[.slice A n c] w fun e w'=>e=.returned (.bool false)∧w=w':=by
 have HS:=hid (RSamples_any w b A n c l hI (by omega) (by omega));have h1:decide ((1048576:Int) < (n:Int))=false:=by rw [decide_eq_false_iff_not];omega
 generalize smpSum l=S at *;have h2:decide ((16777216:Int) < (S:Int))=false:=by rw [decide_eq_false_iff_not];omega
 clear hI;go_enter Tryz.func47,Tryz.ntmps47
 go_wp2_with (go_at_call 96;refine HS.out.mono ?_;rintro e w1 ⟨rfl,hw⟩;subst hw)
 go_ret;exact ⟨rfl,rfl⟩
end
section
open Go Go.RowKit
abbrev cT (l:List ByteArray):List Value:=l.map Value.string
theorem E_str:ElemT Tryz.prog 34 9 (.string .empty) 1 16:=ElemT.mk' Tryz.underlying34 (by kernel_rfl) rfl (by omega)
theorem E_lab:ElemT Tryz.prog 78 124 (.agg #[.string .empty,.string .empty]) 2 32:=ElemT.mk' Tryz.underlying78 (by kernel_rfl) rfl (by omega)
theorem oc_T (l:List ByteArray):∀ u∈cT l,u.oneCell'=true:=by
 intro u hu;obtain ⟨x,_,rfl⟩:=List.mem_map.1 hu;rfl
theorem oc_L (l:List Lab):∀ u∈cL l,u.oneCell'=true:=c2_one (fun _=>rfl) (fun _=>rfl) l
def FewT (l:List ByteArray):Prop:=l.length≤500∧∀ x∈l,x.size≤200000
set_option maxRecDepth 100000 in
theorem Large10_any (w:World) (b:Nat) (A:Option Addr) (n c:Nat) (l:List ByteArray) (hn:n=l.length) (hr:Rd w b A (cT l)) :
  Calls Tryz.prog 95 #[.slice A n c] w fun e w'=>∃ v:Nat,e=.returned (.int .i64 (v:Int))∧(v=1∨(v=0∧FewT l))∧w=w':=by
 subst hn;go_enter Tryz.func95,Tryz.ntmps95
 go_wp2
 go_loop [3,8] (fun v i=>∃ k:Nat,k≤l.length∧i=.int .i64 k∧∃ N:Nat,v=.int .i64 N∧N≤200000∧k≤N∧Hid (∀ x∈l.take k,x.size≤200000)∧Hid (0 < k→l.length≤500)) (fun _ i=>l.length - (intOf i).toNat)
 case atStart=>exact ⟨0,by omega,rfl,0,rfl,by omega,by omega,hid (by simp),hid (by omega)⟩
 case round =>
  obtain ⟨k,hk,rfl,N,rfl,hN,hkN,HF,hl5⟩:=hrel;by_cases hlt:k < l.length
  ·have hltI:(k:Int) < (l.length:Int):=by omega
   obtain ⟨o,rfl,_,hc⟩:=hr.get (k:=k) (by simpa using hlt);rw [List.getElem_map] at hc;have HT:=hid (List.take_succ_eq_append_getElem hlt);generalize l[k]=x at *;by_cases hs:x.size≤200000
   ·by_cases h2:200000 < N+(1+x.size)
    ·have h2I:(200000:Int) < (N:Int)+(1+(x.size:Int)):=by omega
     go_wp2;go_ret;exact ⟨1,rfl,.inl rfl,rfl⟩
    ·have h2I:¬ (200000:Int) < (N:Int)+(1+(x.size:Int)):=by omega
     by_cases h5:500 < l.length
     ·have h5I:(500:Int) < (l.length:Int):=by omega
      go_wp2;go_ret;exact ⟨1,rfl,.inl rfl,rfl⟩
     ·have h5I:¬ (500:Int) < (l.length:Int):=by omega
      go_wp2
      go_round
      case rel =>
       refine ⟨k+1,by omega,by go_num,N+(1+x.size),by go_num,by omega,by omega,hid ?_,hid fun _=>by omega⟩;rw [HT.out];intro y hy;rcases List.mem_append.1 hy with h | h
       ·exact HF.out y h
       ·simp at h;subst h;exact hs
      case measure=>simp [intOf];omega
   ·have hsI:(200000:Int) < (x.size:Int):=by omega
    have hmin:min (x.size:Int) 200000=200000:=by omega
    have h2I:(200000:Int) < (N:Int)+200001:=by omega
    go_wp2;go_ret;exact ⟨1,rfl,.inl rfl,rfl⟩
  ·obtain rfl:k=l.length:=by omega
   go_wp2;go_ret;have h:=HF.out;rw [List.take_length] at h;exact ⟨0,rfl,.inr ⟨rfl,by have:=hl5.out;omega,h⟩,rfl⟩
def strsOf (l:List Lab):List ByteArray:=l.flatMap fun x=>[x.1,x.2]
theorem cT_strs (l:List Lab):cT (strsOf l)=cL l:=by
 unfold cT strsOf cL c2;rw [List.map_flatMap];rfl
theorem strsOf_length (l:List Lab):(strsOf l).length=2*l.length:=by
 rw [← c2_length (f:=fun x:Lab=>Value.string x.1) (g:=fun x=>.string x.2) l];show _=(cL l).length
 rw [← cT_strs,List.length_map]
set_option maxRecDepth 100000 in
theorem RStrings_any (w:World) (b:Nat) (A:Option Addr) (n c:Nat) (l:List Lab) (hn:n=l.length) (hm:n≤1000000) (hr:Rd w b A (cL l)) :
  Calls Tryz.prog 65 #[.slice A n c] w fun e w'=>∃ b' A' c',e=.returned (.slice A' (2*n) c')∧Ow w' b' 9 1 A' (2*n) c' (cT (strsOf l))∧w.heap.size≤b'∧Nw w w':=by
 subst hn;have hbl:l=[]∨b < w.heap.size:=by
  rcases hr with h | ⟨_,_,h,_⟩
  ·left
   have:=congrArg List.length h;rw [show (cL l).length=2*l.length from c2_length l] at this;exact List.eq_nil_of_length_eq_zero (by simp at this;omega)
  ·exact .inr h
 have HR:=hid hr;clear hr;obtain ⟨i0',hi,hz0,hz1,hz2⟩:=E_str.info;go_enter Tryz.func65,Tryz.ntmps65
 go_wp2;go_loopw [3,4] (fun s i wr=>∃ k:Nat,k≤l.length∧i=.int .i64 k∧∃ (bk:Nat) (Ak:Option Addr) (ck:Nat),s=.slice Ak (2*k) ck∧Hid (Ow wr bk 9 1 Ak (2*k) ck (cT (strsOf (l.take k))))∧w.heap.size≤bk∧Hid (Nw w wr)) (fun _ i _=>l.length - (intOf i).toNat)
 case atStart=>exact ⟨0,by omega,rfl,w.heap.size,none,0,rfl,hid (Ow.nil _ _ _ _),Nat.le_refl _,hid (Nw.refl _)⟩
 case round =>
  obtain ⟨k,hk,rfl,bk,Ak,ck,rfl,HO,hbk,HN⟩:=hrel;have hsr:=HN.out.size;by_cases hlt:k < l.length
  ·have hltI:(k:Int) < (l.length:Int):=by omega
   obtain ⟨o,rfl,hbw,hc0,hc1⟩:=two_at (HR.out.nw HN.out) hlt;have HT:=hid (show strsOf (l.take (k+1))=strsOf (l.take k)++[l[k].1,l[k].2] from by unfold strsOf;rw [List.take_succ_eq_append_getElem hlt,List.flatMap_append];rfl);generalize l[k]=x at *;have HOW:=hid fun W (hN:Nw wr W)=>(HO.out.nw hN).row
   have HOWB:Hid (∀ j,(Value.slice Ak (2*k) ck).ownBlock=some j→j=bk):=hid (by
    rcases HO.out with ⟨rfl,_⟩ | ⟨rfl,_,_⟩
    ·simp [Value.ownBlock]
    ·simp [Value.ownBlock])
   have hbr:b < wr.heap.size:=hbw;have hb0:b < w.heap.size:=by
    rcases hbl with rfl | h
    ·simp at hlt
    ·exact h
   have HW5:Hid (∀ W5,(wr.drew.alloc (.cells #[.string x.1,.string x.2] 9)).grownBy W5 (Value.slice Ak (2*k) ck).ownBlock→(W5.cell? ⟨b,o+k*2,none⟩=some (.string x.1)∧W5.cell? ⟨b,o+k*2+1,none⟩=some (.string x.2))):=by
    refine hid fun W5 hg=>?_
    have hN4:Nw wr (wr.drew.alloc (.cells #[.string x.1,.string x.2] 9)):=(Nw.drewO wr).alloc' _;have h8:=(hg.block b (Nat.lt_of_lt_of_le hbr hN4.size) (fun e=>by have:=HOWB.out b e.symm;omega)).trans (hN4.block b hbr);exact ⟨(World.cell?_of_block h8).trans hc0,(World.cell?_of_block h8).trans hc1⟩
   go_wp2_with fail;go_region_held3 (fun w'=>w'.cell? ⟨b,o+k*2,none⟩=some (.string x.1)∧w'.cell? ⟨b,o+k*2+1,none⟩=some (.string x.2))
    (first | exact ⟨hc0,hc1⟩ | exact ⟨hp0,hp1⟩ | exact ⟨cell_past hbw hc0,cell_past hbw hc1⟩ | (constructor<;>simp [*]))
    (first
     | (refine step_append_lies _ rfl (.tmp 11) (.tmp 22) 34 rfl 0 9 i0' (.string .empty) 1 16 Tryz.underlying34 hi hz0 hz1 hz2 rfl (by omega) _ (2*k) (cT (strsOf (l.take k))) rfl (HOW.out _ (Nw.alloc' (Nw.drewO _) _)) ⟨_,0,none⟩ 2 2 [.string x.1,.string x.2] rfl rfl (World.news_of_block (heap_alloc_new _ _)) (by intro u hu;simp at hu;rcases hu with rfl | rfl<;>rfl) (by omega) (by simp only [maxLen];omega) (by omega) (Nat.zero_le _) _ rfl ?_;intro g5 cap5 w5 q1 q2 q3 q4;obtain ⟨hp0,hp1⟩:=HW5.out w5 q2))
   have hkA:Kp bk bk wr w5:=by
    have h1:Kp bk bk wr (wr.drew.alloc (.cells #[.string x.1,.string x.2] 9)):=((Nw.drewO wr).alloc' _).kp _ _;exact h1.grown q2 (fun j e=>.inl (HOWB.out j e))
   have hg5:w.heap.size≤g5:=by
    rcases q3 with h | h
    ·have:=HOWB.out g5 h;omega
    ·have h2:g5=wr.heap.size+1:=by simpa using h
     omega
   have HO5:Hid (Ow w5 g5 9 1 (some ⟨g5,0,none⟩) (2*(k+1)) cap5 (cT (strsOf (l.take (k+1))))):=hid (by
    rw [HT.out];unfold cT;rw [List.map_append];exact .inr ⟨rfl,q4,q1⟩)
   have HN5':=hid (Kp.nw HN.out hkA hbk hbk);clear hkA q1 q2 q3 q4 hp0 hp1 hc0 hc1;go_wp2;go_roundw
   case rel=>exact ⟨k+1,by omega,by go_num,g5,_,cap5,rfl,HO5,hg5,HN5'⟩
   case measure=>simp [intOf];omega
  ·obtain rfl:k=l.length:=by omega
   go_wp2;go_ret;have h:=HO.out;rw [List.take_length] at h;exact ⟨bk,Ak,ck,rfl,h,hbk,HN.out⟩
def FewL (l:List Lab):Prop:=l.length≤200∧∀ x∈l,x.1.size≤200000∧x.2.size≤200000
theorem few_strs {l:List Lab} (h:FewT (strsOf l)) (hl:l.length≤200):FewL l:=by
 refine ⟨hl,fun x hx=>⟨h.2 _ ?_,h.2 _ ?_⟩⟩
 ·exact List.mem_flatMap.2 ⟨x,hx,by simp⟩
 ·exact List.mem_flatMap.2 ⟨x,hx,by simp⟩
theorem Large11_any (w:World) (b:Nat) (A:Option Addr) (n c:Nat) (l:List Lab) (hn:n=l.length) (hr:Rd w b A (cL l)) :
  Calls Tryz.prog 46 #[.slice A n c] w fun e w'=>∃ v:Nat,e=.returned (.int .i64 (v:Int))∧(v=1∨(v=0∧FewL l))∧Nw w w':=by
 by_cases h:200 < n
 ·have hI:(200:Int) < (n:Int):=by omega
  clear hr hn;go_enter Tryz.func46,Tryz.ntmps46
  go_wp2;go_ret;exact ⟨1,rfl,.inl rfl,Nw.refl _⟩
 ·have hI:¬ (200:Int) < (n:Int):=by omega
  have HS:=hid (RStrings_any w b A n c l hn (by omega) hr);have HF:=hid fun h=>few_strs (l:=l) h (by omega)
  have HL:=hid (show 2*n=(strsOf l).length from by rw [strsOf_length,hn]);clear hr hn;go_enter Tryz.func46,Tryz.ntmps46
  go_wp2_with (first
   | (go_at_call 95;refine (Large10_any w1 b1 A1 (2*n) c1 _ HL.out HO.out.rd).mono ?_;rintro e w2 ⟨v,rfl,hv,rfl⟩)
   | (go_at_call 65;refine HS.out.mono ?_;rintro e w1 ⟨b1,A1,c1,rfl,hO,hb,hN⟩;have HO:=hid hO;clear hO))
  go_ret;exact ⟨v,rfl,by rcases hv with h | ⟨h,h'⟩;exact .inl h;exact .inr ⟨h,HF.out h'⟩,hN⟩
def labsOf (l:List Ser):List Lab:=l.flatMap (·.labs)
def Fits (l:List Ser):Prop:=l.length≤300∧smpSum l≤3000∧FewL (labsOf l)
set_option maxRecDepth 100000 in
set_option maxHeartbeats 1600000 in
theorem Large_any (w:World) (b:Nat) (A:Option Addr) (n c:Nat) (l:List Ser) (hI:InSer w b A n c l) :
  Calls Tryz.prog 15 #[.slice A n c] w fun e w'=>∃ v:Nat,e=.returned (.int .i64 (v:Int))∧(v=1∨(v=0∧Fits l))∧Nw w w':=by
 have hl:=hI.len;subst hl;have HR:=hid hI.rd;have HOK:=hid hI.ok;clear hI;go_enter Tryz.func15,Tryz.ntmps15
 go_wp2;go_loopw [3,4,9] (fun v s i wr=>∃ k:Nat,k≤l.length∧i=.int .i64 k∧∃ (N M bk:Nat) (Ak:Option Addr) (ck:Nat),v=.int .i64 N∧N≤3000∧smpSum (l.take k)≤N∧s=.slice Ak M ck∧M≤60000∧Hid (M≤200*k)∧Hid (M=(labsOf (l.take k)).length) ∧
  Hid (Ow wr bk 124 2 Ak M ck (cL (labsOf (l.take k))))∧w.heap.size≤bk∧Hid (Nw w wr)∧Hid (0 < k→l.length≤300)) (fun _ _ i _=>l.length - (intOf i).toNat)
 case atStart=>exact ⟨0,by omega,rfl,0,0,w.heap.size,none,0,rfl,by omega,by simp [smpSum],rfl,by omega,hid (by omega),hid rfl,hid (Ow.nil _ _ _ _),Nat.le_refl _,hid (Nw.refl _),hid (by omega)⟩
 case round =>
  obtain ⟨k,hk,rfl,N,M,bk,Ak,ck,rfl,hN,hNs,rfl,hM,HM1,HM2,HO,hbk,HN,HL3⟩:=hrel;by_cases hlt:k < l.length
  ·have hltI:(k:Int) < (l.length:Int):=by omega
   obtain ⟨o,rfl,_,hc0,hc1⟩:=two_at (HR.out.nw HN.out) hlt;have HNX:=hid (smpSum_snoc hlt);have HLB:=hid (show labsOf (l.take (k+1))=labsOf (l.take k)++l[k].labs from by unfold labsOf;rw [List.take_succ_eq_append_getElem hlt,List.flatMap_append];simp);have HSO:=hid (HOK.out l[k] (List.getElem_mem hlt));have hsn:=HNX.out;clear HR;generalize l[k]=s at *;by_cases h3:s.smps.length≤3000
   ·have h3I:((s.smps.length:Nat):Int)≤3000:=by omega
    by_cases h2:3000 < N+(1+s.smps.length)
    ·have h2I:(3000:Int) < (N:Int)+(1+(s.smps.length:Int)):=by omega
     go_wp2;go_ret;exact ⟨1,rfl,.inl rfl,HN.out.alloc' _⟩
    ·have h2I:¬ (3000:Int) < (N:Int)+(1+(s.smps.length:Int)):=by omega
     by_cases h5:300 < l.length
     ·have h5I:(300:Int) < (l.length:Int):=by omega
      go_wp2;go_ret;exact ⟨1,rfl,.inl rfl,HN.out.alloc' _⟩
     ·have h5I:¬ (300:Int) < (l.length:Int):=by omega
      by_cases h6:200 < s.labs.length
      ·have h6I:(200:Int) < (s.labs.length:Int):=by omega
       go_wp2;go_ret;exact ⟨1,rfl,.inl rfl,HN.out.alloc' _⟩
      ·have h6I:¬ (200:Int) < (s.labs.length:Int):=by omega
       have hMM:=HM1.out;have hNA:Nw w (wr.alloc (.cells #[.slice s.al s.labs.length s.cl,.slice s.as_ s.smps.length s.cs] 80)):=HN.out.alloc' _;have HOA:=hid (HO.out.nw ((Nw.refl wr).alloc' (.cells #[.slice s.al s.labs.length s.cl,.slice s.as_ s.smps.length s.cs] 80)));have HRA:=hid (HSO.out.1.rd.nw hNA);have HNA:=hid hNA;clear hNA;go_wp2_with (at_builtin;refine wpList_app E_lab rfl (.tmp 33) (.tmp 35) rfl rfl HOA.out rfl HRA.out (by rw [show (cL s.labs).length=2*s.labs.length from c2_length _];omega) HSO.out.1.nil (oc_L _) (by simp only [maxLen];omega) (by omega) ?_;intro b3 A3 c3 w3 q1 q2 q3 q4;have Q1:=hid q1;have Q3:=hid q3;clear q1 q3 q4)
       go_roundw
       case rel =>
        have hsA:=HNA.out.size;refine ⟨k+1,by omega,by go_num,N+(1+s.smps.length),M+s.labs.length,b3,A3,c3,by go_num,by omega,by omega,rfl,by omega,hid (by omega),hid ?_,hid ?_,by omega,hid (Kp.nw HNA.out Q3.out hbk hbk),hid fun _=>by omega⟩
        ·rw [HLB.out,List.length_append,HM2.out]
        ·have h:=Q1.out;rw [HLB.out];unfold cL at h ⊢;rw [c2_append];exact h
       case measure=>simp [intOf];omega
   ·have h3I:(3000:Int) < ((s.smps.length:Nat):Int):=by omega
    have hmin:min ((s.smps.length:Nat):Int) 3000=3000:=by omega
    have h2I:(3000:Int) < (N:Int)+3001:=by omega
    go_wp2;go_ret;exact ⟨1,rfl,.inl rfl,HN.out.alloc' _⟩
  ·obtain rfl:k=l.length:=by omega
   have HLL:=hid (Large11_any wr bk Ak M ck _ HM2.out HO.out.rd);rw [List.take_length] at hNs;go_wp2_with (go_at_call 46;refine HLL.out.mono ?_;rintro e w2 ⟨v,rfl,hv,hN2⟩)
   go_ret;rw [List.take_length] at hv;refine ⟨v,rfl,?_,HN.out.trans hN2⟩;rcases hv with h | ⟨h,h'⟩
   ·exact .inl h
   ·refine .inr ⟨h,?_,by omega,h'⟩;have:=HL3.out;omega
end
section
open Go Go.RowKit Go.Sort
theorem bl_irrefl:∀ l:List UInt8,Op.bytesLess l l=false:=by
 intro l;induction l with
 | nil=>rfl
 | cons a l ih=>simp [Op.bytesLess,ih]
theorem bl_asymm:∀ a b:List UInt8,Op.bytesLess a b=true→Op.bytesLess b a=false:=by
 intro a;induction a with
 | nil=>intro b h;cases b<;>rfl
 | cons x a ih =>
  intro b h;cases b with
  | nil=>simp [Op.bytesLess] at h
  | cons y b =>
   simp only [Op.bytesLess,Bool.or_eq_true,decide_eq_true_eq,Bool.and_eq_true,beq_iff_eq,Bool.or_eq_false_iff,decide_eq_false_iff_not,Bool.and_eq_false_iff,beq_eq_false_iff_ne] at h ⊢;rcases h with h | ⟨rfl,h⟩
   ·refine ⟨?_,.inl ?_⟩
    ·intro h';exact UInt8.lt_irrefl _ (UInt8.lt_trans h h')
    ·rintro rfl;exact UInt8.lt_irrefl _ h
   ·exact ⟨UInt8.lt_irrefl _,.inr (ih b h)⟩
theorem u8_tri (x y:UInt8):x < y∨x=y∨y < x:=by
 rcases Nat.lt_trichotomy x.toNat y.toNat with h | h | h
 ·exact .inl (UInt8.lt_iff_toNat_lt.2 h)
 ·exact .inr (.inl (UInt8.toNat_inj.1 h))
 ·exact .inr (.inr (UInt8.lt_iff_toNat_lt.2 h))
theorem bl_total:∀ a b:List UInt8,Op.bytesLess a b=true∨a=b∨Op.bytesLess b a=true:=by
 intro a;induction a with
 | nil=>intro b;cases b with | nil=>exact .inr (.inl rfl) | cons _ _=>exact .inl rfl
 | cons x a ih =>
  intro b;cases b with
  | nil=>exact .inr (.inr rfl)
  | cons y b =>
   simp only [Op.bytesLess,Bool.or_eq_true,decide_eq_true_eq,Bool.and_eq_true,beq_iff_eq];rcases u8_tri x y with h | rfl | h
   ·exact .inl (.inl h)
   ·rcases ih b with h | rfl | h
    ·exact .inl (.inr ⟨rfl,h⟩)
    ·exact .inr (.inl rfl)
    ·exact .inr (.inr (.inr ⟨rfl,h⟩))
   ·exact .inr (.inr (.inl h))
theorem bl_trans:∀ a b c:List UInt8,Op.bytesLess a b=true→Op.bytesLess b c=true→Op.bytesLess a c=true:=by
 intro a;induction a with
 | nil =>
  intro b c h1 h2;cases c with
  | nil=>cases b<;>simp [Op.bytesLess] at h2
  | cons z c=>rfl
 | cons x a ih =>
  intro b c h1 h2;cases b with
  | nil=>simp [Op.bytesLess] at h1
  | cons y b =>
   cases c with
   | nil=>simp [Op.bytesLess] at h2
   | cons z c =>
    simp only [Op.bytesLess,Bool.or_eq_true,decide_eq_true_eq,Bool.and_eq_true,beq_iff_eq] at h1 h2 ⊢;rcases h1 with h1 | ⟨rfl,h1⟩
    ·rcases h2 with h2 | ⟨rfl,h2⟩
     ·exact .inl (UInt8.lt_trans h1 h2)
     ·exact .inl h1
    ·rcases h2 with h2 | ⟨rfl,h2⟩
     ·exact .inl h2
     ·exact .inr ⟨rfl,ih b c h1 h2⟩
theorem bytes_ext {a b:ByteArray} (h:a.toList=b.toList):a=b:=by
 rw [ByteArray.toList_eq,ByteArray.toList_eq] at h;obtain ⟨⟨x⟩⟩:=a;obtain ⟨⟨y⟩⟩:=b;simp at h;rw [h]
def cmpS (a b:ByteArray):Int:=if Op.bytesLess a.toList b.toList=true then -1 else if (a.toList == b.toList)=true then 0 else 1
theorem cmpS_zero {a b:ByteArray}:cmpS a b=0↔a=b:=by
 unfold cmpS;constructor
 ·intro h;split at h
  ·cases h
  ·split at h
   ·rename_i e;exact bytes_ext (by simpa using e)
   ·cases h
 ·rintro rfl;rw [if_neg (by rw [bl_irrefl];simp),if_pos (by simp)]
theorem cmpS_neg {a b:ByteArray}:cmpS a b = -1↔Op.bytesLess a.toList b.toList=true:=by
 unfold cmpS;split
 ·rename_i h;exact ⟨fun _=>h,fun _=>rfl⟩
 ·rename_i h
  constructor
  ·intro e;split at e<;>cases e
  ·intro e;exact absurd e h
theorem cmpS_pos {a b:ByteArray}:cmpS a b=1↔Op.bytesLess b.toList a.toList=true:=by
 rcases bl_total a.toList b.toList with h | h | h
 ·rw [show cmpS a b = -1 from cmpS_neg.2 h,bl_asymm _ _ h];simp
 ·rw [show cmpS a b=0 from cmpS_zero.2 (bytes_ext h),h,bl_irrefl];simp
 ·constructor
  ·intro _;exact h
  ·intro _;unfold cmpS;rw [if_neg (by rw [bl_asymm _ _ h];simp),if_neg];intro e;have e2:a.toList=b.toList:=by simpa using e
   rw [e2,bl_irrefl] at h;cases h
theorem cmpS_in (a b:ByteArray):cmpS a b = -1∨cmpS a b=0∨cmpS a b=1:=by unfold cmpS;split;exact .inl rfl;split;exact .inr (.inl rfl);exact .inr (.inr rfl)
theorem isNaNS_any (w:World) (a:ByteArray):Calls Tryz.prog 264 #[.string a] w fun e w'=>e=.returned (.bool false)∧w=w':=by
 go_enter Tryz.func264,Tryz.ntmps264
 go_wp2;go_ret;exact ⟨by simp,rfl⟩
theorem CompareS_any (w:World) (a b:ByteArray):Calls Tryz.prog 192 #[.string a,.string b] w fun e w'=>e=.returned (.int .i64 (cmpS a b))∧w=w':=by
 have HC:=hid (show cmpS a b=(if Op.bytesLess a.toList b.toList=true then -1 else if (a.toList == b.toList)=true then 0 else 1) from rfl);generalize cmpS a b=C at *;cases h1:Op.bytesLess a.toList b.toList with
 | true =>
  have hC:=HC.out;rw [if_pos h1] at hC;subst hC;go_enter Tryz.func192,Tryz.ntmps192
  go_wp2_with (go_at_call 264;refine (isNaNS_any _ _).mono ?_;rintro e w1 ⟨rfl,hw⟩;subst hw)
  go_ret;exact ⟨rfl,rfl⟩
 | false =>
  cases h2:(a.toList == b.toList) with
  | true =>
   have hC:=HC.out;rw [if_neg (by rw [h1];simp),if_pos h2] at hC;subst hC;go_enter Tryz.func192,Tryz.ntmps192
   go_wp2_with (go_at_call 264;refine (isNaNS_any _ _).mono ?_;rintro e w1 ⟨rfl,hw⟩;subst hw)
   go_ret;exact ⟨rfl,rfl⟩
  | false =>
   have hC:=HC.out;rw [if_neg (by rw [h1];simp),if_neg (by rw [h2];simp)] at hC;subst hC;go_enter Tryz.func192,Tryz.ntmps192
   go_wp2_with (go_at_call 264;refine (isNaNS_any _ _).mono ?_;rintro e w1 ⟨rfl,hw⟩;subst hw)
   go_ret;exact ⟨rfl,rfl⟩
theorem order_any (w:World) (a b:ByteArray):Calls Tryz.prog 98 #[.string a,.string b] w fun e w'=>e=.returned (.int .i64 (cmpS a b))∧w=w':=by
 have HC:=hid (show cmpS a b=(if Op.bytesLess a.toList b.toList=true then -1 else if (a.toList == b.toList)=true then 0 else 1) from rfl);generalize cmpS a b=C at *;cases h1:Op.bytesLess a.toList b.toList with
 | true =>
  have hC:=HC.out;rw [if_pos h1] at hC;subst hC;go_enter Tryz.func98,Tryz.ntmps98
  go_wp2;go_ret;exact ⟨rfl,rfl⟩
 | false =>
  cases h2:(a.toList == b.toList) with
  | true =>
   have hC:=HC.out;rw [if_neg (by rw [h1];simp),if_pos h2] at hC;subst hC;go_enter Tryz.func98,Tryz.ntmps98
   go_wp2;go_ret;exact ⟨rfl,rfl⟩
  | false =>
   have hC:=HC.out;rw [if_neg (by rw [h1];simp),if_neg (by rw [h2];simp)] at hC;subst hC;go_enter Tryz.func98,Tryz.ntmps98
   go_wp2;go_ret;exact ⟨rfl,rfl⟩
end
section
open Go Go.RowKit Go.Sort
theorem cell_at {w:World} {b k:Nat} {cs:Array Value} {t:TypeId} {fr:Nat × Nat} (h:w.heap[b]? = some (.cells cs t fr)):w.cell? ⟨b,k,none⟩=cs[k]?:=by simp [World.cell?,h]
def partFs:Array Value:=#[.func (.func 253) #[] #[],.func (.func 254) #[] #[]]
theorem lparts_any (w:World):Calls Tryz.prog 180 #[] w fun e w'=>e=.returned (.agg partFs)∧Gr w w':=by
 go_enter Tryz.func180,Tryz.ntmps180
 go_wp2;refine bodyPost_ret (results_cell_row rfl _ _ w.heap.size 281 _ _ _ rfl (heap_alloc_new _ _) Tryz.underlying281 rfl (by kernel_rfl)) rfl ?_;exact ⟨rfl,Gr.alloc _ _⟩
theorem part1_any (w:World) (a b:ByteArray):Calls Tryz.prog 253 #[.agg #[.string a,.string b]] w fun e w'=>e=.returned (.string a)∧Gr w w':=by
 go_enter Tryz.func253,Tryz.ntmps253
 go_wp2;go_ret;exact ⟨rfl,Gr.alloc _ _⟩
theorem part2_any (w:World) (a b:ByteArray):Calls Tryz.prog 254 #[.agg #[.string a,.string b]] w fun e w'=>e=.returned (.string b)∧Gr w w':=by
 go_enter Tryz.func254,Tryz.ntmps254
 go_wp2;go_ret;exact ⟨rfl,Gr.alloc _ _⟩
theorem by_any (w:World) (f:FuncId):Calls Tryz.prog 243 #[.func (.func f) #[] #[]] w fun e w'=>e=.returned (.func (.func 294) #[] #[.pointer (some ⟨w.heap.size,0,none⟩)])∧w'=w.alloc (.cells #[.func (.func f) #[] #[]] 278):=by
 go_enter Tryz.func243,Tryz.ntmps243
 go_wp2;go_ret;exact ⟨rfl,rfl⟩
theorem byC1_any (w:World) (g:Nat) (a b c d:ByteArray) (hc:w.cell? ⟨g,0,none⟩=some (.func (.func 253) #[] #[])) :
  Calls Tryz.prog 294 #[.agg #[.string a,.string b],.agg #[.string c,.string d],.pointer (some ⟨g,0,none⟩)] w fun e w'=>e=.returned (.int .i64 (cmpS a c))∧Gr w w':=by
 have hg:=lt_of_cell hc;go_enter Tryz.func294,Tryz.ntmps294
 go_wp2_with fail;have hb0:((w.alloc (.cells #[.string a,.string b] 124)).alloc (.cells #[.string c,.string d] 124)).heap[w.heap.size]? = some (.cells #[.string a,.string b] 124 (0,0)):=by
  rw [heap_alloc_old _ _ (by simp)];exact heap_alloc_new _ _
 have hb1:((w.alloc (.cells #[.string a,.string b] 124)).alloc (.cells #[.string c,.string d] 124)).heap[w.heap.size+1]? = some (.cells #[.string c,.string d] 124 (0,0)):=by
  simpa using heap_alloc_new (w.alloc (.cells #[.string a,.string b] 124)) _
 have hgr:Gr w ((w.alloc (.cells #[.string a,.string b] 124)).alloc (.cells #[.string c,.string d] 124)):=(Gr.alloc _ _).trans (Gr.alloc _ _);have hcq:=cell_old hgr.nw hg hc;have hgq:g < ((w.alloc (.cells #[.string a,.string b] 124)).alloc (.cells #[.string c,.string d] 124)).heap.size:=Nat.lt_of_lt_of_le hg hgr.nw.size;generalize (w.alloc (.cells #[.string a,.string b] 124)).alloc (.cells #[.string c,.string d] 124)=wq at *;have hl0:=lt_of_block hb0;have hl1:=lt_of_block hb1;have q0:∀ p:Gp,(grow (wq.drewN p.n) p.os).cell? ⟨w.heap.size,0,none⟩=some (.string a):=cell_gr hl0 (by simp [World.cell?,hb0]);have q1:∀ p:Gp,(grow (wq.drewN p.n) p.os).cell? ⟨w.heap.size,1,none⟩=some (.string b):=cell_gr hl0 (by simp [World.cell?,hb0]);have q2:∀ p:Gp,(grow (wq.drewN p.n) p.os).cell? ⟨w.heap.size+1,0,none⟩=some (.string c):=cell_gr hl1 (by simp [World.cell?,hb1]);have q3:∀ p:Gp,(grow (wq.drewN p.n) p.os).cell? ⟨w.heap.size+1,1,none⟩=some (.string d):=cell_gr hl1 (by simp [World.cell?,hb1]);have q4:∀ p:Gp,(grow (wq.drewN p.n) p.os).cell? ⟨g,0,none⟩=some (.func (.func 253) #[] #[]):=cell_gr hgq hcq;refine wp_region_gr (by kernel_rfl) (by kernel_rfl) ?_
 repeat (quiet_step (first | (go_at_call 192;refine Calls.gr ((CompareS_any _ _ _).mono fun _ _ h=>⟨h.1,by rw [← h.2];exact Gr.refl _⟩)) | (go_at_call 253;refine Calls.gr (part1_any _ _ _)) | (refine Calls.gr (part1_any _ _ _))))
 refine wpQuiet_nil ?_;rintro _ ⟨p,rfl⟩;go_wp2;go_ret;exact ⟨rfl,hgr.trans ⟨p,rfl⟩⟩
theorem byC2_any (w:World) (g:Nat) (a b c d:ByteArray) (hc:w.cell? ⟨g,0,none⟩=some (.func (.func 254) #[] #[])) :
  Calls Tryz.prog 294 #[.agg #[.string a,.string b],.agg #[.string c,.string d],.pointer (some ⟨g,0,none⟩)] w fun e w'=>e=.returned (.int .i64 (cmpS b d))∧Gr w w':=by
 have hg:=lt_of_cell hc;go_enter Tryz.func294,Tryz.ntmps294
 go_wp2_with fail;have hb0:((w.alloc (.cells #[.string a,.string b] 124)).alloc (.cells #[.string c,.string d] 124)).heap[w.heap.size]? = some (.cells #[.string a,.string b] 124 (0,0)):=by
  rw [heap_alloc_old _ _ (by simp)];exact heap_alloc_new _ _
 have hb1:((w.alloc (.cells #[.string a,.string b] 124)).alloc (.cells #[.string c,.string d] 124)).heap[w.heap.size+1]? = some (.cells #[.string c,.string d] 124 (0,0)):=by
  simpa using heap_alloc_new (w.alloc (.cells #[.string a,.string b] 124)) _
 have hgr:Gr w ((w.alloc (.cells #[.string a,.string b] 124)).alloc (.cells #[.string c,.string d] 124)):=(Gr.alloc _ _).trans (Gr.alloc _ _);have hcq:=cell_old hgr.nw hg hc;have hgq:g < ((w.alloc (.cells #[.string a,.string b] 124)).alloc (.cells #[.string c,.string d] 124)).heap.size:=Nat.lt_of_lt_of_le hg hgr.nw.size;generalize (w.alloc (.cells #[.string a,.string b] 124)).alloc (.cells #[.string c,.string d] 124)=wq at *;have hl0:=lt_of_block hb0;have hl1:=lt_of_block hb1;have q0:∀ p:Gp,(grow (wq.drewN p.n) p.os).cell? ⟨w.heap.size,0,none⟩=some (.string a):=cell_gr hl0 (by simp [World.cell?,hb0]);have q1:∀ p:Gp,(grow (wq.drewN p.n) p.os).cell? ⟨w.heap.size,1,none⟩=some (.string b):=cell_gr hl0 (by simp [World.cell?,hb0]);have q2:∀ p:Gp,(grow (wq.drewN p.n) p.os).cell? ⟨w.heap.size+1,0,none⟩=some (.string c):=cell_gr hl1 (by simp [World.cell?,hb1]);have q3:∀ p:Gp,(grow (wq.drewN p.n) p.os).cell? ⟨w.heap.size+1,1,none⟩=some (.string d):=cell_gr hl1 (by simp [World.cell?,hb1]);have q4:∀ p:Gp,(grow (wq.drewN p.n) p.os).cell? ⟨g,0,none⟩=some (.func (.func 254) #[] #[]):=cell_gr hgq hcq;refine wp_region_gr (by kernel_rfl) (by kernel_rfl) ?_
 repeat (quiet_step (first | (go_at_call 192;refine Calls.gr ((CompareS_any _ _ _).mono fun _ _ h=>⟨h.1,by rw [← h.2];exact Gr.refl _⟩)) | (go_at_call 254;refine Calls.gr (part2_any _ _ _)) | (refine Calls.gr (part2_any _ _ _))))
 refine wpQuiet_nil ?_;rintro _ ⟨p,rfl⟩;go_wp2;go_ret;exact ⟨rfl,hgr.trans ⟨p,rfl⟩⟩
def cmpL (x y:Lab):Int:=if cmpS x.1 y.1≠0 then cmpS x.1 y.1 else cmpS x.2 y.2
set_option maxRecDepth 100000 in
set_option maxHeartbeats 1600000 in
theorem cmpLab_any (w:World) (x y:Lab) :
  Calls Tryz.prog 248 #[.agg #[.string x.1,.string x.2],.agg #[.string y.1,.string y.2]] w fun e w'=>e=.returned (.int .i64 (cmpL x y))∧Gr w w':=by
 have HC:=hid (show cmpL x y=(if cmpS x.1 y.1≠0 then cmpS x.1 y.1 else cmpS x.2 y.2) from rfl);obtain ⟨a,b⟩:=x;obtain ⟨c,d⟩:=y;dsimp only at HC ⊢;generalize cmpL (a,b) (c,d)=C at *;have i0:∀ W,(Instr.index 281 (.agg partFs) (.int .i64 0)).run Tryz.prog W=.ok (.agg #[.func (.func 253) #[] #[]]) W:=fun _=>by kernel_rfl
 have i1:∀ W,(Instr.index 281 (.agg partFs) (.int .i64 1)).run Tryz.prog W=.ok (.agg #[.func (.func 254) #[] #[]]) W:=fun _=>by kernel_rfl
 obtain ⟨c1,hc1⟩:∃ x,cmpS a c=x:=⟨_,rfl⟩;obtain ⟨c2,hc2⟩:∃ x,cmpS b d=x:=⟨_,rfl⟩;rw [hc1,hc2] at HC;have HV1:=hid hc1;have HV2:=hid hc2;clear hc1 hc2;go_enter Tryz.func248,Tryz.ntmps248
 go_wp2_with fail;obtain ⟨g0,hg0⟩:∃ g,g=w.heap.size:=⟨_,rfl⟩;obtain ⟨g1,hg1⟩:∃ g,g=w.heap.size+1:=⟨_,rfl⟩;have hb0:((w.alloc (.cells #[.string a,.string b] 124)).alloc (.cells #[.string c,.string d] 124)).heap[g0]? = some (.cells #[.string a,.string b] 124 (0,0)):=by
  rw [hg0,heap_alloc_old _ _ (by simp)];exact heap_alloc_new _ _
 have hb1:((w.alloc (.cells #[.string a,.string b] 124)).alloc (.cells #[.string c,.string d] 124)).heap[g1]? = some (.cells #[.string c,.string d] 124 (0,0)):=by
  rw [hg1];simpa using heap_alloc_new (w.alloc (.cells #[.string a,.string b] 124)) _
 have hN0:Gr w ((w.alloc (.cells #[.string a,.string b] 124)).alloc (.cells #[.string c,.string d] 124)):=((Gr.refl w).alloc' _).alloc' _;rw [← hg1,← hg0];clear hg0 hg1;generalize (w.alloc (.cells #[.string a,.string b] 124)).alloc (.cells #[.string c,.string d] 124)=wb at *;refine (lparts_any _).mono ?_;rintro e w1 ⟨rfl,hgr⟩;have hN1:=hgr;have hbl0:=lt_of_block hb0;have hbl1:=lt_of_block hb1;have HBB:Hid (∀ W,Gr wb W→W.cell? ⟨g0,0,none⟩=some (.string a)∧W.cell? ⟨g0,1,none⟩=some (.string b)∧W.cell? ⟨g1,0,none⟩=some (.string c)∧W.cell? ⟨g1,1,none⟩=some (.string d)):=by
  refine hid fun W hN=>?_
  have h0:=(hN.block g0 hbl0).trans hb0;have h1:=(hN.block g1 hbl1).trans hb1;exact ⟨by simp [World.cell?,h0],by simp [World.cell?,h0],by simp [World.cell?,h1],by simp [World.cell?,h1]⟩
 go_wp2_with fail;refine wp_loop_rounds 3 ?_;rw [rounds_succ];go_wp2_with fail;generalize hwq:w1.alloc (.cells #[.func (.func 253) #[] #[]] 280)=wq1;obtain ⟨gp1,hgp1⟩:∃ g,g=w1.heap.size:=⟨_,rfl⟩;have hp1:wq1.heap[gp1]? = some (.cells #[.func (.func 253) #[] #[]] 280 (0,0)):=by rw [← hwq,hgp1];exact heap_alloc_new _ _
 have hq1:Gr wb wq1:=by rw [← hwq];exact hN1.alloc' _
 rw [← hgp1];have hpl1:=lt_of_block hp1;have H1:Hid (∀ W,Gr wq1 W→W.cell? ⟨gp1,0,none⟩=some (.func (.func 253) #[] #[])∧W.cell? ⟨g0,0,none⟩=some (.string a)∧W.cell? ⟨g0,1,none⟩=some (.string b)∧W.cell? ⟨g1,0,none⟩=some (.string c)∧W.cell? ⟨g1,1,none⟩=some (.string d)):=by
  refine hid fun W hN=>?_
  have h0:=(hN.block gp1 hpl1).trans hp1;exact ⟨by simp [World.cell?,h0],HBB.out _ (hq1.trans hN)⟩
 clear hwq hgp1 hp1;have HB1:Hid (∀ W,(W.cell? ⟨gp1,0,none⟩=some (.func (.func 253) #[] #[])∧W.cell? ⟨g0,0,none⟩=some (.string a)∧W.cell? ⟨g0,1,none⟩=some (.string b)∧W.cell? ⟨g1,0,none⟩=some (.string c)∧W.cell? ⟨g1,1,none⟩=some (.string d))∧Gr wq1 W →
   Calls Tryz.prog 243 #[.func (.func 253) #[] #[]] W fun e w'=>∃ gb:Nat,e=.returned (.func (.func 294) #[] #[.pointer (some ⟨gb,0,none⟩)])∧w'.cell? ⟨gb,0,none⟩=some (.func (.func 253) #[] #[]) ∧
    ((w'.cell? ⟨gp1,0,none⟩=some (.func (.func 253) #[] #[])∧w'.cell? ⟨g0,0,none⟩=some (.string a)∧w'.cell? ⟨g0,1,none⟩=some (.string b)∧w'.cell? ⟨g1,0,none⟩=some (.string c)∧w'.cell? ⟨g1,1,none⟩=some (.string d))∧Gr wq1 w')):=by
  refine hid fun W hS=>(by_any W _).mono ?_
  rintro e w' ⟨rfl,rfl⟩;exact ⟨W.heap.size,rfl,cell_at (heap_alloc_new W _),H1.out _ (hS.2.alloc' _),hS.2.alloc' _⟩
 have HC1:Hid (∀ W (gb:Nat),W.cell? ⟨gb,0,none⟩=some (.func (.func 253) #[] #[])→((W.cell? ⟨gp1,0,none⟩=some (.func (.func 253) #[] #[])∧W.cell? ⟨g0,0,none⟩=some (.string a)∧W.cell? ⟨g0,1,none⟩=some (.string b)∧W.cell? ⟨g1,0,none⟩=some (.string c)∧W.cell? ⟨g1,1,none⟩=some (.string d))∧Gr wq1 W) →
   Calls Tryz.prog 294 #[.agg #[.string a,.string b],.agg #[.string c,.string d],.pointer (some ⟨gb,0,none⟩)] W fun e w'=>e=.returned (.int .i64 c1) ∧
    ((w'.cell? ⟨gp1,0,none⟩=some (.func (.func 253) #[] #[])∧w'.cell? ⟨g0,0,none⟩=some (.string a)∧w'.cell? ⟨g0,1,none⟩=some (.string b)∧w'.cell? ⟨g1,0,none⟩=some (.string c)∧w'.cell? ⟨g1,1,none⟩=some (.string d))∧Gr wq1 w')):=by
  refine hid fun W gb hgb hS=>?_
  have h:=byC1_any W gb a b c d hgb;rw [HV1.out] at h;refine h.mono ?_;rintro e w' ⟨rfl,hN⟩;exact ⟨rfl,H1.out _ (hS.2.trans hN),hS.2.trans hN⟩
 have E10:=hid (And.intro (H1.out _ (Gr.refl wq1)) (Gr.refl wq1));have E11:=hid (And.intro (H1.out _ (Gr.drewO wq1)) (Gr.drewO wq1));go_region_held3 (fun w'=>(w'.cell? ⟨gp1,0,none⟩=some (.func (.func 253) #[] #[])∧w'.cell? ⟨g0,0,none⟩=some (.string a)∧w'.cell? ⟨g0,1,none⟩=some (.string b)∧w'.cell? ⟨g1,0,none⟩=some (.string c)∧w'.cell? ⟨g1,1,none⟩=some (.string d))∧Gr wq1 w')
  (first | exact E10.out | exact E11.out | exact hS)
  (first
   | (go_at_call 243;refine (HB1.out _ (by assumption)).mono ?_;rintro e w5 ⟨gb,rfl,hgb,hS⟩)
   | (go_at_call 294;refine (HC1.out _ gb hgb (by assumption)).mono ?_;rintro e w6 ⟨rfl,hS⟩))
 by_cases hz:c1=0
 ·have hz1:(c1 != 0)=false:=by rw [bne_eq_false_iff_eq];exact hz
  have hC:=HC.out;rw [if_neg (by simp [hz])] at hC;have HC0:=hid hC;have HS6:=hid (hq1.trans hS.2);clear hC hS HC hz;go_wp2_with fail;rw [rounds_succ];go_wp2_with fail;generalize hwq:w6.alloc (.cells #[.func (.func 254) #[] #[]] 280)=wq2;obtain ⟨gp2,hgp2⟩:∃ g,g=w6.heap.size:=⟨_,rfl⟩;have hp2:wq2.heap[gp2]? = some (.cells #[.func (.func 254) #[] #[]] 280 (0,0)):=by rw [← hwq,hgp2];exact heap_alloc_new _ _
  have hq2:Gr wb wq2:=by rw [← hwq];exact HS6.out.alloc' _
  rw [← hgp2];have hpl2:=lt_of_block hp2;have H2:Hid (∀ W,Gr wq2 W→W.cell? ⟨gp2,0,none⟩=some (.func (.func 254) #[] #[])∧W.cell? ⟨g0,0,none⟩=some (.string a)∧W.cell? ⟨g0,1,none⟩=some (.string b)∧W.cell? ⟨g1,0,none⟩=some (.string c)∧W.cell? ⟨g1,1,none⟩=some (.string d)):=by
   refine hid fun W hN=>?_
   have h0:=(hN.block gp2 hpl2).trans hp2;exact ⟨by simp [World.cell?,h0],HBB.out _ (hq2.trans hN)⟩
  clear hwq hgp2 hp2;have HB2:Hid (∀ W,(W.cell? ⟨gp2,0,none⟩=some (.func (.func 254) #[] #[])∧W.cell? ⟨g0,0,none⟩=some (.string a)∧W.cell? ⟨g0,1,none⟩=some (.string b)∧W.cell? ⟨g1,0,none⟩=some (.string c)∧W.cell? ⟨g1,1,none⟩=some (.string d))∧Gr wq2 W →
    Calls Tryz.prog 243 #[.func (.func 254) #[] #[]] W fun e w'=>∃ gb:Nat,e=.returned (.func (.func 294) #[] #[.pointer (some ⟨gb,0,none⟩)])∧w'.cell? ⟨gb,0,none⟩=some (.func (.func 254) #[] #[]) ∧
     ((w'.cell? ⟨gp2,0,none⟩=some (.func (.func 254) #[] #[])∧w'.cell? ⟨g0,0,none⟩=some (.string a)∧w'.cell? ⟨g0,1,none⟩=some (.string b)∧w'.cell? ⟨g1,0,none⟩=some (.string c)∧w'.cell? ⟨g1,1,none⟩=some (.string d))∧Gr wq2 w')):=by
   refine hid fun W hS=>(by_any W _).mono ?_
   rintro e w' ⟨rfl,rfl⟩;exact ⟨W.heap.size,rfl,cell_at (heap_alloc_new W _),H2.out _ (hS.2.alloc' _),hS.2.alloc' _⟩
  have HC2:Hid (∀ W (gb:Nat),W.cell? ⟨gb,0,none⟩=some (.func (.func 254) #[] #[])→((W.cell? ⟨gp2,0,none⟩=some (.func (.func 254) #[] #[])∧W.cell? ⟨g0,0,none⟩=some (.string a)∧W.cell? ⟨g0,1,none⟩=some (.string b)∧W.cell? ⟨g1,0,none⟩=some (.string c)∧W.cell? ⟨g1,1,none⟩=some (.string d))∧Gr wq2 W) →
    Calls Tryz.prog 294 #[.agg #[.string a,.string b],.agg #[.string c,.string d],.pointer (some ⟨gb,0,none⟩)] W fun e w'=>e=.returned (.int .i64 c2) ∧
     ((w'.cell? ⟨gp2,0,none⟩=some (.func (.func 254) #[] #[])∧w'.cell? ⟨g0,0,none⟩=some (.string a)∧w'.cell? ⟨g0,1,none⟩=some (.string b)∧w'.cell? ⟨g1,0,none⟩=some (.string c)∧w'.cell? ⟨g1,1,none⟩=some (.string d))∧Gr wq2 w')):=by
   refine hid fun W gb hgb hS=>?_
   have h:=byC2_any W gb a b c d hgb;rw [HV2.out] at h;refine h.mono ?_;rintro e w' ⟨rfl,hN⟩;exact ⟨rfl,H2.out _ (hS.2.trans hN),hS.2.trans hN⟩
  have E20:=hid (And.intro (H2.out _ (Gr.refl wq2)) (Gr.refl wq2));have E21:=hid (And.intro (H2.out _ (Gr.drewO wq2)) (Gr.drewO wq2));go_region_held3 (fun w'=>(w'.cell? ⟨gp2,0,none⟩=some (.func (.func 254) #[] #[])∧w'.cell? ⟨g0,0,none⟩=some (.string a)∧w'.cell? ⟨g0,1,none⟩=some (.string b)∧w'.cell? ⟨g1,0,none⟩=some (.string c)∧w'.cell? ⟨g1,1,none⟩=some (.string d))∧Gr wq2 w')
   (first | exact E20.out | exact E21.out | exact hS)
   (first
    | (go_at_call 243;refine (HB2.out _ (by assumption)).mono ?_;rintro e w5 ⟨gb,rfl,hgb,hS⟩)
    | (go_at_call 294;refine (HC2.out _ gb hgb (by assumption)).mono ?_;rintro e w6 ⟨rfl,hS⟩))
  by_cases hz2:c2=0
  ·have hz3:(c2 != 0)=false:=by rw [bne_eq_false_iff_eq];exact hz2
   go_wp2_with fail;rw [rounds_succ];go_wp2_with fail;go_ret;rw [HC0.out,hz2];exact ⟨rfl,(hN0.trans hq2).trans hS.2⟩
  ·have hz3:(c2 != 0)=true:=by rw [bne_iff_ne];exact hz2
   go_wp2_with fail;go_ret;rw [HC0.out];exact ⟨rfl,(hN0.trans hq2).trans hS.2⟩
 ·have hz1:(c1 != 0)=true:=by rw [bne_iff_ne];exact hz
  have hC:=HC.out;rw [if_pos hz] at hC;have HC0:=hid hC;clear hC HC;go_wp2_with fail;go_ret;rw [HC0.out];exact ⟨rfl,(hN0.trans hq1).trans hS.2⟩
end
section
open Go Go.RowKit Go.Sort
def cmpLs:List Lab→List Lab→Int
 | [],[]=>0
 | [],_::_=>-1
 | _::_,[]=>1
 | x::a,y::b=>if cmpL x y≠0 then cmpL x y else cmpLs a b
theorem drop_cons {α:Type} {l:List α} {k:Nat} (h:k < l.length):l.drop k=l[k]::l.drop (k+1):=List.drop_eq_getElem_cons h
theorem cmpLs_ends (a b:List Lab) (k:Nat) (ha:a.length≤k):cmpLs (a.drop k) (b.drop k)=if k < b.length then -1 else 0:=by
 rw [List.drop_eq_nil_of_le ha];split
 ·rename_i h;rw [drop_cons h];rfl
 ·rw [List.drop_eq_nil_of_le (by omega)];rfl
set_option maxRecDepth 100000 in
theorem CompareFunc_any (w:World) (b1 b2:Nat) (A1 A2:Option Addr) (n1 c1 n2 c2:Nat) (l1 l2:List Lab) (hn1:n1=l1.length) (hn2:n2=l2.length) (hm1:n1≤1000000) (hm2:n2≤1000000) (hr1:Rd w b1 A1 (cL l1)) (hr2:Rd w b2 A2 (cL l2)) :
  Calls Tryz.prog 247 #[.slice A1 n1 c1,.slice A2 n2 c2,.func (.func 248) #[] #[]] w fun e w'=>e=.returned (.int .i64 (cmpLs l1 l2))∧Gr w w':=by
 subst hn1 hn2;have HR1:=hid hr1;have HR2:=hid hr2;obtain ⟨C,hC⟩:∃ C,cmpLs l1 l2=C:=⟨_,rfl⟩;rw [hC];have HC:=hid hC;clear hr1 hr2 hC;go_enter Tryz.func247,Tryz.ntmps247
 go_wp2;go_loopw [13] (fun i wr=>∃ k:Nat,k≤l1.length∧i=.int .i64 k∧k≤l2.length∧Hid (C=cmpLs (l1.drop k) (l2.drop k))∧Hid (Gr w wr)) (fun i _=>l1.length - (intOf i).toNat)
 case atStart=>exact ⟨0,by omega,rfl,by omega,hid HC.out.symm,hid (Gr.refl _)⟩
 case round =>
  obtain ⟨k,hk,rfl,hk2,HX,HN⟩:=hrel;by_cases hlt:k < l1.length
  ·have hltI:(k:Int) < (l1.length:Int):=by omega
   obtain ⟨o,rfl,_,hc0,hc1⟩:=two_at (HR1.out.nw HN.out.nw) hlt;have hd1:=drop_cons hlt;by_cases hlt2:k < l2.length
   ·have hltI2:¬ (l2.length:Int)≤(k:Int):=by omega
    have hltI3:(k:Int) < (l2.length:Int):=by omega
    obtain ⟨o2,rfl,hb2,hd0,hd1'⟩:=two_at (HR2.out.nw HN.out.nw) hlt2;have hX:=HX.out;rw [hd1,drop_cons hlt2] at hX;have HX2:=hid (show C=if cmpL l1[k] l2[k]≠0 then cmpL l1[k] l2[k] else cmpLs (l1.drop (k+1)) (l2.drop (k+1)) from hX);clear hX HX hd1 HR1 HR2;generalize l1[k]=x at *;generalize l2[k]=y at *;obtain ⟨c,hc⟩:∃ c,cmpL x y=c:=⟨_,rfl⟩;have HV:=hid fun W=>cmpLab_any W x y
    rw [hc] at HV HX2;clear hc;go_wp2_with fail;refine (HV.out _).mono ?_;rintro e w2 ⟨rfl,hN2⟩;have hNN:=((HN.out.alloc' _).alloc' _).trans hN2;by_cases hz:c=0
    ·have hz1:(c != 0)=false:=by rw [bne_eq_false_iff_eq];exact hz
     have hX:=HX2.out;rw [if_neg (by simp [hz])] at hX;have HX3:=hid hX;clear hX hz hN2;go_wp2_with fail;go_roundw
     case rel=>exact ⟨k+1,by omega,by go_num,by omega,HX3,hid hNN⟩
     case measure=>simp [intOf];omega
    ·have hz1:(c != 0)=true:=by rw [bne_iff_ne];exact hz
     have hX:=HX2.out;rw [if_pos hz] at hX;have HX3:=hid hX;clear hX hN2;go_wp2_with fail;go_ret;rw [HX3.out];exact ⟨rfl,hNN⟩
   ·have hltI2:(l2.length:Int)≤(k:Int):=by omega
    have hX:=HX.out;rw [hd1,show l2.drop k=[] from List.drop_eq_nil_of_le (by omega)] at hX;have HX2:=hid (show C=1 from hX);clear hX HX hd1;go_wp2;go_ret;rw [HX2.out];exact ⟨rfl,HN.out.alloc' _⟩
  ·obtain rfl:k=l1.length:=by omega
   have hX:=HX.out;rw [cmpLs_ends l1 l2 _ (Nat.le_refl _)] at hX;by_cases hs:l1.length < l2.length
   ·rw [if_pos hs] at hX;have HX2:=hid hX;have hsI:(l1.length:Int) < (l2.length:Int):=by omega
    clear hX HX;go_wp2;go_ret;rw [HX2.out];exact ⟨rfl,HN.out⟩
   ·rw [if_neg hs] at hX;have HX2:=hid hX;have hsI:¬ (l1.length:Int) < (l2.length:Int):=by omega
    clear hX HX;go_wp2;go_ret;rw [HX2.out];exact ⟨rfl,HN.out⟩
theorem CompareL_any (w:World) (b1 b2:Nat) (A1 A2:Option Addr) (n1 c1 n2 c2:Nat) (l1 l2:List Lab) (hn1:n1=l1.length) (hn2:n2=l2.length) (hm1:n1≤1000000) (hm2:n2≤1000000) (hr1:Rd w b1 A1 (cL l1)) (hr2:Rd w b2 A2 (cL l2)) :
  Calls Tryz.prog 172 #[.slice A1 n1 c1,.slice A2 n2 c2] w fun e w'=>e=.returned (.int .i64 (cmpLs l1 l2))∧Gr w w':=by
 have HC:=hid (CompareFunc_any w b1 b2 A1 A2 n1 c1 n2 c2 l1 l2 hn1 hn2 hm1 hm2 hr1 hr2);clear hn1 hn2 hr1 hr2;go_enter Tryz.func172,Tryz.ntmps172
 go_wp2_with (go_at_call 247;refine HC.out.mono ?_;rintro e w1 ⟨rfl,hN⟩)
 go_ret;exact ⟨rfl,hN⟩
set_option maxRecDepth 100000 in
set_option maxHeartbeats 1600000 in
theorem RCompareL_any (w:World) (b1 b2:Nat) (A1 A2:Option Addr) (n1 c1 n2 c2:Nat) (l1 l2:List Lab) (hn1:n1=l1.length) (hn2:n2=l2.length) (hm1:n1≤1000000) (hm2:n2≤1000000) (hr1:Rd w b1 A1 (cL l1)) (hr2:Rd w b2 A2 (cL l2)) :
  Calls Tryz.prog 50 #[.slice A1 n1 c1,.slice A2 n2 c2] w fun e w'=>e=.returned (.int .i64 (cmpLs l1 l2))∧Dr w w':=by
 subst hn1 hn2;have HR1:=hid hr1;have HR2:=hid hr2;obtain ⟨C,hC⟩:∃ C,cmpLs l1 l2=C:=⟨_,rfl⟩;rw [hC];have HC:=hid hC;clear hr1 hr2 hC;go_enter Tryz.func50,Tryz.ntmps50
 go_wp2;go_loopw [5] (fun i wr=>∃ k:Nat,k≤l1.length∧i=.int .i64 k∧k≤l2.length∧Hid (C=cmpLs (l1.drop k) (l2.drop k))∧Hid (Dr w wr)) (fun i _=>l1.length - (intOf i).toNat)
 case atStart=>exact ⟨0,by omega,rfl,by omega,hid HC.out.symm,hid (Dr.refl _)⟩
 case round =>
  obtain ⟨k,hk,rfl,hk2,HX,HD⟩:=hrel;by_cases hlt:k < l1.length
  ·have hltI:(k:Int) < (l1.length:Int):=by omega
   have hltd:decide ((k:Int) < (l1.length:Int))=true:=by rw [decide_eq_true_iff];exact hltI
   have hd1:=drop_cons hlt;by_cases hlt2:k < l2.length
   ·have hltI3:(k:Int) < (l2.length:Int):=by omega
    have hltd3:decide ((k:Int) < (l2.length:Int))=true:=by rw [decide_eq_true_iff];exact hltI3
    obtain ⟨o,rfl,_,hc0,hc1⟩:=two_at (HR1.out.nw HD.out.nw) hlt;obtain ⟨o2,rfl,hb2,hd0,hd1'⟩:=two_at (HR2.out.nw HD.out.nw) hlt2;have hX:=HX.out;rw [hd1,drop_cons hlt2] at hX;have HX2:=hid (show C=if cmpL l1[k] l2[k]≠0 then cmpL l1[k] l2[k] else cmpLs (l1.drop (k+1)) (l2.drop (k+1)) from hX);clear hX HX hd1 HR1 HR2;generalize l1[k]=x at *;generalize l2[k]=y at *;obtain ⟨x1,x2⟩:=x;obtain ⟨y1,y2⟩:=y;have HO1:=hid fun W=>order_any W x1 y1
    have HO2:=hid fun W=>order_any W x2 y2
    have hcl:cmpL (x1,x2) (y1,y2)=if cmpS x1 y1≠0 then cmpS x1 y1 else cmpS x2 y2:=rfl
    rw [hcl] at HX2;clear hcl;dsimp only at hc0 hc1 hd0 hd1';generalize cmpS x1 y1=e1 at *;generalize cmpS x2 y2=e2 at *;have hb1:=lt_of_cell hc0;have HT:=hid fun W (hN:Nw wr W)=>And.intro (cell_old hN hb1 hc1) (cell_old hN hb2 hd1')
    go_wp2_with fail;go_quiet ((go_at_call 98;exact Calls.quiet_of_same ((HO1.out _).mono fun _ _ h=>⟨h.1,h.2.symm⟩)))
    obtain ⟨hc1n,hd1n⟩:=HT.out _ (Nw.drewN wr nq);have HDq:=hid (HD.out.step nq);generalize World.drewN wr nq=wq at *;clear hc0 hd0 hc1 hd1';by_cases hz:e1=0
    ·have hz1:(e1 == 0)=true:=by rw [beq_iff_eq];exact hz
     have hX:=HX2.out;rw [if_neg (show ¬ e1≠0 by simp [hz])] at hX;have HX3:=hid hX;clear hX HX2;go_wp2_with fail;go_quiet ((go_at_call 98;exact Calls.quiet_of_same ((HO2.out _).mono fun _ _ h=>⟨h.1,h.2.symm⟩)))
     have HDz:=hid (HDq.out.step nq);generalize World.drewN wq nq=wz at *;by_cases hz2:e2=0
     ·have hz3:(e2 != 0)=false:=by rw [bne_eq_false_iff_eq];exact hz2
      have hX:=HX3.out;rw [if_neg (by simp [hz2])] at hX;have HX4:=hid hX;clear hX hz2 HX3;go_wp2_with fail;go_roundw
      case rel=>exact ⟨k+1,by omega,by go_num,by omega,HX4,HDz⟩
      case measure=>simp [intOf];omega
     ·have hz3:(e2 != 0)=true:=by rw [bne_iff_ne];exact hz2
      have hX:=HX3.out;rw [if_pos hz2] at hX;have HX4:=hid hX;clear hX HX3;go_wp2_with fail;go_ret;rw [HX4.out];exact ⟨rfl,HDz.out⟩
    ·have hz1:(e1 == 0)=false:=by rw [beq_eq_false_iff_ne];exact hz
     have hz2:(e1 != 0)=true:=by rw [bne_iff_ne];exact hz
     have hX:=HX2.out;rw [if_pos (show (if e1≠0 then e1 else e2)≠0 by rw [if_pos hz];exact hz),if_pos hz] at hX;have HX3:=hid hX;clear hX HX2;go_wp2_with fail;go_ret;rw [HX3.out];exact ⟨rfl,HDq.out⟩
   ·have hltd3:decide ((k:Int) < (l2.length:Int))=false:=by rw [decide_eq_false_iff_not];omega
    have hX:=HX.out;rw [hd1,show l2.drop k=[] from List.drop_eq_nil_of_le (by omega)] at hX;have HX2:=hid (show C=1 from hX);have hs1:¬ (l1.length:Int) < (l2.length:Int):=by omega
    have hs2:(l2.length:Int) < (l1.length:Int):=by omega
    clear hX HX hd1;go_wp2;go_ret;rw [HX2.out];exact ⟨rfl,HD.out⟩
  ·obtain rfl:k=l1.length:=by omega
   have hX:=HX.out;rw [cmpLs_ends l1 l2 _ (Nat.le_refl _)] at hX;by_cases hs:l1.length < l2.length
   ·rw [if_pos hs] at hX;have HX2:=hid hX;have hsI:(l1.length:Int) < (l2.length:Int):=by omega
    clear hX HX;go_wp2;go_ret;rw [HX2.out];exact ⟨rfl,HD.out⟩
   ·rw [if_neg hs] at hX;have HX2:=hid hX;have hsI:¬ (l1.length:Int) < (l2.length:Int):=by omega
    have hsJ:¬ (l2.length:Int) < (l1.length:Int):=by omega
    clear hX HX;go_wp2;go_ret;rw [HX2.out];exact ⟨rfl,HD.out⟩
end
section
open Go Go.RowKit Go.Sort
def noName (a:ByteArray):Bool:=a.toList.isEmpty
def oneE (x:Lab):Nat:=if noName x.1=true then 17 else if 65535 < x.1.size∨65535 < x.2.size then 7 else 0
theorem single_any (w:World) (a b:ByteArray) :
  Calls Tryz.prog 241 #[.agg #[.string a,.string b]] w fun e w'=>e=.returned (.int .i64 (oneE (a,b):Nat))∧Nw w w':=by
 have HE:=hid (show oneE (a,b)=(if noName a=true then 17 else if 65535 < a.size∨65535 < b.size then 7 else 0) from rfl);generalize oneE (a,b)=E at *;cases h0:noName a with
 | true =>
  have hE:=HE.out;rw [if_pos h0] at hE;have HE2:=hid hE;have h1:a.toList.isEmpty=true:=h0;clear hE HE h0;go_enter Tryz.func241,Tryz.ntmps241
  go_wp2;go_ret;rw [HE2.out];exact ⟨rfl,(Nw.refl _).alloc' _⟩
 | false =>
  have hE:=HE.out;rw [if_neg (by rw [h0];simp)] at hE;have h1:a.toList.isEmpty=false:=h0;clear HE h0;by_cases hc:65535 < a.size∨65535 < b.size
  ·rw [if_pos hc] at hE;have HE2:=hid hE;clear hE;by_cases hab:a.size < b.size
   ·have habI:(a.size:Int) < (b.size:Int):=by omega
    have hb:(65535:Int) < (b.size:Int):=by omega
    go_enter Tryz.func241,Tryz.ntmps241
    go_wp2;go_ret;rw [HE2.out];exact ⟨rfl,(Nw.refl _).alloc' _⟩
   ·have habI:¬ (a.size:Int) < (b.size:Int):=by omega
    have hb:(65535:Int) < (a.size:Int):=by omega
    go_enter Tryz.func241,Tryz.ntmps241
    go_wp2;go_ret;rw [HE2.out];exact ⟨rfl,(Nw.refl _).alloc' _⟩
  ·rw [if_neg hc] at hE;have HE2:=hid hE;have h2:a.size≤65535:=by omega
   have h3:b.size≤65535:=by omega
   clear hE hc;by_cases hab:a.size < b.size
   ·have habI:(a.size:Int) < (b.size:Int):=by omega
    have hb:¬ (65535:Int) < (b.size:Int):=by omega
    go_enter Tryz.func241,Tryz.ntmps241
    go_wp2;go_ret;rw [HE2.out];exact ⟨rfl,(Nw.refl _).alloc' _⟩
   ·have habI:¬ (a.size:Int) < (b.size:Int):=by omega
    have hb:¬ (65535:Int) < (a.size:Int):=by omega
    go_enter Tryz.func241,Tryz.ntmps241
    go_wp2;go_ret;rw [HE2.out];exact ⟨rfl,(Nw.refl _).alloc' _⟩
theorem one_any (w:World) (a b:ByteArray) :
  Calls Tryz.prog 97 #[.agg #[.string a,.string b]] w fun e w'=>e=.returned (.int .i64 (oneE (a,b):Nat))∧Nw w w':=by
 have HE:=hid (show oneE (a,b)=(if noName a=true then 17 else if 65535 < a.size∨65535 < b.size then 7 else 0) from rfl);generalize oneE (a,b)=E at *;cases h0:noName a with
 | true =>
  have hE:=HE.out;rw [if_pos h0] at hE;have HE2:=hid hE;have h1:a.toList.isEmpty=true:=h0;clear hE HE h0;go_enter Tryz.func97,Tryz.ntmps97
  go_wp2;go_ret;rw [HE2.out];exact ⟨rfl,(Nw.refl _).alloc' _⟩
 | false =>
  have hE:=HE.out;rw [if_neg (by rw [h0];simp)] at hE;have h1:a.toList.isEmpty=false:=h0;clear HE h0;by_cases ha:65535 < a.size
  ·rw [if_pos (.inl ha)] at hE;have HE2:=hid hE;have haI:decide ((65535:Int) < (a.size:Int))=true:=by rw [decide_eq_true_iff];omega
   clear hE;go_enter Tryz.func97,Tryz.ntmps97
   go_wp2;go_ret;rw [HE2.out];exact ⟨rfl,(Nw.refl _).alloc' _⟩
  ·have haI:decide ((65535:Int) < (a.size:Int))=false:=by rw [decide_eq_false_iff_not];omega
   by_cases hb:65535 < b.size
   ·rw [if_pos (.inr hb)] at hE;have HE2:=hid hE;have hbI:decide ((65535:Int) < (b.size:Int))=true:=by rw [decide_eq_true_iff];omega
    clear hE;go_enter Tryz.func97,Tryz.ntmps97
    go_wp2;go_ret;rw [HE2.out];exact ⟨rfl,(Nw.refl _).alloc' _⟩
   ·have hbI:decide ((65535:Int) < (b.size:Int))=false:=by rw [decide_eq_false_iff_not];omega
    rw [if_neg (by rintro (h | h);exact ha h;exact hb h)] at hE;have HE2:=hid hE;clear hE;go_enter Tryz.func97,Tryz.ntmps97
    go_wp2;go_ret;rw [HE2.out];exact ⟨rfl,(Nw.refl _).alloc' _⟩
def chkF:Option ByteArray→List Lab→Nat
 | _,[]=>0
 | none,x::l=>if oneE x≠0 then oneE x else chkF (some x.1) l
 | some p,x::l=>if oneE x≠0 then oneE x else if cmpS p x.1=0 then 18 else if cmpS p x.1=1 then 16 else chkF (some x.1) l
def chkL (l:List Lab):Nat:=chkF none l
def prevN (l:List Lab) (k:Nat):Option ByteArray:=if k=0 then none else (l[k - 1]?).map (·.1)
set_option maxRecDepth 100000 in
set_option maxHeartbeats 1600000 in
theorem CheckL_any (w:World) (b:Nat) (A:Option Addr) (n c:Nat) (l:List Lab) (hn:n=l.length) (hm:n≤1000000) (hr:Rd w b A (cL l)) :
  Calls Tryz.prog 170 #[.slice A n c] w fun e w'=>e=.returned (.int .i64 (chkL l:Nat))∧Nw w w':=by
 subst hn;have HR:=hid hr;obtain ⟨C,hC⟩:∃ C,chkL l=C:=⟨_,rfl⟩;rw [hC];have HC:=hid hC;have i0:∀ W,(Instr.index 281 (.agg partFs) (.int .i64 0)).run Tryz.prog W=.ok (.agg #[.func (.func 253) #[] #[]]) W:=fun _=>by kernel_rfl
 have fl0:∀ W,(Instr.field 280 (.agg #[.func (.func 253) #[] #[]]) 0).run Tryz.prog W=.ok (.func (.func 253) #[] #[]) W:=fun _=>by kernel_rfl
 clear hr hC;go_enter Tryz.func170,Tryz.ntmps170
 go_wp2_with (first
  | (go_at_call 180;refine (lparts_any _).mono ?_;rintro e w1 ⟨rfl,hgr⟩)
  | (go_at_call 243;refine (by_any _ _).mono ?_;rintro e w2 ⟨rfl,rfl⟩))
 generalize hw2:w1.alloc (.cells #[.func (.func 253) #[] #[]] 278)=w2;have hN2:Nw w w2:=by rw [← hw2];exact hgr.nw.alloc' _
 have hbk:w2.heap[w1.heap.size]? = some (.cells #[.func (.func 253) #[] #[]] 278 (0,0)):=by rw [← hw2];exact heap_alloc_new _ _
 obtain ⟨gb,hgb⟩:∃ g,g=w1.heap.size:=⟨_,rfl⟩;rw [← hgb] at hbk ⊢;have hgl:=lt_of_block hbk;have HBK:=hid hbk;have HN2:=hid hN2;clear hw2 hgb hgr hN2 hbk;go_loopw [13] (fun i wr=>∃ k:Nat,k≤l.length∧i=.int .i64 k∧Hid (C=chkF (prevN l k) (l.drop k))∧Hid (Nw w2 wr)) (fun i _=>l.length - (intOf i).toNat)
 case atStart=>exact ⟨0,by omega,rfl,hid (by rw [← HC.out];rfl),hid (Nw.refl _)⟩
 case round =>
  obtain ⟨k,hk,rfl,HX,HN⟩:=hrel;by_cases hlt:k < l.length
  ·have hltI:(k:Int) < (l.length:Int):=by omega
   obtain ⟨o,rfl,hbw,hc0,hc1⟩:=two_at ((HR.out.nw HN2.out).nw HN.out) hlt;have hX:=HX.out;rw [drop_cons hlt] at hX;have HPX:=hid (show prevN l (k+1)=some l[k].1 from by unfold prevN;rw [if_neg (by omega),Nat.add_sub_cancel,List.getElem?_eq_getElem hlt];rfl);have HPV:=hid fun (h:k - 1 < l.length)=>two_at ((HR.out.nw HN2.out).nw HN.out) h
   generalize l[k]=x at *;obtain ⟨a,d⟩:=x;dsimp only at hc0 hc1 HPX;have HS:=hid fun W=>single_any W a d
   obtain ⟨E,hE⟩:∃ E,oneE (a,d)=E:=⟨_,rfl⟩;rw [hE] at HS;have HE:=hid hE;have hNA:Nw w2 (wr.alloc (.cells #[.string a,.string d] 124)):=HN.out.alloc' _;have HNA:=hid hNA;have hbx:(wr.alloc (.cells #[.string a,.string d] 124)).heap[wr.heap.size]? = some (.cells #[.string a,.string d] 124 (0,0)):=heap_alloc_new _ _;clear hE hNA;by_cases hE0:E=0
   ·have hE1:((E:Int) != 0)=false:=by rw [bne_eq_false_iff_eq];omega
    by_cases hk0:k=0
    ·subst hk0;rw [show prevN l 0=none from rfl] at hX;have HX2:=hid (show C=chkF (some a) (l.drop 1) from by
      rw [hX];show (if oneE (a,d)≠0 then oneE (a,d) else chkF (some a) (l.drop (0+1)))=_
      rw [if_neg (by rw [HE.out];simp [hE0])])
     simp only [Nat.zero_mul,Nat.add_zero] at hc0 hc1;clear hX HX;go_wp2_with (go_at_call 241;refine (HS.out _).mono ?_;rintro e w3 ⟨rfl,hN3⟩)
     go_roundw
     case rel=>exact ⟨1,by omega,by go_num,by rw [HPX.out];exact HX2,hid (HNA.out.trans hN3)⟩
     case measure=>simp [intOf];omega
    ·have hk0':((k:Int) == 0)=false:=by rw [beq_eq_false_iff_ne];omega
     have j0:(0:Int)≤(k:Int) - 1:=by omega
     have j1:(k:Int) - 1 < (l.length:Int):=by omega
     have j2:((k:Int) - 1).toNat=k - 1:=by omega
     obtain ⟨o',e',_,hp0,hp1⟩:=HPV.out (by omega);obtain rfl:o'=o:=by injection e' with e';injection e' with _ e' _;exact e'.symm
     have HPP:=hid (show prevN l k=some l[k - 1].1 from by unfold prevN;rw [if_neg hk0,List.getElem?_eq_getElem (by omega)];rfl);generalize l[k - 1]=y at *;obtain ⟨p,r⟩:=y;dsimp only at hp0 hp1 HPP;rw [HPP.out] at hX;obtain ⟨s,hs⟩:∃ s,cmpS p a=s:=⟨_,rfl⟩;have hsin:=cmpS_in p a;rw [hs] at hsin;have HX2:=hid (show C=if s=0 then 18 else if s=1 then 16 else chkF (some a) (l.drop (k+1)) from by
      rw [hX];show (if oneE (a,d)≠0 then oneE (a,d) else if cmpS p a=0 then 18 else if cmpS p a=1 then 16 else chkF (some a) (l.drop (k+1)))=_
      rw [if_neg (by rw [HE.out];simp [hE0]),hs])
     have HCL:=hid fun W (h:W.cell? ⟨gb,0,none⟩=some (.func (.func 253) #[] #[]))=>byC1_any W gb p r a d h
     rw [hs] at HCL;clear hX HX hs;go_wp2_with (go_at_call 241;refine (HS.out _).mono ?_;rintro e w3 ⟨rfl,hN3⟩)
     have hNW:=HN.out.trans (((Nw.refl wr).alloc' _).trans hN3);have hNr:Nw wr w3:=((Nw.refl wr).alloc' _).trans hN3;have hx3:=(hN3.block _ (lt_of_block hbx)).trans hbx;have hxl:=lt_of_block hx3;have hg3:=(hNW.block gb hgl).trans HBK.out;have hg3l:=lt_of_block hg3;have hbw3:b < w3.heap.size:=Nat.lt_of_lt_of_le hbw hNr.size;have q0:∀ p':Gp,(grow (w3.drewN p'.n) p'.os).cell? ⟨b,o'+(k - 1)*2,none⟩=some (.string p):=cell_gr hbw3 (cell_old hNr hbw hp0);have q1:∀ p':Gp,(grow (w3.drewN p'.n) p'.os).cell? ⟨b,o'+(k - 1)*2+1,none⟩=some (.string r):=cell_gr hbw3 (cell_old hNr hbw hp1);have q2:∀ p':Gp,(grow (w3.drewN p'.n) p'.os).cell? ⟨wr.heap.size,0,none⟩=some (.string a):=cell_gr hxl (by simp [World.cell?,hx3]);have q3:∀ p':Gp,(grow (w3.drewN p'.n) p'.os).cell? ⟨wr.heap.size,1,none⟩=some (.string d):=cell_gr hxl (by simp [World.cell?,hx3]);have q4:∀ p':Gp,(grow (w3.drewN p'.n) p'.os).cell? ⟨gb,0,none⟩=some (.func (.func 253) #[] #[]):=cell_gr hg3l (by simp [World.cell?,hg3]);have Q4:=hid q4;have j3:IntKind.i64.wrap ((k:Int) - 1)=(k:Int) - 1:=IntWalk.i64_in _ (by omega);go_wp2_with fail;refine wp_region_gr (by kernel_rfl) (by kernel_rfl) ?_
     repeat (go_big_quiet_step (first | (go_at_call 294;refine Calls.gr (HCL.out _ (Q4.out _)))))
     refine wpQuiet_nil ?_;rintro _ ⟨p',rfl⟩;have HNZ:=hid (HN.out.trans (hNr.trans (Gr.nw ⟨p',rfl⟩:Nw w3 _)));rcases hsin with rfl | rfl | rfl
     ·have HX3:=hid (show C=chkF (some a) (l.drop (k+1)) from by rw [HX2.out];rfl);go_wp2_with fail;go_roundw
      case rel=>exact ⟨k+1,by omega,by go_num,by rw [HPX.out];exact HX3,HNZ⟩
      case measure=>simp [intOf];omega
     ·have HX3:=hid (show C=18 from by rw [HX2.out];rfl);go_wp2_with fail;go_ret;rw [HX3.out];exact ⟨rfl,HN2.out.trans HNZ.out⟩
     ·have HX3:=hid (show C=16 from by rw [HX2.out];rfl);go_wp2_with fail;go_ret;rw [HX3.out];exact ⟨rfl,HN2.out.trans HNZ.out⟩
   ·have hE1:((E:Int) != 0)=true:=by rw [bne_iff_ne];omega
    have HX2:=hid (show C=E from by
     rw [hX];cases prevN l k with
     | none =>
      show (if oneE (a,d)≠0 then oneE (a,d) else _)=_
      rw [if_pos (by rw [HE.out];exact hE0),HE.out]
     | some q =>
      show (if oneE (a,d)≠0 then oneE (a,d) else _)=_
      rw [if_pos (by rw [HE.out];exact hE0),HE.out])
    clear hX HX;go_wp2_with (go_at_call 241;refine (HS.out _).mono ?_;rintro e w3 ⟨rfl,hN3⟩)
    go_ret;rw [HX2.out];exact ⟨rfl,HN2.out.trans (HNA.out.trans hN3)⟩
  ·obtain rfl:k=l.length:=by omega
   have hX:=HX.out;rw [List.drop_length] at hX;have HX2:=hid (show C=0 from by rw [hX];cases prevN l l.length<;>rfl);go_wp2;go_ret;rw [HX2.out];exact ⟨rfl,HN2.out.trans HN.out⟩
end
section
open Go Go.RowKit Go.Sort
set_option maxRecDepth 100000 in
set_option maxHeartbeats 1600000 in
theorem RCheckL_any (w:World) (b:Nat) (A:Option Addr) (n c:Nat) (l:List Lab) (hn:n=l.length) (hm:n≤1000000) (hr:Rd w b A (cL l)) :
  Calls Tryz.prog 48 #[.slice A n c] w fun e w'=>e=.returned (.int .i64 (chkL l:Nat))∧Nw w w':=by
 subst hn;have HR:=hid hr;obtain ⟨C,hC⟩:∃ C,chkL l=C:=⟨_,rfl⟩;rw [hC];have HC:=hid hC;clear hr hC;go_enter Tryz.func48,Tryz.ntmps48
 go_wp2;go_loopw [3] (fun i wr=>∃ k:Nat,k≤l.length∧i=.int .i64 k∧Hid (C=chkF (prevN l k) (l.drop k))∧Hid (Nw w wr)) (fun i _=>l.length - (intOf i).toNat)
 case atStart=>exact ⟨0,by omega,rfl,hid (by rw [← HC.out];rfl),hid (Nw.refl _)⟩
 case round =>
  obtain ⟨k,hk,rfl,HX,HN⟩:=hrel;by_cases hlt:k < l.length
  ·have hltI:(k:Int) < (l.length:Int):=by omega
   obtain ⟨o,rfl,hbw,hc0,hc1⟩:=two_at (HR.out.nw HN.out) hlt;have hX:=HX.out;rw [drop_cons hlt] at hX;have HPX:=hid (show prevN l (k+1)=some l[k].1 from by unfold prevN;rw [if_neg (by omega),Nat.add_sub_cancel,List.getElem?_eq_getElem hlt];rfl);have HPV:=hid fun (h:k - 1 < l.length)=>two_at (HR.out.nw HN.out) h
   generalize l[k]=x at *;obtain ⟨a,d⟩:=x;dsimp only at hc0 hc1 HPX;have HS:=hid fun W=>one_any W a d
   obtain ⟨E,hE⟩:∃ E,oneE (a,d)=E:=⟨_,rfl⟩;rw [hE] at HS;have HE:=hid hE;clear hE;by_cases hE0:E=0
   ·have hE1:((E:Int) != 0)=false:=by rw [bne_eq_false_iff_eq];omega
    by_cases hk0:k=0
    ·subst hk0;rw [show prevN l 0=none from rfl] at hX;have HX2:=hid (show C=chkF (some a) (l.drop 1) from by
      rw [hX];show (if oneE (a,d)≠0 then oneE (a,d) else chkF (some a) (l.drop (0+1)))=_
      rw [if_neg (by rw [HE.out];simp [hE0])])
     simp only [Nat.zero_mul,Nat.add_zero] at hc0 hc1;have i0:(0:Int) < (l.length:Int):=by omega
     clear hX HX;go_wp2_with (go_at_call 97;refine (HS.out _).mono ?_;rintro e w3 ⟨rfl,hN3⟩)
     have HN3:=hid (HN.out.trans hN3);clear hN3 hc0 hc1;refine wp_region_quiet_lit (by kernel_rfl) (by kernel_rfl) ?_
     repeat (with_reducible refine wpQuiet_step ?_;intro K hK;go_simp;refine hK _ ?_;clear hK K)
     with_reducible refine wpQuiet_nil ?_
     rintro _ ⟨nq,rfl⟩;have HNq:=hid (HN3.out.trans (Nw.drewN w3 nq));generalize World.drewN w3 nq=wq at *;go_wp2_with fail;refine wp_region_quiet_lit (by kernel_rfl) (by kernel_rfl) ?_
     repeat (with_reducible refine wpQuiet_step ?_;intro K hK;go_simp;refine hK _ ?_;clear hK K)
     with_reducible refine wpQuiet_nil ?_
     rintro _ ⟨nq,rfl⟩;have HNz:=hid (HNq.out.trans (Nw.drewN wq nq));generalize World.drewN wq nq=wz at *;go_wp2_with fail;go_roundw
     case rel=>exact ⟨1,by omega,by go_num,by rw [HPX.out];exact HX2,HNz⟩
     case measure=>simp [intOf];omega
    ·have hk0':(0:Int) < (k:Int):=by omega
     have hkd:decide (0 < k)=true:=by rw [decide_eq_true_iff];omega
     have j0:(0:Int)≤(k:Int) - 1:=by omega
     have j1:(k:Int) - 1 < (l.length:Int):=by omega
     have j2:((k:Int) - 1).toNat=k - 1:=by omega
     obtain ⟨o',e',_,hp0,hp1⟩:=HPV.out (by omega);obtain rfl:o'=o:=by injection e' with e';injection e' with _ e' _;exact e'.symm
     have HPP:=hid (show prevN l k=some l[k - 1].1 from by unfold prevN;rw [if_neg hk0,List.getElem?_eq_getElem (by omega)];rfl);generalize l[k - 1]=y at *;obtain ⟨p,r⟩:=y;dsimp only at hp0 hp1 HPP;rw [HPP.out] at hX;obtain ⟨s,hs⟩:∃ s,cmpS p a=s:=⟨_,rfl⟩;have hsin:=cmpS_in p a;rw [hs] at hsin;have HX2:=hid (show C=if s=0 then 18 else if s=1 then 16 else chkF (some a) (l.drop (k+1)) from by
      rw [hX];show (if oneE (a,d)≠0 then oneE (a,d) else if cmpS p a=0 then 18 else if cmpS p a=1 then 16 else chkF (some a) (l.drop (k+1)))=_
      rw [if_neg (by rw [HE.out];simp [hE0]),hs])
     have HCE:=hid fun W (hN:Nw wr W)=>And.intro (cell_old hN hbw hc0) (cell_old hN hbw hp0)
     have HSS:=hid hs;clear hX HX hs hp1;rcases hsin with rfl | rfl | rfl
     ·have h1:(a.toList == p.toList)=false:=by
       rw [beq_eq_false_iff_ne];intro h;have:=cmpS_neg.1 HSS.out;rw [h,bl_irrefl] at this;cases this
      have h2:Op.bytesLess a.toList p.toList=false:=bl_asymm _ _ (cmpS_neg.1 HSS.out);have HX3:=hid (show C=chkF (some a) (l.drop (k+1)) from by rw [HX2.out];rfl);go_wp2_with (go_at_call 97;refine (HS.out _).mono ?_;rintro e w3 ⟨rfl,hN3⟩)
      obtain ⟨d0,d1⟩:=HCE.out _ hN3;clear hc0 hc1 hp0;go_quiet (fail)
      have hNq:=hN3.trans (Nw.drewN w3 nq);obtain ⟨d2,d3⟩:=HCE.out _ hNq;generalize World.drewN w3 nq=wq at *;clear d0 d1;go_wp2_with fail;go_quiet (fail)
      have HNz:=hid (HN.out.trans (hNq.trans (Nw.drewN wq nq)));generalize World.drewN wq nq=wz at *;go_wp2_with fail;go_roundw
      case rel=>exact ⟨k+1,by omega,by go_num,by rw [HPX.out];exact HX3,HNz⟩
      case measure=>simp [intOf];omega
     ·have h1:(a.toList == p.toList)=true:=by
       have:=cmpS_zero.1 HSS.out;subst this;simp
      have HX3:=hid (show C=18 from by rw [HX2.out];rfl);go_wp2_with (go_at_call 97;refine (HS.out _).mono ?_;rintro e w3 ⟨rfl,hN3⟩)
      obtain ⟨d0,d1⟩:=HCE.out _ hN3;clear hc0 hc1 hp0;go_quiet (fail)
      have HNz:=hid (HN.out.trans (hN3.trans (Nw.drewN w3 nq)));generalize World.drewN w3 nq=wz at *;go_wp2_with fail;go_ret;rw [HX3.out];exact ⟨rfl,HNz.out⟩
     ·have h2:Op.bytesLess a.toList p.toList=true:=cmpS_pos.1 HSS.out;have h1:(a.toList == p.toList)=false:=by
       rw [beq_eq_false_iff_ne];intro h;rw [h,bl_irrefl] at h2;cases h2
      have HX3:=hid (show C=16 from by rw [HX2.out];rfl);go_wp2_with (go_at_call 97;refine (HS.out _).mono ?_;rintro e w3 ⟨rfl,hN3⟩)
      obtain ⟨d0,d1⟩:=HCE.out _ hN3;clear hc0 hc1 hp0;go_quiet (fail)
      have hNq:=hN3.trans (Nw.drewN w3 nq);obtain ⟨d2,d3⟩:=HCE.out _ hNq;generalize World.drewN w3 nq=wq at *;clear d0 d1;go_wp2_with fail;go_quiet (fail)
      have HNz:=hid (HN.out.trans (hNq.trans (Nw.drewN wq nq)));generalize World.drewN wq nq=wz at *;go_wp2_with fail;go_ret;rw [HX3.out];exact ⟨rfl,HNz.out⟩
   ·have hE1:((E:Int) != 0)=true:=by rw [bne_iff_ne];omega
    have HX2:=hid (show C=E from by
     rw [hX];cases prevN l k with
     | none =>
      show (if oneE (a,d)≠0 then oneE (a,d) else _)=_
      rw [if_pos (by rw [HE.out];exact hE0),HE.out]
     | some q =>
      show (if oneE (a,d)≠0 then oneE (a,d) else _)=_
      rw [if_pos (by rw [HE.out];exact hE0),HE.out])
    clear hX HX;go_wp2_with (go_at_call 97;refine (HS.out _).mono ?_;rintro e w3 ⟨rfl,hN3⟩)
    go_ret;rw [HX2.out];exact ⟨rfl,HN.out.trans hN3⟩
  ·obtain rfl:k=l.length:=by omega
   have hX:=HX.out;rw [List.drop_length] at hX;have HX2:=hid (show C=0 from by rw [hX];cases prevN l l.length<;>rfl);go_wp2;go_ret;rw [HX2.out];exact ⟨rfl,HN.out⟩
end
section
open Go Go.RowKit Go.Sort
def cmpI (a b:Int):Int:=if a < b then -1 else if b < a then 1 else 0
theorem isNaNI_any (w:World) (a:Int):Calls Tryz.prog 297 #[.int .i64 a] w fun e w'=>e=.returned (.bool false)∧w=w':=by
 go_enter Tryz.func297,Tryz.ntmps297
 go_wp2;go_ret;exact ⟨by simp,rfl⟩
theorem CompareI_any (w:World) (a b:Int):Calls Tryz.prog 245 #[.int .i64 a,.int .i64 b] w fun e w'=>e=.returned (.int .i64 (cmpI a b))∧w=w':=by
 have HC:=hid (show cmpI a b=(if a < b then -1 else if b < a then 1 else 0) from rfl);generalize cmpI a b=C at *;by_cases h1:a < b
 ·have hC:=HC.out;rw [if_pos h1] at hC;subst hC;go_enter Tryz.func245,Tryz.ntmps245
  go_wp2_with (go_at_call 297;refine (isNaNI_any _ _).mono ?_;rintro e w1 ⟨rfl,hw⟩;subst hw)
  go_ret;exact ⟨rfl,rfl⟩
 ·by_cases h2:b < a
  ·have hC:=HC.out;rw [if_neg h1,if_pos h2] at hC;subst hC;go_enter Tryz.func245,Tryz.ntmps245
   go_wp2_with (go_at_call 297;refine (isNaNI_any _ _).mono ?_;rintro e w1 ⟨rfl,hw⟩;subst hw)
   go_ret;exact ⟨rfl,rfl⟩
  ·have hC:=HC.out;rw [if_neg h1,if_neg h2] at hC;subst hC;go_enter Tryz.func245,Tryz.ntmps245
   go_wp2_with (go_at_call 297;refine (isNaNI_any _ _).mono ?_;rintro e w1 ⟨rfl,hw⟩;subst hw)
   go_ret;exact ⟨rfl,rfl⟩
theorem byTime_any (w:World) (a b:Int) (u v:Nat) :
  Calls Tryz.prog 167 #[.agg #[.int .i64 a,.int .u64 (u:Int)],.agg #[.int .i64 b,.int .u64 (v:Int)]] w fun e w'=>e=.returned (.int .i64 (cmpI a b))∧Gr w w':=by
 go_enter Tryz.func167,Tryz.ntmps167
 go_wp2_with (go_at_call 245;refine (CompareI_any _ _ _).mono ?_;rintro e w1 ⟨rfl,hw⟩;subst hw)
 go_ret;exact ⟨rfl,(Gr.alloc _ _).trans (Gr.alloc _ _)⟩
def tmF:Int→List Smpl→Nat
 | _,[]=>0
 | p,x::l=>if x.1=p then 20 else if x.1 < p then 16 else tmF x.1 l
def tmE:List Smpl→Nat
 | []=>0
 | x::l=>tmF x.1 l
theorem tmE_step {l:List Smpl} {k:Nat} (h0:0 < k) (h:k < l.length):tmE (l.drop (k - 1))=if l[k].1=l[k - 1].1 then 20 else if l[k].1 < l[k - 1].1 then 16 else tmE (l.drop k):=by
 rw [drop_cons (show k - 1 < l.length by omega),show k - 1+1=k by omega,drop_cons h];rfl
theorem tmE_end {l:List Smpl} {k:Nat} (h:l.length≤k):tmE (l.drop (k - 1))=0:=by
 by_cases h1:k - 1 < l.length
 ·rw [drop_cons h1,List.drop_eq_nil_of_le (by omega)];rfl
 ·rw [List.drop_eq_nil_of_le (by omega)];rfl
set_option maxRecDepth 100000 in
theorem times_any (w:World) (b:Nat) (A:Option Addr) (n c:Nat) (l:List Smpl) (hn:n=l.length) (hm:n≤1000000) (hr:Rd w b A (cS l)) :
  Calls Tryz.prog 49 #[.slice A n c] w fun e w'=>e=.returned (.int .i64 (tmE l:Nat))∧Dr w w':=by
 subst hn;have HR:=hid hr;obtain ⟨C,hC⟩:∃ C,tmE l=C:=⟨_,rfl⟩;rw [hC];have HC:=hid hC;clear hr hC;go_enter Tryz.func49,Tryz.ntmps49
 go_wp2;go_loopw [3] (fun i wr=>∃ k:Nat,1≤k∧i=.int .i64 k∧(k≤l.length∨k=1)∧Hid (C=tmE (l.drop (k - 1)))∧Hid (Dr w wr)) (fun i _=>l.length - (intOf i).toNat)
 case atStart=>exact ⟨1,by omega,rfl,.inr rfl,hid HC.out.symm,hid (Dr.refl _)⟩
 case round =>
  obtain ⟨k,hk,rfl,hkl,HX,HD⟩:=hrel;by_cases hlt:k < l.length
  ·have hltI:(k:Int) < (l.length:Int):=by omega
   obtain ⟨o,rfl,hbw,hc0,_⟩:=two_at (HR.out.nw HD.out.nw) hlt;obtain ⟨o',e',_,hp0,_⟩:=two_at (HR.out.nw HD.out.nw) (show k - 1 < l.length by omega);obtain rfl:o'=o:=by injection e' with e';injection e' with _ e' _;exact e'.symm
   have hX:=HX.out;rw [tmE_step (by omega) hlt] at hX;have HX2:=hid hX;generalize l[k].1=a at *;generalize l[k - 1].1=p at *;have j0:(0:Int)≤(k:Int) - 1:=by omega
   have j1:(k:Int) - 1 < (l.length:Int):=by omega
   have j2:((k:Int) - 1).toNat=k - 1:=by omega
   have HCE:=hid fun W (hN:Nw wr W)=>And.intro (cell_old hN hbw hc0) (cell_old hN hbw hp0)
   clear hX HX;go_wp2_with fail;go_quiet (fail)
   have HDq:=hid (HD.out.step nq);obtain ⟨d0,d1⟩:=HCE.out _ (Nw.drewN wr nq);generalize World.drewN wr nq=wq at *;clear hc0 hp0;by_cases h1:a=p
   ·have h1b:(a == p)=true:=by rw [beq_iff_eq];exact h1
    have HX3:=hid (show C=20 from by rw [HX2.out,if_pos h1]);clear h1;go_wp2_with fail;go_ret;rw [HX3.out];exact ⟨rfl,HDq.out⟩
   ·have h1b:(a == p)=false:=by rw [beq_eq_false_iff_ne];exact h1
    go_wp2_with fail;go_quiet (fail)
    have HDz:=hid (HDq.out.step nq);generalize World.drewN wq nq=wz at *;by_cases h2:a < p
    ·have HX3:=hid (show C=16 from by rw [HX2.out,if_neg h1,if_pos h2]);go_wp2_with fail;go_ret;rw [HX3.out];exact ⟨rfl,HDz.out⟩
    ·have HX3:=hid (show C=tmE (l.drop (k+1 - 1)) from by rw [HX2.out,if_neg h1,if_neg h2];rfl);go_wp2_with fail;go_roundw
     case rel=>exact ⟨k+1,by omega,by go_num,.inl (by omega),HX3,HDz⟩
     case measure=>simp [intOf];omega
  ·have hX:=HX.out;rw [tmE_end (by omega)] at hX;have HX2:=hid hX;have hltI:¬ (k:Int) < (l.length:Int):=by omega
   clear hX HX;go_wp2;go_ret;rw [HX2.out];exact ⟨rfl,HD.out⟩
set_option maxRecDepth 100000 in
set_option maxHeartbeats 1600000 in
theorem ascS_any (w:World) (b:Nat) (A:Option Addr) (n c:Nat) (l:List Smpl) (hn:n=l.length) (hm:n≤1000000) (hr:Rd w b A (cS l)) :
  Calls Tryz.prog 171 #[.slice A n c,.func (.func 167) #[] #[],.int .i64 20] w fun e w'=>e=.returned (.int .i64 (tmE l:Nat))∧Nw w w':=by
 subst hn;have HR:=hid hr;obtain ⟨C,hC⟩:∃ C,tmE l=C:=⟨_,rfl⟩;rw [hC];have HC:=hid hC;clear hr hC;go_enter Tryz.func171,Tryz.ntmps171
 go_wp2
 go_step3
 go_wp2
 go_step3
 go_wp2;go_loopw [7,8] (fun v i wr=>v=.int .i64 0∧∃ k:Nat,1≤k∧i=.int .i64 k∧(k≤l.length∨k=1)∧Hid (C=tmE (l.drop (k - 1)))∧Hid (Nw w wr)) (fun _ i _=>l.length - (intOf i).toNat)
 case atStart=>exact ⟨rfl,1,by omega,rfl,.inr rfl,hid HC.out.symm,hid (Nw.refl _)⟩
 case round =>
  obtain ⟨rfl,k,hk,rfl,hkl,HX,HN⟩:=hrel;by_cases hlt:k < l.length
  ·have hltI:(k:Int) < (l.length:Int):=by omega
   obtain ⟨o,rfl,hbw,hc0,hc1⟩:=two_at (HR.out.nw HN.out) hlt;obtain ⟨o',e',_,hp0,hp1⟩:=two_at (HR.out.nw HN.out) (show k - 1 < l.length by omega);obtain rfl:o'=o:=by injection e' with e';injection e' with _ e' _;exact e'.symm
   have hX:=HX.out;rw [tmE_step (by omega) hlt] at hX;have HX2:=hid hX;generalize l[k]=x at *;generalize l[k - 1]=y at *;obtain ⟨a,u⟩:=x;obtain ⟨p,v⟩:=y;dsimp only at hc0 hc1 hp0 hp1 HX2;have j0:(0:Int)≤(k:Int) - 1:=by omega
   have j1:(k:Int) - 1 < (l.length:Int):=by omega
   have j2:((k:Int) - 1).toNat=k - 1:=by omega
   have q0:∀ p':Gp,(grow (wr.drewN p'.n) p'.os).cell? ⟨b,o'+(k - 1)*2,none⟩=some (.int .i64 p):=cell_gr hbw hp0;have q1:∀ p':Gp,(grow (wr.drewN p'.n) p'.os).cell? ⟨b,o'+(k - 1)*2+1,none⟩=some (.int .u64 (v:Int)):=cell_gr hbw hp1;have q2:∀ p':Gp,(grow (wr.drewN p'.n) p'.os).cell? ⟨b,o'+k*2,none⟩=some (.int .i64 a):=cell_gr hbw hc0;have q3:∀ p':Gp,(grow (wr.drewN p'.n) p'.os).cell? ⟨b,o'+k*2+1,none⟩=some (.int .u64 (u:Int)):=cell_gr hbw hc1;obtain ⟨s,hs⟩:∃ s,cmpI p a=s:=⟨_,rfl⟩;have HB:=hid fun W=>byTime_any W p a v u
   rw [hs] at HB;have HS:=hid hs;clear hX HX hs;go_wp2_with fail;refine wp_region_gr (by kernel_rfl) (by kernel_rfl) ?_
   repeat (go_big_quiet_step (first | (go_at_call 167;refine Calls.gr (HB.out _))))
   refine wpQuiet_nil ?_;rintro _ ⟨p',rfl⟩;have HNz:=hid (HN.out.trans (Gr.nw ⟨p',rfl⟩:Nw wr _));by_cases h1:a=p
   ·have hs0:s=0:=by rw [← HS.out];unfold cmpI;rw [if_neg (by omega),if_neg (by omega)]
    subst hs0;have HX3:=hid (show C=20 from by rw [HX2.out,if_pos h1]);clear h1;go_wp2_with fail;simp only [Exit.noGoto];go_ret;rw [HX3.out];exact ⟨rfl,HNz.out⟩
   ·by_cases h2:a < p
    ·have hs0:s=1:=by rw [← HS.out];unfold cmpI;rw [if_neg (by omega),if_pos (by omega)]
     subst hs0;have HX3:=hid (show C=16 from by rw [HX2.out,if_neg h1,if_pos h2]);go_wp2_with fail;simp only [Exit.noGoto];go_ret;rw [HX3.out];exact ⟨rfl,HNz.out⟩
    ·have hs0:s = -1:=by rw [← HS.out];unfold cmpI;rw [if_pos (by omega)]
     subst hs0;have HX3:=hid (show C=tmE (l.drop (k+1 - 1)) from by rw [HX2.out,if_neg h1,if_neg h2];rfl);go_wp2_with fail;go_roundw
     case rel=>exact ⟨rfl,k+1,by omega,by go_num,.inl (by omega),HX3,HNz⟩
     case measure=>simp [intOf];omega
  ·have hX:=HX.out;rw [tmE_end (by omega)] at hX;have HX2:=hid hX;have hltI:¬ (k:Int) < (l.length:Int):=by omega
   clear hX HX;go_wp2;go_ret;rw [HX2.out];exact ⟨rfl,HN.out⟩
end
end Go.Proofs.YticphebaflnedaaGreatDoor
