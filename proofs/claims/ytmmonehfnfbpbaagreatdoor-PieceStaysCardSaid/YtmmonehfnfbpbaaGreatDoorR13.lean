/- Laws that the last text builds on. -/
import Derived.Test.YtmmonehfnfbpbaaGreatDoorR12
namespace Go.Proofs.YtmmonehfnfbpbaaGreatDoor
open Go.Lib(hid)
section
open Go Go.RowKit Go.Lib Go.Sort Go.Shelf
open Go.ChangeMaps (setBlock heap_setBlock_same heap_setBlock_other)
theorem mem_strs {l:List Lab} {rows:List RecS} {r:RecS} {s:ByteArray} (hr:r∈rows) (hs:s∈strsOf r.labs) (hl:l=rows.flatMap (·.labs)):s∈strsOf l:=by
 subst hl;unfold strsOf at hs ⊢;obtain ⟨x,hx,h⟩:=List.mem_flatMap.1 hs;exact List.mem_flatMap.2 ⟨x,List.mem_flatMap.2 ⟨r,hr,hx⟩,h⟩
set_option maxRecDepth 100000 in
set_option maxHeartbeats 1000000 in
theorem PUnused_any (w:World) (b bt n c nt ct:Nat) (A At:Option Addr) (rows:List RecS) (t:List ByteArray) (hn:n=rows.length) (hm:n≤1000000) (hr:Rd w b A (cRec rows)) (hI:∀ r∈rows,Rd w r.bl r.al (cL r.labs)) (hL:(rows.flatMap (·.labs)).length≤1000000) (hrt:Rd w bt At (cT t)) (hnt:nt=t.length) (hmt:nt≤1000000000)
  (hs:∀ s∈strsOf (rows.flatMap (·.labs)),SOk s) (ht:∀ s∈t,SOk s) :
  Calls Tryz.prog 60 #[.slice At nt ct,.slice A n c] w fun e w'=>(∃ r:Int,e=.returned (.int .i64 r)∧(usedB t (rows.flatMap (·.labs))=true→r < 0)∧(usedB t (rows.flatMap (·.labs))=false→0≤r))∧Nw w w':=by
 subst hn;have hmm:∀ W:World,(Instr.makeMap 190 none).run Tryz.prog W=.ok (.map (some W.heap.size)) (W.alloc (.map #[] 0)):=fun W=>by simp [Instr.makeMap]
 have HR:=hid hr;have HI:=hid hI;have HL:=hid hL;have HT:=hid (And.intro hrt (And.intro hnt hmt));have HSo:=hid hs;have HTo:=hid ht;obtain ⟨U,hU⟩:∃ U,usedB t (rows.flatMap (·.labs))=U:=⟨_,rfl⟩;rw [hU];have HU:=hid hU;have HN0:Hid (Nw w (w.alloc (.map #[] 0))):=hid ((Nw.refl w).alloc' _);have HM0:Hid ((w.alloc (.map #[] 0)).heap[w.heap.size]? = some (.map (entsS []) (List.length (α:=ByteArray) []))):=hid (heap_alloc_new w _);clear hr hI hL hrt hnt hmt hU hs ht;obtain ⟨B,hB⟩:∃ B,w.heap.size=B:=⟨_,rfl⟩;have HB:=hid hB;rw [hB] at HM0;go_enter Tryz.func60,Tryz.ntmps60
 go_wp2_with fail;clear hB hmm;generalize w.alloc (.map #[] 0)=w0 at *;go_loopw [15] (fun iv wr=>∃ (i:Nat) (u:List ByteArray),i≤rows.length∧iv=.int .i64 (i:Int)∧Hid (wr.heap[B]? = some (.map (entsS u) u.length))∧Hid (∀ s,s∈u↔s∈strsOf ((rows.take i).flatMap (·.labs)))∧Hid (∀ s∈u,SOk s)∧Hid (Nw w wr)) (fun iv _=>rows.length - (intOf iv).toNat)
 case atStart=>exact ⟨0,[],Nat.zero_le _,rfl,HM0,hid (fun s=>Iff.rfl),hid (fun s h=>(by cases h)),HN0⟩
 case round =>
  clear HM0 HN0
  rename World=>wx
  obtain ⟨i,u,hi,rfl,HM,HE,HOk,HN⟩:=hrel;by_cases hlt:i < rows.length
  ·have hltI:(i:Int) < (rows.length:Int):=by omega
   obtain ⟨o,rfl,_,hc,hc1⟩:=two_at (HR.out.nw HN.out) hlt;have hIr:=HI.out _ (List.getElem_mem hlt);have hsn:=flatL_snoc hlt;have hle:=flatL_le (rows:=rows) (i+1);have hL1:=HL.out;rw [hsn,List.length_append] at hle;have hmem:=fun s h=>HSo.out s (mem_strs (List.getElem_mem hlt) h rfl)
   generalize rows[i]=r at *;obtain ⟨K,hK⟩:∃ K,r.labs.length=K:=⟨_,rfl⟩;rw [hK] at hc hle;have hK6:K≤1000000:=by omega
   obtain ⟨M2,hM2⟩:∃ M2,2*K=M2:=⟨_,rfl⟩;have HS:=hid fun (W:World) (hN:Nw wx W)=>Strings_any W r.bl r.al K r.cl r.labs hK.symm (by omega) ((hIr.nw HN.out).nw hN)
   obtain ⟨V,hV⟩:∃ V,strsOf r.labs=V:=⟨_,rfl⟩;rw [hV,hM2] at HS;have HVl:=hid (show V.length=M2 from by rw [← hV,strsOf_length,hK,hM2]);have HVo:=hid (show ∀ s∈V,SOk s from by rw [← hV];exact hmem);have HSn:=hid (show strsOf ((rows.take (i+1)).flatMap (·.labs))=strsOf ((rows.take i).flatMap (·.labs))++V from by rw [hsn,strsOf_append,hV]);have hN1:Nw wx (wx.alloc (.cells #[.slice r.al K r.cl,.slice r.ac r.chks.length r.cc] 118)):=(Nw.refl wx).alloc' _;have HN1:=hid hN1;have hM26:M2≤2000000:=by omega
   clear hIr hsn hle hL1 hmem hK hV hM2 hN1 hlt;go_wp2_with fail;refine (HS.out _ HN1.out).mono ?_;rintro e w5 ⟨b5,A5,c5,rfl,hO5,hb5,hN5⟩;have HNx:=hid (HN1.out.trans hN5);have hBx:=lt_of_block HM.out;have hb5B:b5≠B:=by
    have:=HN1.out.size;omega
   have HO5:=hid (And.intro hO5.rd hb5B);have HM5:Hid (w5.heap[B]? = some (.map (entsS u) u.length)):=hid ((HNx.out.block B hBx).trans HM.out);have HE0:Hid (∀ s,s∈u↔s∈strsOf ((rows.take i).flatMap (·.labs))∨s∈V.take 0):=hid fun s=>by rw [HE.out];simp
   clear hO5 hb5 hN5 HS hBx hb5B hc hc1 HM HE;go_wp2_with fail;go_loopw [23] (fun kv wj=>∃ (k:Nat) (u:List ByteArray),k≤M2∧kv=.int .i64 (k:Int)∧Hid (wj.heap[B]? = some (.map (entsS u) u.length))∧Hid (∀ s,s∈u↔s∈strsOf ((rows.take i).flatMap (·.labs))∨s∈V.take k)∧Hid (∀ s∈u,SOk s)∧Hid (Kp B B w5 wj)) (fun kv _=>M2 - (intOf kv).toNat)
   case atStart=>exact ⟨0,u,Nat.zero_le _,rfl,HM5,HE0,HOk,hid (Kp.refl _ _ _)⟩
   case round =>
    clear HM5 HE0 HOk;obtain ⟨k,u,hk,rfl,HM,HE,HOk,HK⟩:=hrel;by_cases hlt:k < M2
    ·have hltK:(k:Int) < (M2:Int):=by omega
     have hkV:k < V.length:=by rw [HVl.out];exact hlt
     obtain ⟨o2,rfl,_,hc2⟩:=(HO5.out.1.kp HK.out HO5.out.2 HO5.out.2).get (k:=k) (by rw [List.length_map];exact hkV);rw [List.getElem_map] at hc2;have HTk:Hid (V.take (k+1)=V.take k++[V[k]]):=hid (List.take_succ_eq_append_getElem hkV);have hso:=HVo.out _ (List.getElem_mem hkV);generalize V[k]=s at *;have hput:=run_putS HM.out HOk.out hso;have HM2:=hid (heap_setBlock_same HM.out (.map (entsS (addS u s)) (addS u s).length));have HK2:=hid (HK.out.trans (kp_set _ B (.map (entsS (addS u s)) (addS u s).length)) (.inl rfl) (.inl rfl));have HSs:=hid hso;have HLt:=hid hlt;clear hkV hso hlt;go_wp2_with fail;go_roundw
     case rel=>exact ⟨k+1,addS u s,by have:=HLt.out;omega,by go_num,HM2,hid (fun x=>by rw [addS_mem,HE.out,HTk.out,List.mem_append,List.mem_singleton,or_assoc]),hid (fun x hx=>(addS_mem.1 hx).elim (HOk.out x) fun e=>e ▸ HSs.out),HK2⟩
     case measure=>have:=HLt.out;simp [intOf];omega
    ·obtain rfl:k=M2:=by omega
     have hnl:¬ (k:Int) < (k:Int):=by omega
     have HNw:Hid (Nw w wr):=hid (Kp.nw (HN.out.trans HNx.out) HK.out (by rw [HB.out];exact Nat.le_refl _) (by rw [HB.out];exact Nat.le_refl _));have HE2:Hid (∀ s,s∈u↔s∈strsOf ((rows.take (i+1)).flatMap (·.labs))):=hid fun s=>by
      rw [HE.out,HSn.out,List.mem_append,show V.take k=V from List.take_of_length_le (by rw [HVl.out];exact Nat.le_refl _)]
     clear hlt;go_wp2_with fail;go_roundw
     case rel=>exact ⟨i+1,u,by omega,by go_num,HM,HE2,HOk,HNw⟩
     case measure=>simp [intOf];omega
  ·obtain rfl:i=rows.length:=by omega
   have hnl:¬ (rows.length:Int) < (rows.length:Int):=by omega
   have hE:=HE.out;rw [List.take_length] at hE;have HH:Hid (∀ s,hasS u s=hasS (strsOf (rows.flatMap (·.labs))) s):=hid fun s=>by
    rw [Bool.eq_iff_iff,has_iff,has_iff,hE]
   have HU2:Hid (t.all (hasS u)=U):=hid (by rw [← HU.out,usedB_has];congr 1;funext s;exact HH.out s);obtain ⟨hrt,hnt,hmt⟩:=HT.out;have HRt:=hid hrt;have HNt:=hid hnt;clear hE HE hrt hnt HT HH;go_wp2_with fail
   go_loop [33] (fun jv=>∃ (j:Nat),j≤nt∧jv=.int .i64 (j:Int)∧Hid ((t.take j).all (hasS u)=true)) (fun jv=>nt - (intOf jv).toNat)
   case atStart=>exact ⟨0,Nat.zero_le _,rfl,hid rfl⟩
   case round =>
    obtain ⟨j,hj,rfl,HJ⟩:=hrel;by_cases hlt2:j < nt
    ·have hltJ:(j:Int) < (nt:Int):=by omega
     have hjt:j < t.length:=by rw [← HNt.out];exact hlt2
     obtain ⟨o2,rfl,_,hc2⟩:=(HRt.out.nw HN.out).get (k:=j) (by rw [List.length_map];exact hjt);rw [List.getElem_map] at hc2;have HTk:Hid ((t.take (j+1)).all (hasS u)=((t.take j).all (hasS u) && hasS u t[j])):=hid (by
      rw [List.take_succ_eq_append_getElem hjt,List.all_append];simp)
     have HBd:Hid (hasS u t[j]=false→t.all (hasS u)=false):=hid fun h=>by
      rw [List.all_eq_false];exact ⟨_,List.getElem_mem hjt,by rw [h];decide⟩
     have hso:=HTo.out _ (List.getElem_mem hjt);generalize t[j]=s at *;have hlook:=run_hasS HM.out HOk.out hso;have HLt:=hid hlt2;clear hjt hlt2 hso;cases hs:hasS u s with
     | true =>
      rw [hs] at hlook;have HJ2:Hid ((t.take (j+1)).all (hasS u)=true):=hid (by rw [HTk.out,HJ.out,hs];rfl);clear hs;go_wp2_with fail
      go_round
      case rel=>exact ⟨j+1,by have:=HLt.out;omega,by go_num,HJ2⟩
      case measure=>have:=HLt.out;simp [intOf];omega
     | false =>
      rw [hs] at hlook;have HUf:Hid (U=false):=hid (by rw [← HU2.out];exact HBd.out hs);clear hs;go_wp2_with fail;go_ret;exact ⟨⟨_,rfl,fun h=>(by rw [HUf.out] at h;cases h),fun _=>by omega⟩,HN.out⟩
    ·obtain rfl:j=nt:=by omega
     have hnl2:¬ (j:Int) < (j:Int):=by omega
     have hU:U=true:=by
      have:=HJ.out;rw [HNt.out,List.take_length] at this;rw [← HU2.out,this]
     have HU3:=hid hU;clear hU;go_wp2_with fail;go_ret;exact ⟨⟨_,rfl,fun _=>by omega,fun h=>(by rw [HU3.out] at h;cases h)⟩,HN.out⟩
end
section
open Go Go.RowKit Go.Lib
abbrev failV (k:Nat):Value:=.iface 178 (.agg #[.int .i64 (k:Int)])
theorem need_ok (w:World):Calls Tryz.prog 61 #[.int .i64 0] w fun e w'=>e=.returned (.tuple #[])∧w=w':=by
 go_enter Tryz.func61,Tryz.ntmps61
 go_wp2_with fail
 first
  | exact ⟨rfl,rfl⟩
  | (go_end0;exact ⟨rfl,rfl⟩)
theorem need_bad (w:World) (k:Nat) (hk:k≠0):Calls Tryz.prog 61 #[.int .i64 (k:Int)] w fun e w'=>e=.panicked [{ v:=failV k,recovered:=false }]∧w=w':=by
 have hkb:((k:Int) != 0)=true:=by rw [bne_iff_ne];omega
 go_enter Tryz.func61,Tryz.ntmps61
 go_wp2_with fail;exact ⟨rfl,rfl,rfl⟩
theorem must_str (w:World) (v:Value):Calls Tryz.prog 56 #[v,.int .i64 0] w fun e w'=>e=.returned v∧w=w':=by
 go_enter Tryz.func56,Tryz.ntmps56
 go_wp2_with fail;refine (need_ok w).mono ?_;rintro e w1 ⟨rfl,rfl⟩;go_wp2_with fail;go_ret;exact ⟨rfl,rfl⟩
theorem must_str_bad (w:World) (v:Value) (k:Nat) (hk:k≠0):Calls Tryz.prog 56 #[v,.int .i64 (k:Int)] w fun e w'=>e=.panicked [{ v:=failV k,recovered:=false }]∧w=w':=by
 go_enter Tryz.func56,Tryz.ntmps56
 go_wp2_with fail;refine (need_bad w k hk).mono ?_;rintro e w1 ⟨rfl,rfl⟩;go_wp2_with fail;exact ⟨rfl,rfl,rfl⟩
theorem must_rec (w:World) (v:Value):Calls Tryz.prog 58 #[v,.int .i64 0] w fun e w'=>e=.returned v∧w=w':=by
 go_enter Tryz.func58,Tryz.ntmps58
 go_wp2_with fail;refine (need_ok w).mono ?_;rintro e w1 ⟨rfl,rfl⟩;go_wp2_with fail;go_ret;exact ⟨rfl,rfl⟩
theorem must_rec_bad (w:World) (v:Value) (k:Nat) (hk:k≠0):Calls Tryz.prog 58 #[v,.int .i64 (k:Int)] w fun e w'=>e=.panicked [{ v:=failV k,recovered:=false }]∧w=w':=by
 go_enter Tryz.func58,Tryz.ntmps58
 go_wp2_with fail;refine (need_bad w k hk).mono ?_;rintro e w1 ⟨rfl,rfl⟩;go_wp2_with fail;exact ⟨rfl,rfl,rfl⟩
theorem must_smp (w:World) (v:Value):Calls Tryz.prog 62 #[v,.int .i64 0] w fun e w'=>e=.returned v∧w=w':=by
 go_enter Tryz.func62,Tryz.ntmps62
 go_wp2_with fail;refine (need_ok w).mono ?_;rintro e w1 ⟨rfl,rfl⟩;go_wp2_with fail;go_ret;exact ⟨rfl,rfl⟩
theorem must_smp_bad (w:World) (v:Value) (k:Nat) (hk:k≠0):Calls Tryz.prog 62 #[v,.int .i64 (k:Int)] w fun e w'=>e=.panicked [{ v:=failV k,recovered:=false }]∧w=w':=by
 go_enter Tryz.func62,Tryz.ntmps62
 go_wp2_with fail;refine (need_bad w k hk).mono ?_;rintro e w1 ⟨rfl,rfl⟩;go_wp2_with fail;exact ⟨rfl,rfl,rfl⟩
theorem must_ent (w:World) (v:Value):Calls Tryz.prog 65 #[v,.int .i64 0] w fun e w'=>e=.returned v∧w=w':=by
 go_enter Tryz.func65,Tryz.ntmps65
 go_wp2_with fail;refine (need_ok w).mono ?_;rintro e w1 ⟨rfl,rfl⟩;go_wp2_with fail;go_ret;exact ⟨rfl,rfl⟩
theorem must_ent_bad (w:World) (v:Value) (k:Nat) (hk:k≠0):Calls Tryz.prog 65 #[v,.int .i64 (k:Int)] w fun e w'=>e=.panicked [{ v:=failV k,recovered:=false }]∧w=w':=by
 go_enter Tryz.func65,Tryz.ntmps65
 go_wp2_with fail;refine (need_bad w k hk).mono ?_;rintro e w1 ⟨rfl,rfl⟩;go_wp2_with fail;exact ⟨rfl,rfl,rfl⟩
theorem caught_any (w:World) (g h k:Nat) (v u:Value) (T1 T2:TypeId) (hg:w.heap[g]? = some (.cells #[v] T1 (0,0))) (hh:w.heap[h]? = some (.cells #[u] T2 (0,0))) (hne:g≠h) :
  Calls Tryz.prog 55 #[failV k,.pointer (some ⟨g,0,none⟩),.pointer (some ⟨h,0,none⟩)] w fun e w'=>e=.returned (.tuple #[])∧w'.heap[g]? = some (.cells #[.slice none 0 0] T1 (0,0))∧w'.heap[h]? = some (.cells #[.int .i64 (k:Int)] T2 (0,0))∧Kp g h w w':=by
 have hnil:∀ W:World,(binOp .eql 20 (failV k) .nilIface).run Tryz.prog W=.ok (.bool false) W:=fun W=>by kernel_rfl
 have hta:∀ W:World,(Instr.typeAssert (failV k) 20 178 true).run Tryz.prog W=.ok (.tuple #[.agg #[.int .i64 (k:Int)],.bool true]) W:=fun W=>by kernel_rfl
 go_enter Tryz.func55,Tryz.ntmps55
 go_wp2_with fail;have hlg:=lt_of_block hg;have hlh:=lt_of_block hh;have hN:Nw w (w.alloc (.cells #[.int .i64 (k:Int)] 178)):=(Nw.refl w).alloc' _;have hg1:=(hN.block g hlg).trans hg;have hh1:=(hN.block h hlh).trans hh;have hz1:=heap_alloc_new w (.cells #[.int .i64 (k:Int)] 178);have HNw:=hid hN;generalize w.alloc (.cells #[.int .i64 (k:Int)] 178)=W at *;have cz:W.cell? ⟨w.heap.size,0,none⟩=some (.int .i64 (k:Int)):=cell_at (k:=0) hz1;have cg:W.cell? ⟨g,0,none⟩=some v:=cell_at (k:=0) hg1;have ch:W.cell? ⟨h,0,none⟩=some u:=cell_at (k:=0) hh1;have fg:W.frozen? ⟨g,0,none⟩=false:=at_freeL hg1;have fh:W.frozen? ⟨h,0,none⟩=false:=at_freeL hh1;have n1:¬ g=w.heap.size:=by omega
 have n2:¬ h=w.heap.size:=by omega
 have n3:¬ g=h:=hne;have n4:¬ h=g:=Ne.symm hne;have s1:=set_at (k:=0) (.slice none 0 0) hg1;have hK1:Kp g g W (W.setCell ⟨g,0,none⟩ (.slice none 0 0)):=(Kp.refl g g W).setCell' (p:=⟨g,0,none⟩) (.inl rfl) _;have h1:=(hK1.block h (lt_of_block hh1) n4 n4).trans hh1;have s2:=set_at (k:=0) (.int .i64 (k:Int)) h1;have hK2:Kp h h (W.setCell ⟨g,0,none⟩ (.slice none 0 0)) ((W.setCell ⟨g,0,none⟩ (.slice none 0 0)).setCell ⟨h,0,none⟩ (.int .i64 (k:Int))):=(Kp.refl h h _).setCell' (p:=⟨h,0,none⟩) (.inl rfl) _;have g2:=(hK2.block g (lt_of_block s1) n3 n3).trans s1;have S1:=hid g2;have S2:=hid s2;have SK:=hid ((((Kp.refl g h w).nw' HNw.out).trans hK1 (.inl rfl) (.inl rfl)).trans hK2 (.inr (.inl rfl)) (.inr (.inl rfl)));clear s1 hK1 h1 s2 hK2 g2 hN hg1 hh1 hz1 hg hh;go_region
 go_wp2_with fail;go_end0
 exact ⟨rfl,S1.out,S2.out,SK.out.nw' (Nw.drewN _ _)⟩
theorem caught_nil (w:World) (g h:Nat) :
  Calls Tryz.prog 55 #[.nilIface,.pointer (some ⟨g,0,none⟩),.pointer (some ⟨h,0,none⟩)] w fun e w'=>e=.returned (.tuple #[])∧w=w':=by
 have hnil:∀ W:World,(binOp .eql 20 .nilIface .nilIface).run Tryz.prog W=.ok (.bool true) W:=fun W=>by kernel_rfl
 go_enter Tryz.func55,Tryz.ntmps55
 go_wp2_with fail;exact bodyPost_ret (results_none rfl _ _ _) rfl ⟨rfl,rfl⟩
theorem defer_panic (w:World) (g h k:Nat) (v u:Value) (T1 T2:TypeId) (older:List PanicEntry) (hg:w.heap[g]? = some (.cells #[v] T1 (0,0))) (hh:w.heap[h]? = some (.cells #[u] T2 (0,0))) (hne:g≠h) :
  CallsD Tryz.prog 54 #[.pointer (some ⟨g,0,none⟩),.pointer (some ⟨h,0,none⟩)] (.panicking ({ v:=failV k,recovered:=false }::older)) w fun e u' w'=>e=.returned (.tuple #[])∧u'=.panicking ({ v:=failV k,recovered:=true }::older)∧w'.heap[g]? = some (.cells #[.slice none 0 0] T1 (0,0))∧w'.heap[h]? = some (.cells #[.int .i64 (k:Int)] T2 (0,0))∧Kp g h w w':=by
 refine callsD_of_wpS Tryz.func54 rfl fun c₀ cs hu=>?_
 apply wpS_region
 have HC:=hid (caught_any w g h k v u T1 T2 hg hh hne);clear hg hh;simp [wpOpsS,go_sem,recoverD,hu,Tryz.ntmps54];refine HC.out.mono ?_;rintro e w1 ⟨rfl,h1,h2,h3⟩;exact ⟨rfl,_,rfl,.tuple #[],by simp [results,Tryz.results54],rfl,rfl,h1,h2,h3⟩
theorem defer_idle (w:World) (g h:Nat) :
  CallsD Tryz.prog 54 #[.pointer (some ⟨g,0,none⟩),.pointer (some ⟨h,0,none⟩)] .returning w fun e u' w'=>e=.returned (.tuple #[])∧u'=.returning∧w=w':=by
 refine callsD_of_wpS Tryz.func54 rfl fun c₀ cs hu=>?_
 apply wpS_region
 simp [wpOpsS,go_sem,recoverD,hu,Tryz.ntmps54];refine (caught_nil w g h).mono ?_;rintro e w1 ⟨rfl,rfl⟩;cases c₀
 simp_all [bodyPostS,results,Tryz.results54]
end
section
open Go Go.RowKit Go.Lib Go.Sort Go.Shelf
def recQ (t:List ByteArray) (bs:List Nat):Except Nat (List RecV × List Nat):=xb (countP bs) fun c=>repP (recF t) c.1 [] c.2
theorem recQ_eq (t:List ByteArray) (x:Rest):xb x (recQ t)=xb (sOf (xb x countP)) fun r=>repP (recF t) (vOf 0 (xb x countP)) [] r:=by
 cases x with
 | error k=>rfl
 | ok r =>
  show recQ t r=xb (sOf (countP r)) fun r'=>repP (recF t) (vOf 0 (countP r)) [] r'
  unfold recQ;cases countP r with
  | error k=>rfl
  | ok p=>rfl
theorem recsP_Q (t:List ByteArray) (bs:List Nat):recsP t bs=xb (recQ t bs) endL:=by
 unfold recsP lisP recQ;cases countP bs with
 | error k=>rfl
 | ok p=>rfl
def PRecsOut (w:World) (g:Nat) (A:Option Addr) (n c:Nat) (xs:List Nat) (X:Except Nat (List RecV × List Nat)) (e:Ending) (w':World):Prop :=
 ∃ (rows:List RecS) (bo:Nat) (Ao:Option Addr) (co:Nat),e=.returned (.slice Ao rows.length co)∧OwN w w' bo 118 2 Ao rows.length co (cRec rows)∧RowsD w w' rows∧(∀ p,X=.ok p→p.1=rows.map valR)∧WX w' g A n c xs (sOf X)∧Kp g g w w'
section
variable (w:World) (rb g b n c bt nt ct:Nat) (A At:Option Addr) (xs:List Nat) (x:Rest) (t:List ByteArray)
set_option maxRecDepth 100000 in
set_option maxHeartbeats 1000000 in
theorem PRecs_u (h:WX w g A n c xs x) (hI:WIn w g b A n c xs) (hR:RrS w rb g At nt ct n) (hT:TIn w g bt At nt t) :
  Calls Tryz.prog 110 #[.pointer (some ⟨rb,0,none⟩),.func (.func 111) #[.pointer (some ⟨rb,0,none⟩)] #[]] w (PRecsOut w g A n c xs (xb x (recQ t))):=by
 have ent:∀ args W,(callFunc 111 args).run Tryz.prog W=.ok (.enter 111 args) W:=enters_of Tryz.func111 (by kernel_rfl) rfl;have HC:=hid (PCount_u w rb g b n c nt ct A At xs x h hI hR);have hm:=hI.small;have hNn:=vOf_le (h.len hI.len);rw [recQ_eq];have hN0:∀ k,sOf (xb x countP)=.error k→vOf 0 (xb x countP)=0:=fun k hk=>by
  cases hq:xb x countP with
  | error j=>rfl
  | ok p=>rw [hq] at hk;cases hk
 have hr1:∀ W,Kp g g w W→RrS W rb g At nt ct n:=fun W hK=>hR.kp h hK
 obtain ⟨N,hN⟩:∃ N,vOf 0 (xb x countP)=N:=⟨_,rfl⟩;obtain ⟨x1,hx1⟩:∃ x1,sOf (xb x countP)=x1:=⟨_,rfl⟩;unfold PTook at HC;rw [hN,hx1] at HC;rw [hN,hx1] at hN0;rw [hN,hx1];rw [hN] at hNn;obtain ⟨Lb,hLb⟩:∃ L,(xb x1 fun r=>repP (recF t) N [] r)=L:=⟨_,rfl⟩;rw [hLb];have HLb:=hid hLb;have HI:=hid hI;have HT:=hid hT;have HR:=hid hr1;have HZ:=hid hN0;clear h hI hT hR hr1 hN hx1 hLb hN0;go_enter Tryz.func110,Tryz.ntmps110
 go_wp2_with fail;refine HC.out.mono ?_;rintro e w1 ⟨rfl,hX1,hK1⟩;have HX1:=hid hX1;have HK1:=hid hK1;clear hX1 hK1;go_wp2_with fail;go_loopw [5,9] (fun s i wr=>∃ (k:Nat) (y:Rest) (rows:List RecS) (bo:Nat) (Ao:Option Addr) (co:Nat),k≤N∧i=.int .i64 (k:Int)∧s=.slice Ao k co∧Hid (rows.length=k)∧Hid (WX wr g A n c xs y)∧Hid (Kp g g w wr) ∧
  Hid (OwN w wr bo 118 2 Ao k co (cRec rows)∧RowsD w wr rows)∧Hid ((xb y fun r=>repP (recF t) (N - k) (rows.map valR) r)=Lb)∧Hid (∀ e,y=.error e→N=0)) (fun _ i _=>N - (intOf i).toNat)
 case atStart=>exact ⟨0,x1,[],0,none,0,Nat.zero_le _,rfl,rfl,hid rfl,HX1,HK1,hid ⟨OwN.nil _ _ _ _ _,fun r hr=>(by cases hr)⟩,HLb,HZ⟩
 case round =>
  clear HX1 HK1 HC HLb HZ
  rename World=>wr
  obtain ⟨k,y,rows,bo,Ao,co,hk,rfl,rfl,HLn,HY,HK,HO,HB,HE⟩:=hrel;by_cases hlt:k < N
  ·have hltI:(k:Int) < (N:Int):=by omega
   obtain ⟨r,rfl⟩:∃ r,y=.ok r:=by
    cases y with
    | ok r=>exact ⟨r,rfl⟩
    | error e=>have:=HE.out e rfl;omega
   have c0:=(HR.out wr HK.out).c0;have HL:=hid (PRecord_u wr rb g b n c bt nt ct A At xs (.ok r) t (rows.map valR) HY.out (HI.out.kp HK.out) (HR.out wr HK.out) (HT.out.kp HK.out));have HB2:Hid ((xb (recF t (rows.map valR) r) fun p=>repP (recF t) (N - (k+1)) (rows.map valR++[p.1]) p.2)=Lb):=hid (by
    have:=HB.out;rw [xb_ok,show N - k=(N - (k+1))+1 by omega,repP] at this;exact this)
   rw [xb_ok] at HL;obtain ⟨X,hX⟩:∃ X,recF t (rows.map valR) r=X:=⟨_,rfl⟩;rw [hX] at HL HB2;clear hX HB c0;go_wp2_with fail;refine HL.out.mono ?_;rintro e w2 ⟨⟨l1,ls,bl,Al,cl,bc,Ac,cc⟩,rfl,hq1,hq2,hv,hX2,hK2⟩;dsimp only at hq1 hq2 hv;have hn3:Nw w2 (w2.alloc (.cells #[.slice Al l1.length cl,.slice Ac ls.length cc] 118)):=(Nw.refl w2).alloc' _;have HO3:=hid ((HO.out.1.keep (HY.out.ktl hK2) (by decide)).nw hn3);have HRw:=hid ((HO.out.2.keep (HY.out.ktl hK2) (by decide) (by decide)).nw hn3);have HQ1:=hid ((hq1.mono (w0:=w) HK.out.size).nw hn3);have HQ2:=hid ((hq2.mono (w0:=w) HK.out.size).nw hn3);have HK3:=hid ((HK.out.trans hK2 (.inl rfl) (.inl rfl)).nw' hn3);have HX3:=hid (hX2.nw hn3);have HV:=hid hv;have hz3:=heap_alloc_new w2 (.cells #[.slice Al l1.length cl,.slice Ac ls.length cc] 118);obtain ⟨Z,hZ⟩:∃ Z,w2.heap.size=Z:=⟨_,rfl⟩;rw [hZ] at hz3;have HZ3:=hid hz3;have HZs:=hid hZ;have c03:=(HR.out _ HK3.out).c0;have HEr:=hid (WErr_u _ g n c A xs _ HX3.out);clear hv hq1 hq2 hX2 hK2 hn3 hz3 hZ HL;go_wp2_with fail;rw [HZs.out];generalize w2.alloc (.cells #[.slice Al l1.length cl,.slice Ac ls.length cc] 118)=w3 at *;refine HEr.out.mono ?_;rintro e w4 ⟨rfl,rfl⟩;cases X with
   | error er =>
    have hk1:((er:Int) != 0)=true:=by rw [bne_iff_ne];have:=HX3.out.1;omega
    have hk2:(((eOf (sOf (.error er:Except Nat (RecV × List Nat))):Nat):Int) != 0)=true:=hk1;have HE2:Hid (Lb=.error er):=hid HB2.out.symm;clear HEr;go_wp2_with fail;go_ret;refine ⟨[],0,none,0,rfl,OwN.nil _ _ _ _ _,fun r hr=>(by cases hr),fun p hp=>?_,?_,HK3.out⟩
    ·rw [HE2.out] at hp;cases hp
    ·rw [HE2.out];exact HX3.out
   | ok p =>
    obtain ⟨l,r2⟩:=p;obtain rfl:l=(l1,ls):=HV.out _ rfl;have hk2:(((eOf (sOf (.ok ((l1,ls),r2):Except Nat (RecV × List Nat))):Nat):Int) != 0)=false:=rfl;have z0:w3.cell? ⟨Z,0,none⟩=some (.slice Al l1.length cl):=cell_at (k:=0) HZ3.out;have z1:w3.cell? ⟨Z,1,none⟩=some (.slice Ac ls.length cc):=cell_at (k:=1) HZ3.out;clear HEr;go_wp2_with (at_builtin;refine wpList_appL E_rec rfl (.tmp 19) (.tmp 21) rfl rfl HO3.out HK3.out.size rfl rfl (by simp [Value.oneCell']) (by omega) (by omega) ?_;intro b5 A5 c5 w5 q1 q2 q3;have Q1:=hid q1;have Q2:=hid q2;have Q3:=hid q3;clear q1 q2 q3)
    go_roundw
    case rel=>exact ⟨k+1,.ok r2,rows++[⟨l1,ls,bl,Al,cl,bc,Ac,cc⟩],b5,A5,c5,by omega,by go_num,rfl,hid (by rw [List.length_append,HLn.out];rfl),hid (HX3.out.keep Q3.out (by decide)),hid (HK3.out.up Q2.out),hid ⟨(by have:=Q1.out;unfold cRec at this ⊢;rw [c2_append];exact this),fun r hr=>by
     rcases List.mem_append.1 hr with hr | hr
     ·exact (HRw.out.keep Q3.out (by decide) (by decide)) r hr
     ·obtain rfl:=List.mem_singleton.1 hr;exact ⟨HQ1.out.keep Q3.out (by decide),HQ2.out.keep Q3.out (by decide)⟩⟩,hid (by rw [List.map_append];exact HB2.out),hid fun e he=>(by cases he)⟩
    case measure=>simp [intOf];omega
  ·have hltI:¬ (k:Int) < (N:Int):=by omega
   have HF:Hid ((∀ p,Lb=.ok p→p.1=rows.map valR)∧sOf Lb=y):=hid (by
    have:=HB.out;rw [show N - k=0 by omega] at this;cases y with
    | error e =>
     have this:Except.error e=Lb:=this;rw [← this];exact ⟨fun p hp=>(by cases hp),rfl⟩
    | ok r =>
     have this:Except.ok (rows.map valR,r)=Lb:=this;rw [← this];exact ⟨fun p hp=>(by injection hp with hp;rw [← hp]),rfl⟩)
   clear hlt;go_wp2_with fail;go_ret;refine ⟨rows,bo,Ao,co,(by rw [HLn.out];rfl),by rw [HLn.out];exact HO.out.1,HO.out.2,HF.out.1,?_,HK.out⟩;rw [HF.out.2];exact HY.out
end
def PRecDec (w:World) (X:Except Nat (List RecV)) (e:Ending) (w':World):Prop :=
 Nw w w'∧match X with
  | .ok l=>∃ (rows:List RecS) (bo:Nat) (Ao:Option Addr) (co:Nat),e=.returned (.tuple #[.slice Ao l.length co,.int .i64 0])∧OwN w w' bo 118 2 Ao l.length co (cRec rows)∧rows.map valR=l∧RowsD w w' rows
  | .error k=>e=.returned (.tuple #[.slice none 0 0,.int .i64 (k:Int)])∧k≠0
set_option maxRecDepth 100000 in
set_option maxHeartbeats 1000000 in
theorem PRecDecode_any (w:World) (b bt n c nt ct:Nat) (A At:Option Addr) (xs:List Nat) (t:List ByteArray) (hr:Rd w b A (cN .u8 xs)) (hA:A=none→c=0) (hn:n=xs.length) (hm:n≤1000000000) (hx:∀ x∈xs,x < 256) (hrt:Rd w bt At (cT t)) (hnt:nt=t.length) (hmt:nt≤1000000000) :
  Calls Tryz.prog 59 #[.slice At nt ct,.slice A n c] w (PRecDec w (recsP t xs)):=by
 have hmf:∀ (fn:Fn) (first cap:Array Value) (w:World),(Instr.makeFunc fn first cap).run Tryz.prog w=.ok (.func fn first cap) w:=fun _ _ _ _=>rfl
 have HW:=hid (WNew_any w b A n c xs hn hm hr hA hx);have HT:=hid fun (W:World) (g:Nat) (hN:Nw w W) (hg:w.heap.size≤g)=>TIn.fresh (W:=W) (g:=g) hrt hnt hmt hN hg
 rw [recsP_Q];obtain ⟨X,hXX⟩:∃ X,recQ t xs=X:=⟨_,rfl⟩;rw [hXX];have HXX:=hid hXX;have Hn:=hid hn;clear hr hA hx hrt hnt hn hXX;go_enter Tryz.func59,Tryz.ntmps59
 go_wp2_with fail;refine HW.out.mono ?_;rintro e w1 ⟨g,b1,A1,c1,rfl,hS,hI,hb1,hg1,hN1⟩;obtain ⟨rb,hrb⟩:∃ rb,w1.heap.size=rb:=⟨_,rfl⟩;have hn2:Nw w1 (w1.alloc (.cells #[.pointer (some ⟨g,0,none⟩),.slice At nt ct,.int .i64 (n:Int)] 187)):=(Nw.refl w1).alloc' _;have hR:=heap_alloc_new w1 (.cells #[.pointer (some ⟨g,0,none⟩),.slice At nt ct,.int .i64 (n:Int)] 187);rw [hrb] at hR;obtain ⟨bt',hT⟩:=HT.out _ g (hN1.trans hn2) hg1;have hX:WX w1 g A1 n c1 xs (.ok xs):=⟨by rw [Hn.out,Nat.sub_self,← Hn.out];exact hS,[],rfl⟩;have HL:=hid (PRecs_u _ rb g b1 n c1 bt' nt ct A1 At xs (.ok xs) t (hX.nw hn2) (hI.nw hn2) hR hT);rw [xb_ok] at HL;have HX:=hid (hX.nw hn2);have HI:=hid (hI.nw hn2);have HR:Hid (RrS _ rb g At nt ct n):=hid hR;have HN2:=hid (hN1.trans hn2);have HG:=hid hg1;have Hrb:=hid hrb;rw [HXX.out] at HL;clear hS hI hb1 hg1 hN1 hn2 hR hT hX hrb HW HT;go_wp2_with fail;rw [Hrb.out];generalize w1.alloc (.cells #[.pointer (some ⟨g,0,none⟩),.slice At nt ct,.int .i64 (n:Int)] 187)=w2 at *;refine HL.out.mono ?_;rintro e w3 ⟨rows,bo,Ao,co,rfl,hO,hRw,hv,hX3,hK3⟩;have c03:=(HR.out.kp HX.out hK3).c0;have HEnd:=hid (WEnd_u w3 g b1 n c1 A1 xs _ hX3 (HI.out.kp hK3));have HO:=hid (hO.mono (w0:=w) HN2.out.size);have HRw:Hid (RowsD w w3 rows):=hid fun r hr=>⟨(hRw r hr).1.mono HN2.out.size,(hRw r hr).2.mono HN2.out.size⟩
 have HV:=hid hv;have HN3:Hid (Nw w w3):=hid (Kp.nw HN2.out hK3 HG.out HG.out);have HX3:=hid hX3;clear hO hRw hv hX3 hK3;have HF:Hid ((eOf (endX (sOf X))=0∧xb X endL=.ok (rows.map valR))∨(eOf (endX (sOf X))≠0∧xb X endL=.error (eOf (endX (sOf X))))):=hid (by
  cases X with
  | error k=>exact .inr ⟨HX3.out.1,rfl⟩
  | ok p =>
   obtain ⟨l,r⟩:=p;obtain rfl:=HV.out _ rfl;rw [xb_ok];unfold endX endL sOf;rw [xb_ok];by_cases hr:r=[]
   ·rw [if_pos hr,if_pos hr];exact .inl ⟨rfl,rfl⟩
   ·rw [if_neg hr,if_neg hr];exact .inr ⟨by show (4:Nat)≠0;omega,rfl⟩)
 obtain ⟨E,hE⟩:∃ E,eOf (endX (sOf X))=E:=⟨_,rfl⟩;rw [hE] at HEnd HF;clear hE HV HX3;go_wp2_with fail;refine HEnd.out.mono ?_;rintro e w4 ⟨rfl,rfl⟩;by_cases hE0:E=0
 ·have hEI:((E:Int) != 0)=false:=by rw [bne_eq_false_iff_eq];omega
  have HE0:=hid hE0;clear hE0 HEnd;go_wp2_with fail;go_ret2;refine ⟨HN3.out,?_⟩;rw [(HF.out.resolve_right fun h=>h.1 HE0.out).2];have hl:(rows.map valR).length=rows.length:=List.length_map ..;exact ⟨rows,bo,Ao,co,(by rw [hl];rfl),by rw [hl];exact HO.out,rfl,HRw.out⟩
 ·have hEI:((E:Int) != 0)=true:=by rw [bne_iff_ne];omega
  have HE0:=hid hE0;clear hE0 HEnd;go_wp2_with fail;go_ret2;refine ⟨HN3.out,?_⟩;rw [(HF.out.resolve_left fun h=>HE0.out h.1).2];exact ⟨rfl,HE0.out⟩
end
section
open Go Go.RowKit Go.Lib Go.Sort Go.Shelf
theorem run_ser1 {W:World} {g:Nat} {a:Value} {t:TypeId} (h:W.heap[g]? = some (.cells #[a] t (0,0))):(loadVar 31 ⟨g,0,none⟩).run Tryz.prog W=.ok a W:=by
 have c0:W.cell? ⟨g,0,none⟩=some a:=cell_at (k:=0) h;simp [loadVar,loadCells,loadCellsFrom,go_sem,c0]
theorem run_err1 {W:World} {g:Nat} {a:Value} {t:TypeId} (h:W.heap[g]? = some (.cells #[a] t (0,0))):(loadVar 29 ⟨g,0,none⟩).run Tryz.prog W=.ok a W:=by
 have c0:W.cell? ⟨g,0,none⟩=some a:=cell_at (k:=0) h;simp [loadVar,loadCells,loadCellsFrom,go_sem,c0]
theorem door_panic {w W:World} {k:Nat} {v u:Value} {T1 T2:TypeId} (tmps:Array Value) (hp2:tmps.getD 2 undef=.pointer (some ⟨w.heap.size+1,0,none⟩)) (hp3:tmps.getD 3 undef=.pointer (some ⟨w.heap.size+1+1,0,none⟩))
  (h2:W.heap[w.heap.size+1]? = some (.cells #[v] T1 (0,0))) (h3:W.heap[w.heap.size+1+1]? = some (.cells #[u] T2 (0,0))) (hN:Nw w W) (hk:k≠0) :
  Leaves Tryz.prog Tryz.f34 tmps (BlkGot w (.error k)) [{ target:=.fn (.func 54) #[.pointer (some ⟨w.heap.size+1,0,none⟩),.pointer (some ⟨w.heap.size+1+1,0,none⟩)],args:=#[] }] (.panicking [{ v:=failV k,recovered:=false }]) W:=by
 refine leaves_cons (f:=54) (args:=#[.pointer (some ⟨w.heap.size+1,0,none⟩),.pointer (some ⟨w.heap.size+1+1,0,none⟩)]) (by simp) (by simp [go_sem]) ?_;refine (defer_panic W (w.heap.size+1) (w.heap.size+1+1) k v u T1 T2 [] h2 h3 (by omega)).mono ?_;rintro e u' w'' ⟨rfl,rfl,g1,g2,hK⟩;refine ⟨_,results_two rfl tmps w'' _ _ hp2 hp3 (run_ser1 g1) (run_err1 g2),?_⟩;exact ⟨Kp.nw hN hK (by omega) (by omega),rfl,hk⟩
theorem door_ok {w W:World} {X:Except Nat (List BVal)} {v u:Value} {T1 T2:TypeId} (tmps:Array Value) (hp2:tmps.getD 2 undef=.pointer (some ⟨w.heap.size+1,0,none⟩)) (hp3:tmps.getD 3 undef=.pointer (some ⟨w.heap.size+1+1,0,none⟩))
  (h2:W.heap[w.heap.size+1]? = some (.cells #[v] T1 (0,0))) (h3:W.heap[w.heap.size+1+1]? = some (.cells #[u] T2 (0,0))) (hX:BlkGot w X (.returned (.tuple #[v,u])) W) :
  Leaves Tryz.prog Tryz.f34 tmps (BlkGot w X) [{ target:=.fn (.func 54) #[.pointer (some ⟨w.heap.size+1,0,none⟩),.pointer (some ⟨w.heap.size+1+1,0,none⟩)],args:=#[] }] .returning W:=by
 refine leaves_cons (f:=54) (args:=#[.pointer (some ⟨w.heap.size+1,0,none⟩),.pointer (some ⟨w.heap.size+1+1,0,none⟩)]) (by simp) (by simp [go_sem]) ?_;refine (defer_idle W (w.heap.size+1) (w.heap.size+1+1)).mono ?_;rintro e u' w'' ⟨rfl,rfl,rfl⟩;exact ⟨_,results_two rfl tmps W _ _ hp2 hp3 (run_ser1 h2) (run_err1 h3),hX⟩
theorem three_new (w:World) (o1 o2 o3:Obj):(((w.alloc o1).alloc o2).alloc o3).heap[w.heap.size]? = some o1∧(((w.alloc o1).alloc o2).alloc o3).heap[w.heap.size+1]? = some o2∧(((w.alloc o1).alloc o2).alloc o3).heap[w.heap.size+1+1]? = some o3:=by
 have h2:=heap_alloc_new (w.alloc o1) o2;have h3:=heap_alloc_new ((w.alloc o1).alloc o2) o3;simp only [World.size_alloc] at h2 h3;refine ⟨?_,?_,h3⟩
 ·rw [heap_alloc_old _ _ (by simp only [World.size_alloc];omega),heap_alloc_old _ _ (by simp only [World.size_alloc];omega)];exact heap_alloc_new w o1
 ·rw [heap_alloc_old _ _ (by simp only [World.size_alloc];omega)];exact h2
structure S3 (w W:World) (v0 v1 v2 v3 v:Value):Prop where
 nw:Nw w W
 z:W.heap[w.heap.size]? = some (.cells #[v0,v1,v2,v3] 52 (0,0))
 b:W.heap[w.heap.size+1]? = some (.cells #[v] 31 (0,0))
 e:W.heap[w.heap.size+1+1]? = some (.cells #[.int .i64 0] 29 (0,0))
theorem S3.on {w W W':World} {v0 v1 v2 v3 v:Value} (h:S3 w W v0 v1 v2 v3 v) (hN:Nw W W'):S3 w W' v0 v1 v2 v3 v :=
 ⟨h.nw.trans hN,(hN.block _ (lt_of_block h.z)).trans h.z,(hN.block _ (lt_of_block h.b)).trans h.b,(hN.block _ (lt_of_block h.e)).trans h.e⟩
theorem heap_nw {W W':World} {k:Nat} {o:Obj} (hN:Nw W W') (h:W.heap[k]? = some o):W'.heap[k]? = some o:=(hN.block k (lt_of_block h)).trans h
theorem step_appN {P:Program} {w0 w:World} {b n c:Nat} {e:TypeId} {size:Nat} {A:Option Addr} {xs:List Value} {ops:Array Oper} {o:Oper} {a:Act} {K:Act→World→Prop} {Q:Exit→Act→World→Prop} {X:Prop} {t:TypeId} {z:Value} {bytes:Nat} (E:ElemT P t e z size bytes) (hgd:o.guard=none) (s x:Operand)
  (ho:o.op=.call { callee:=.builtin .append,args:=#[s,x],argTypes:=#[t,t] })
  (hs:a.eval s=.slice A n c) (hown:OwN w0 w b e size A n c xs) (h0:w0.heap.size≤w.heap.size)
  {g2:Nat} {us:Array Value} {fr:Nat × Nat} (hx:a.eval x=.slice (some ⟨g2,0,none⟩) 1 1) (hb:w.heap[g2]? = some (.cells us e fr)) (hl:us.size=size) (h1:∀ u∈us.toList,u.oneCell'=true)
  (hbytes:(n+1)*bytes≤140737488355328) (hby0:0 < bytes)
  (h:∀ g' c' w',OwN w0 w' g' e size (some ⟨g',0,none⟩) (n+1) c' (xs++us.toList)→Up w0 w w'→KtyL [e] w w'→K (a.put o.dst (.slice (some ⟨g',0,none⟩) (n+1) c')) w') :
  if Region.wanted o (yielded ops a.tmps)=true then Oper.wp P o a w K Q else X:=by
 obtain ⟨i,hi,hz,hsz,hby⟩:=E.info;have hn:n+1≤140737488355328:=Nat.le_trans (Nat.le_mul_of_pos_right _ hby0) hbytes;refine step_append_lies w hgd s x t ho 0 e i z size bytes E.und hi hz hsz hby E.cells E.pos _ n xs hs hown.1.row ⟨g2,0,none⟩ 1 1 us.toList hx (by rw [Array.length_toList,Nat.one_mul];exact hl) (World.news_of_block hb) h1 (by omega) (by simp only [maxLen];omega) hbytes (Nat.zero_le _) _ rfl ?_;intro g cap w' q1 q2 q3 q4;have hob:∀ j,(Value.slice A n c).ownBlock=some j→j=b∧A≠none:=fun j e=>hown.1.ownBlock j e
 have r3:Kp b b w w':=(Kp.refl b b w).grown q2 (fun j e=>.inl (hob j e).1);obtain ⟨k1,k2,k3⟩:=hown.app_ h0 (.inr ⟨rfl,q4,q1⟩:Ow w' g e size (some ⟨g,0,none⟩) (n+1) cap (xs++us.toList)) (q3.elim (fun q=>.inl (hob g q).1) (fun q=>.inr (by omega))) r3 (fun hA=>⟨(Nw.refl w).grown' q2 (fun j e=>((hob j e).2 hA).elim),.inl (q3.elim (fun q=>((hob g q).2 hA).elim) (fun q=>by omega))⟩);exact h g cap w' k1 k2 k3
theorem two_allocs (w:World) (o1 o2:Obj):((w.alloc o1).alloc o2).heap[w.heap.size]? = some o1∧((w.alloc o1).alloc o2).heap[w.heap.size+1]? = some o2:=by
 have h2:=heap_alloc_new (w.alloc o1) o2;simp only [World.size_alloc] at h2;refine ⟨?_,h2⟩;rw [heap_alloc_old _ _ (by simp only [World.size_alloc];omega)];exact heap_alloc_new w o1
theorem S3.keep {T:List TypeId} {w W W':World} {v0 v1 v2 v3 v:Value} (h:S3 w W v0 v1 v2 v3 v) (hN:Nw w W') (hk:KtyL T W W') (h1:52 ∉ T) (h2:31 ∉ T) (h3:29 ∉ T):S3 w W' v0 v1 v2 v3 v:=⟨hN,hk.get h.z h1,hk.get h.b h2,hk.get h.e h3⟩
theorem S3.put {w W:World} {v0 v1 v2 v3 v:Value} (h:S3 w W v0 v1 v2 v3 v) (u:Value):S3 w (W.setCell ⟨w.heap.size+1,0,none⟩ u) v0 v1 v2 v3 u∧KtyL [31] W (W.setCell ⟨w.heap.size+1,0,none⟩ u):=by
 have hk:Kp (w.heap.size+1) (w.heap.size+1) W (W.setCell ⟨w.heap.size+1,0,none⟩ u):=(Kp.refl _ _ W).setCell' (p:=⟨w.heap.size+1,0,none⟩) (.inl rfl) _;refine ⟨⟨h.nw.setCell' (p:=⟨w.heap.size+1,0,none⟩) (by simp) _,(hk.block _ (lt_of_block h.z) (by omega) (by omega)).trans h.z,?_,(hk.block _ (lt_of_block h.e) (by omega) (by omega)).trans h.e⟩,hk.ktl h.b⟩;have:=set_at (k:=0) u h.b;simpa using this
theorem S3.fin {w W:World} {v0 v1 v2 v3 v:Value} (h:S3 w W v0 v1 v2 v3 v):S3 w ((W.setCell ⟨w.heap.size+1,0,none⟩ v).setCell ⟨w.heap.size+1+1,0,none⟩ (.int .i64 0)) v0 v1 v2 v3 v∧KtyL [31,29] W ((W.setCell ⟨w.heap.size+1,0,none⟩ v).setCell ⟨w.heap.size+1+1,0,none⟩ (.int .i64 0)):=by
 obtain ⟨h1,k1⟩:=h.put v;have hk:Kp (w.heap.size+1+1) (w.heap.size+1+1) (W.setCell ⟨w.heap.size+1,0,none⟩ v) ((W.setCell ⟨w.heap.size+1,0,none⟩ v).setCell ⟨w.heap.size+1+1,0,none⟩ (.int .i64 0)):=(Kp.refl _ _ _).setCell' (p:=⟨w.heap.size+1+1,0,none⟩) (.inl rfl) _;refine ⟨⟨h1.nw.setCell' (p:=⟨w.heap.size+1+1,0,none⟩) (by simp;omega) _,(hk.block _ (lt_of_block h1.z) (by omega) (by omega)).trans h1.z,(hk.block _ (lt_of_block h1.b) (by omega) (by omega)).trans h1.b,?_⟩,(k1.mono (by simp)).trans ((hk.ktl h1.e).mono (by simp))⟩;have:=set_at (k:=0) (.int .i64 0) h1.e;simpa using this
def setR (r:RecS):SetS:=⟨r.labs,r.bl,r.al,r.cl⟩
theorem cSet_snocR {rows:List RecS} {k:Nat} (h:k < rows.length):cSet ((rows.take (k+1)).map setR)=cSet ((rows.take k).map setR)++[.slice rows[k].al rows[k].labs.length rows[k].cl]:=by
 unfold cSet;rw [List.take_succ_eq_append_getElem h,List.map_append,List.map_append];rfl
theorem ser_in {w w5 w' W:World} {t:List ByteArray} {rows:List RecS} {srows:List SmS} {bo co:Nat} {Ao:Option Addr} (hO:OwN w5 W bo 86 2 Ao rows.length co (cR (List.zipWith serM rows srows))) (hl:srows.length=rows.length) (h1:RowsD w W rows) (h2:∀ q∈srows,OwS w' W q) (h3:∀ z∈srows.map (·.zs),InS z) (h4:∀ s∈strsOf (rows.flatMap (·.labs)),s∈t) (h5:∀ s∈t,s.size≤65535):InSer W bo Ao rows.length co (List.zipWith serM rows srows) :=
 ⟨hO.1.rd,by rw [List.length_zipWith,hl,Nat.min_self],hO.capz,hO.1.cap.1,hO.1.cap.2,serM_ok h1 h2 h3 h4 h5⟩
theorem ser_new {w w5 w' W:World} {rows:List RecS} {srows:List SmS} {bo co n:Nat} {Ao:Option Addr} {xs:List Value} (hO:OwN w5 W bo 86 2 Ao n co xs) (hs5:w.heap.size≤w5.heap.size) (hs':w.heap.size≤w'.heap.size) (h1:RowsD w W rows) (h2:∀ q∈srows,OwS w' W q):NewS w bo Ao (List.zipWith serM rows srows) :=
 ⟨hO.2.imp id fun h=>Nat.le_trans hs5 h,fun s hs=>by
  obtain ⟨r,hr,q,hq,rfl⟩:=serM_mem hs;exact ⟨(h1 r hr).1.2,((h2 q hq).2).imp id fun h=>Nat.le_trans hs' h⟩⟩
set_option maxRecDepth 100000 in
set_option maxHeartbeats 3000000 in
theorem PSections_any (w:World) (b0 b1 b2 b3 c0 c1 c2 c3:Nat) (A0 A1 A2 A3:Option Addr) (l0 l1 l2 l3:List Nat) (h0:SecI0 w b0 A0 c0 l0) (h1:SecI0 w b1 A1 c1 l1) (h2:SecI0 w b2 A2 c2 l2) (h3:SecI0 w b3 A3 c3 l3) (hM:l2.length≤1000000) (hQ:SecNum l0 l1 l3) (hG:Gl w) :
  Calls Tryz.prog 34 #[.agg #[.slice A0 l0.length c0,.slice A1 l1.length c1,.slice A2 l2.length c2,.slice A3 l3.length c3]] w (BlkGot w (secsP (l0,l1,l2,l3))):=by
 have hmf:∀ (fn:Fn) (first cap:Array Value) (w:World),(Instr.makeFunc fn first cap).run Tryz.prog w=.ok (.func fn first cap) w:=fun _ _ _ _=>rfl
 have HS0:=hid fun (W:World) (hN:Nw w W)=>PSymDecode_any W b0 l0.length c0 A0 l0 (h0.rd.nw hN) h0.nil rfl h0.cap (by have:=h0.len;omega) h0.byt
 have HI1:=hid h1;have HI2:=hid h2;have HI3:=hid h3;have HG:=hid hG;have HB0:=hid fun t=>syms_bnd (t:=t) h0.byt
 have HM:=hid hM;have HQ:Hid (∀ t,symsP l0=.ok t→NumT t l1 l3):=hid hQ;rw [secsP_T];obtain ⟨X0,hX0⟩:∃ X0,symsP l0=X0:=⟨_,rfl⟩;rw [hX0] at HS0 HB0 HQ ⊢;obtain ⟨P,hP⟩:∃ P,(xb X0 fun t=>secT t l1 l2 l3)=P:=⟨_,rfl⟩;rw [hP];have HP:=hid hP;clear hP h0 h1 h2 h3 hX0 hG hM hQ
 go_enter_defers Tryz.func34,Tryz.ntmps34
 go_wp2_with fail;have hN1:Nw w (((w.alloc (.cells #[.slice A0 l0.length c0,.slice A1 l1.length c1,.slice A2 l2.length c2,.slice A3 l3.length c3] 52)).alloc (.cells #[.slice none 0 0] 31)).alloc (.cells #[.int .i64 0] 29)):=(((Nw.refl w).alloc' _).alloc' _).alloc' _;obtain ⟨k0,k1,k2⟩:=three_new w (.cells #[.slice A0 l0.length c0,.slice A1 l1.length c1,.slice A2 l2.length c2,.slice A3 l3.length c3] 52) (.cells #[.slice none 0 0] 31) (.cells #[.int .i64 0] 29);refine (HS0.out _ hN1).mono ?_;rintro e w2 ⟨hN2,hX⟩;have H3:=hid (S3.on (w:=w) ⟨hN1,k0,k1,k2⟩ hN2);clear hN1 hN2 HS0 k0 k1 k2;cases X0 with
 | error k =>
  obtain ⟨rfl,hk⟩:=hX;have HK:=hid hk;have hPe:P=.error k:=HP.out.symm;subst hPe;clear hk;go_wp2_with fail;refine (must_str_bad w2 (.slice none 0 0) k HK.out).mono ?_;rintro e w3 ⟨rfl,rfl⟩;go_wp2_with fail;exact door_panic _ rfl rfl H3.out.b H3.out.e H3.out.nw HK.out
 | ok t =>
  obtain ⟨bt,At,ct,rfl,hOt⟩:=hX;obtain ⟨ht1,ht2,ht3⟩:=HB0.out t rfl;have HL1:=HI1.out.len;have HT:=hid hOt;have HT2:=hid ht2;have HNd:=hid ht3;obtain ⟨nt,hnt⟩:∃ nt,t.length=nt:=⟨_,rfl⟩;obtain ⟨hq1,hq2⟩:=HQ.out t rfl;have HQ1:Hid (∀ l,recsP t l1=.ok l→NumR t l l3):=hid hq2;have hnt6:nt≤10000:=by omega
  have HNt:=hid hnt;have HS1:=hid (PRecDecode_any w2 b1 bt l1.length c1 nt ct A1 At l1 t (HI1.out.rd.nw H3.out.nw) HI1.out.nil rfl (by omega) HI1.out.byt hOt.1.rd hnt.symm (by omega));have HB1:=hid fun l=>recs_bnd (l:=l) ht3 HI1.out.byt
  obtain ⟨X1,hX1⟩:∃ X1,recsP t l1=X1:=⟨_,rfl⟩;have HP1:Hid ((xb X1 fun l=>secU t l l2 l3)=P):=hid (by rw [← HP.out,xb_ok,← hX1];rfl);rw [hX1] at HS1 HB1 HQ1;rw [hnt];clear HP hX1 hOt ht1 ht2 ht3 HB0 hnt hq1 hq2 HQ;have z1:w2.cell? ⟨w.heap.size,1,none⟩=some (.slice A1 l1.length c1):=cell_at (k:=1) H3.out.z;go_wp2_with fail;refine (must_str w2 (.slice At nt ct)).mono ?_;rintro e w3 ⟨rfl,rfl⟩;go_wp2_with fail;refine HS1.out.mono ?_;rintro e w3 ⟨hN3,hX⟩;have HN23:=hid hN3;have H3b:=hid (H3.out.on hN3);have HTb:=hid (HT.out.nw hN3);clear hN3 HS1 z1;cases X1 with
  | error k =>
   obtain ⟨rfl,hk⟩:=hX;have HK:=hid hk;have hPe:P=.error k:=HP1.out.symm;subst hPe;clear hk;go_wp2_with fail;refine (must_rec_bad w3 (.slice none 0 0) k HK.out).mono ?_;rintro e w4 ⟨rfl,rfl⟩;go_wp2_with fail;exact door_panic _ rfl rfl H3b.out.b H3b.out.e H3b.out.nw HK.out
  | ok l =>
   obtain ⟨rows,bR,AR,cR',rfl,hOR,hval,hrD⟩:=hX;obtain ⟨-,-,-,k4⟩:=HB1.out l rfl;obtain ⟨k1,k2,k3,hq4⟩:=HQ1.out l rfl;have HQ4:=hid hq4;have hll:l.length=rows.length:=by rw [← hval,List.length_map]
   rw [← hval,flat_valR] at k2 k4;rw [← hval,flat_valC] at k3;have HRD:Hid (RowsD w w3 rows):=hid (hrD.mono H3.out.nw.size);have HOR:Hid (OwN w w3 bR 118 2 AR rows.length cR' (cRec rows)):=hid (by rw [← hll];exact hOR.mono H3.out.nw.size);have HU:=hid (PUnused_any w3 bR bt rows.length cR' nt ct AR At rows t rfl (by omega) HOR.out.1.rd (fun r hr=>(HRD.out r hr).1.1.rd) (by omega) HTb.out.1.rd HNt.out.symm (by omega) (fun s hs=>by have:=HT2.out s (k4 s hs);unfold SOk;simp only [maxLen];omega) (fun s hs=>by have:=HT2.out s hs;unfold SOk;simp only [maxLen];omega));have HK4:=hid k4;have HK3:=hid (show (rows.flatMap (·.chks)).length≤10000 by omega);have HK2:=hid (show (rows.flatMap (·.labs)).length≤10000 by omega);have hrl:rows.length≤10000:=by omega
   obtain ⟨U,hUe⟩:∃ U,usedB t (rows.flatMap (·.labs))=U:=⟨_,rfl⟩;have HP2:Hid ((if U=true then secC t l l2 l3 else .error 15)=P):=hid (by
    rw [← HP1.out,xb_ok];unfold secU;rw [← hval,flat_valR,hUe])
   rw [hUe] at HU;rw [hll];have HVal:=hid hval;clear hUe hval hll k1 k2 k3 k4 hq4 HQ1 HB1 hOR hrD HP1;go_wp2_with fail;refine (must_rec w3 (.slice AR rows.length cR')).mono ?_;rintro e w4 ⟨rfl,rfl⟩;go_wp2_with fail;refine HU.out.mono ?_;rintro e w4 ⟨⟨r,rfl,hr1,hr2⟩,hN4⟩;have H3c:=hid (H3b.out.on hN4);have HN4:=hid hN4;clear hN4 HU;cases U with
   | false =>
    have hr:=hr2 rfl;have hPe:P=.error 15:=HP2.out.symm;subst hPe;clear hr1 hr2;go_wp2_with fail;refine (need_bad w4 15 (by omega)).mono ?_;rintro e w5 ⟨rfl,rfl⟩;go_wp2_with fail;exact door_panic _ rfl rfl H3c.out.b H3c.out.e H3c.out.nw (by omega)
   | true =>
    have hr:=hr1 rfl;have HP3:Hid (secC t l l2 l3=P):=HP2;have hrn:¬ 0≤r:=by omega
    have HR4:=hid (HOR.out.1.rd.nw HN4.out);have HRD4:=hid (HRD.out.nw HN4.out);have HT4:=hid (HTb.out.nw HN4.out);clear hr1 hr2 hr HN23 H3 H3b HRD HTb HT HN4 HP2 HOR;go_wp2_with fail;go_loopw [6,7,33] (fun lv sv iv wr=>∃ (i u1 d1 u2 d2:Nat) (E1 E2:Option Addr),i≤rows.length∧iv=.int .i64 (i:Int)∧lv=.slice E1 i d1∧sv=.slice E2 i d2∧Hid (OwN w4 wr u1 56 1 E1 i d1 (cLen ((rows.take i).map intR)))∧Hid (OwN w4 wr u2 84 1 E2 i d2 (cSet ((rows.take i).map setR)))∧Hid (Nw w4 wr)) (fun _ _ iv _=>rows.length - (intOf iv).toNat)
    case atStart=>exact ⟨0,0,0,0,0,none,none,Nat.zero_le _,rfl,rfl,rfl,hid (OwN.nil _ _ _ _ _),hid (OwN.nil _ _ _ _ _),hid (Nw.refl _)⟩
    case round =>
     obtain ⟨i,u1,d1,u2,d2,E1,E2,hi,rfl,rfl,rfl,HO1,HO2,HN⟩:=hrel;by_cases hlt:i < rows.length
     ·have hltI:(i:Int) < (rows.length:Int):=by omega
      obtain ⟨o,rfl,_,hc,hc1⟩:=two_at (HR4.out.nw HN.out) hlt;have HSn:=hid (cLen_snoc hlt);have HSs:=hid (cSet_snocR hlt);generalize rows[i]=q at *;obtain ⟨wx,hwx⟩:∃ wx,wr.alloc (.cells #[.slice q.al q.labs.length q.cl,.slice q.ac q.chks.length q.cc] 118)=wx:=⟨_,rfl⟩;have hbx:=heap_alloc_new wr (.cells #[.slice q.al q.labs.length q.cl,.slice q.ac q.chks.length q.cc] 118);have hNx:Nw wr wx:=by rw [← hwx];exact (Nw.refl wr).alloc' _
      rw [hwx] at hbx;have HNx:=hid hNx;have HBx:=hid hbx;have x0:wx.cell? ⟨wr.heap.size,0,none⟩=some (.slice q.al q.labs.length q.cl):=cell_at (k:=0) hbx;have x1:wx.cell? ⟨wr.heap.size,1,none⟩=some (.slice q.ac q.chks.length q.cc):=cell_at (k:=1) hbx;have hd0:wx.drew.cell? ⟨wr.heap.size,0,none⟩=some (.slice q.al q.labs.length q.cl):=x0;have hd1:wx.drew.cell? ⟨wr.heap.size,1,none⟩=some (.slice q.ac q.chks.length q.cc):=x1;have hbl:=lt_of_block hbx;clear hlt hNx hbx;go_wp2_with fail;clear hwx hc hc1;refine wp_norm fun QQ hQQ=>?_
      go_region_law (first
       | (refine step_appN E_ints rfl (.tmp 37) (.tmp 40) rfl rfl (HA2.out.nw (by first | exact Nw.refl _ | exact (Nw.refl _).alloc' _)) (Below.size (HBN.out.trans (by first | exact Nw.refl _ | exact (Nw.refl _).alloc' _))) rfl (by first | exact heap_alloc_new _ _ | exact KB3.out.get (heap_alloc_new _ _) (by decide) | exact KB3.out.get (two_allocs _ _ _).1 (by decide) | exact KB3.out.get (two_allocs _ _ _).2 (by decide)) (by rfl) (by intro u hu;simp at hu;subst hu;rfl) (by omega) (by omega) ?_;intro gA cA wA kA1 kA2 kA3;have HFN:=hid ((HBN.out.trans (by first | exact Nw.refl _ | exact (Nw.refl _).alloc' _)).up kA2);have HFB:=hid ((HB1.out.nw (by first | exact Nw.refl _ | exact (Nw.refl _).alloc' _)).keep kA3 (by decide));have HFA:=hid kA1;clear kA1 kA2 kA3)
       | (refine step_appN E_set rfl (.tmp 42) (.tmp 45) rfl rfl (HB2.out.nw (by first | exact Nw.refl _ | exact (Nw.refl _).alloc' _)) (Below.size (HAN.out.trans (by first | exact Nw.refl _ | exact (Nw.refl _).alloc' _))) rfl (by first | exact heap_alloc_new _ _ | exact KA3.out.get (heap_alloc_new _ _) (by decide) | exact KA3.out.get (two_allocs _ _ _).1 (by decide) | exact KA3.out.get (two_allocs _ _ _).2 (by decide)) (by rfl) (by intro u hu;simp at hu;subst hu;rfl) (by omega) (by omega) ?_;intro gB cB wB kB1 kB2 kB3;have HFN:=hid ((HAN.out.trans (by first | exact Nw.refl _ | exact (Nw.refl _).alloc' _)).up kB2);have HFA:=hid ((HA1.out.nw (by first | exact Nw.refl _ | exact (Nw.refl _).alloc' _)).keep kB3 (by decide));have HFB:=hid kB1;clear kB1 kB2 kB3)
       | (refine step_appN E_ints rfl (.tmp 37) (.tmp 40) rfl rfl (HO1.out.nw (by first | exact HNx.out | exact HNx.out.drewP | exact HNx.out.drewP.alloc' _ | exact (HNx.out.drewP.alloc' _).alloc' _ | exact HNx.out.alloc' _ | exact (HNx.out.alloc' _).alloc' _)) (Below.size (HN.out.trans (by first | exact HNx.out | exact HNx.out.drewP | exact HNx.out.drewP.alloc' _ | exact (HNx.out.drewP.alloc' _).alloc' _ | exact HNx.out.alloc' _ | exact (HNx.out.alloc' _).alloc' _))) rfl (by first | exact heap_alloc_new _ _ | exact (two_allocs _ _ _).1 | exact (two_allocs _ _ _).2) (by rfl) (by intro u hu;simp at hu;subst hu;rfl) (by omega) (by omega) ?_;intro gA cA wA kA1 kA2 kA3;have HAN:=hid ((HN.out.trans (by first | exact HNx.out | exact HNx.out.drewP | exact HNx.out.drewP.alloc' _ | exact (HNx.out.drewP.alloc' _).alloc' _ | exact HNx.out.alloc' _ | exact (HNx.out.alloc' _).alloc' _)).up kA2);have HB2:=hid ((HO2.out.nw (by first | exact HNx.out | exact HNx.out.drewP | exact HNx.out.drewP.alloc' _ | exact (HNx.out.drewP.alloc' _).alloc' _ | exact HNx.out.alloc' _ | exact (HNx.out.alloc' _).alloc' _)).keep kA3 (by decide));have HA1:=hid kA1;have KA3:=hid kA3;have hbA:=kA3.get (heap_nw (show Nw wx _ from (by first | exact Nw.refl _ | exact Nw.drewO _ | exact (Nw.drewO _).alloc' _ | exact ((Nw.drewO _).alloc' _).alloc' _ | exact (Nw.refl _).alloc' _ | exact ((Nw.refl _).alloc' _).alloc' _)) HBx.out) (by decide);have y0A:wA.cell? ⟨wr.heap.size,0,none⟩=some (.slice q.al q.labs.length q.cl):=cell_at (k:=0) hbA;have y1A:wA.cell? ⟨wr.heap.size,1,none⟩=some (.slice q.ac q.chks.length q.cc):=cell_at (k:=1) hbA;have ylA:=lt_of_block hbA;clear hbA kA1 kA2 kA3)
       | (refine step_appN E_set rfl (.tmp 42) (.tmp 45) rfl rfl (HO2.out.nw (by first | exact HNx.out | exact HNx.out.drewP | exact HNx.out.drewP.alloc' _ | exact (HNx.out.drewP.alloc' _).alloc' _ | exact HNx.out.alloc' _ | exact (HNx.out.alloc' _).alloc' _)) (Below.size (HN.out.trans (by first | exact HNx.out | exact HNx.out.drewP | exact HNx.out.drewP.alloc' _ | exact (HNx.out.drewP.alloc' _).alloc' _ | exact HNx.out.alloc' _ | exact (HNx.out.alloc' _).alloc' _))) rfl (by first | exact heap_alloc_new _ _ | exact (two_allocs _ _ _).1 | exact (two_allocs _ _ _).2) (by rfl) (by intro u hu;simp at hu;subst hu;rfl) (by omega) (by omega) ?_;intro gB cB wB kB1 kB2 kB3;have HBN:=hid ((HN.out.trans (by first | exact HNx.out | exact HNx.out.drewP | exact HNx.out.drewP.alloc' _ | exact (HNx.out.drewP.alloc' _).alloc' _ | exact HNx.out.alloc' _ | exact (HNx.out.alloc' _).alloc' _)).up kB2);have HA2:=hid ((HO1.out.nw (by first | exact HNx.out | exact HNx.out.drewP | exact HNx.out.drewP.alloc' _ | exact (HNx.out.drewP.alloc' _).alloc' _ | exact HNx.out.alloc' _ | exact (HNx.out.alloc' _).alloc' _)).keep kB3 (by decide));have HB1:=hid kB1;have KB3:=hid kB3;have hbB:=kB3.get (heap_nw (show Nw wx _ from (by first | exact Nw.refl _ | exact Nw.drewO _ | exact (Nw.drewO _).alloc' _ | exact ((Nw.drewO _).alloc' _).alloc' _ | exact (Nw.refl _).alloc' _ | exact ((Nw.refl _).alloc' _).alloc' _)) HBx.out) (by decide);have y0B:wB.cell? ⟨wr.heap.size,0,none⟩=some (.slice q.al q.labs.length q.cl):=cell_at (k:=0) hbB;have y1B:wB.cell? ⟨wr.heap.size,1,none⟩=some (.slice q.ac q.chks.length q.cc):=cell_at (k:=1) hbB;have ylB:=lt_of_block hbB;clear hbB kB1 kB2 kB3))
      all_goals
       show QQ _ _
       rw [hQQ.out];clear hQQ;go_wp2_with fail;go_roundw
       case rel=>exact ⟨i+1,_,_,_,_,_,_,by omega,by go_num,rfl,rfl,hid (by rw [HSn.out];exact HFA.out),hid (by rw [HSs.out];exact HFB.out),HFN⟩
       case measure=>simp [intOf];omega
     ·obtain rfl:i=rows.length:=by omega
      have hnl:¬ (rows.length:Int) < (rows.length:Int):=by omega
      have hO1:=HO1.out;have hO2:=HO2.out;rw [List.take_length] at hO1 hO2;have H3r:=hid (H3c.out.on HN.out);have HRDr:=hid (HRD4.out.nw HN.out);have HTr:=hid (HT4.out.nw HN.out);have HSt:=hid hO2;have hl2:=HM.out;have HC:=hid (PChunks_any wr b2 l2.length c2 u1 rows.length d1 A2 E1 l2 (rows.map intR) rfl HI2.out.cap (by omega) (HI2.out.rd.nw H3r.out.nw) HI2.out.byt (by rw [List.length_map]) (by omega) hO1.1.rd (intR_in HRDr.out) (by rw [intR_flat];have:=HK3.out;omega) (HG.out.nw H3r.out.nw));obtain ⟨X2,hX2⟩:∃ X2,chunksP l2 ((rows.map intR).map (·.zs))=X2:=⟨_,rfl⟩;have HP4:Hid ((xb X2 fun c=>secK t l c l3)=P):=hid (by
       rw [← HP3.out,← hX2,intR_zs,HVal.out];rfl)
      have HX2:=hid hX2;rw [hX2] at HC;have z2:wr.cell? ⟨w.heap.size,2,none⟩=some (.slice A2 l2.length c2):=cell_at (k:=2) H3r.out.z;have HN4w:=hid H3c.out.nw.size;have HNr:=hid HN.out.size;clear hX2 HP3 hO1 hO2 HR4 HRD4 HT4 HO1 HO2 HN H3c hlt;go_wp2_with fail;refine HC.out.mono ?_;rintro e w5 ⟨hN5,hX⟩;have H35:=hid (H3r.out.on hN5);have HN5:=hid hN5;clear hN5 HC z2;cases X2 with
      | error k =>
       obtain ⟨rfl,hk⟩:=hX;have HK:=hid hk;have hPe:P=.error k:=HP4.out.symm;subst hPe;clear hk;go_wp2_with fail;refine (must_smp_bad w5 (.slice none 0 0) k HK.out).mono ?_;rintro e w6 ⟨rfl,rfl⟩;go_wp2_with fail;exact door_panic _ rfl rfl H35.out.b H35.out.e H35.out.nw HK.out
      | ok c =>
       obtain ⟨srows,bC,AC,cC,rfl,hOC,hsv,hsO⟩:=hX;have HP5:Hid (secK t l c l3=P):=HP4;have HOC:=hid hOC;have HSv:=hid hsv;have HSO:=hid hsO;have HRD5:=hid (HRDr.out.nw HN5.out);have HT5:=hid (HTr.out.nw HN5.out);have HSt5:=hid (HSt.out.nw HN5.out);have hco:=chunks_of HI2.out.byt HX2.out;obtain ⟨hcl,hcs,hcI⟩:=hco;have hsl:srows.length=rows.length:=by rw [← hcl,← HSv.out,List.length_map]
       obtain ⟨S,hS⟩:∃ S,List.zipWith serM rows srows=S:=⟨_,rfl⟩;have HS:=hid hS;have HSl:Hid (S.length=rows.length):=hid (by rw [← hS,List.length_zipWith,hsl,Nat.min_self]);have HSn:Hid (∀ k (h:k < rows.length) (h':k < srows.length),cR (S.take (k+1))=cR (S.take k)++[.slice rows[k].al rows[k].labs.length rows[k].cl,.slice srows[k].A srows[k].zs.length srows[k].c]):=hid fun k h h'=>by rw [← hS];exact serM_snoc h h'
       have HCs:=hid (And.intro hcs hcI);have HCl:=hid (And.intro hcl hsl);clear hOC hsv hsO HP4 HRDr HTr HSt hcl hcs hcI hsl hS;go_wp2_with fail;refine (must_smp w5 (.slice AC c.length cC)).mono ?_;rintro e w6 ⟨rfl,rfl⟩;go_wp2_with fail;go_loopw [56] (fun iv wr=>∃ (i bo:Nat) (Ao:Option Addr) (co:Nat),i≤rows.length∧iv=.int .i64 (i:Int)∧Hid (S3 w wr (.slice A0 l0.length c0) (.slice A1 l1.length c1) (.slice A2 l2.length c2) (.slice A3 l3.length c3) (.slice Ao i co))∧Hid (OwN w5 wr bo 86 2 Ao i co (cR (S.take i)))∧Hid (KtyL [31,86] w5 wr)) (fun iv _=>rows.length - (intOf iv).toNat)
       case atStart=>exact ⟨0,0,none,0,Nat.zero_le _,rfl,H35,hid (OwN.nil _ _ _ _ _),hid (KtyL.refl _ _)⟩
       case round =>
        rename World=>wx
        have HSw:=hid H35.out.nw.size;clear H35;obtain ⟨i,bo,Ao,co,hi,rfl,HS3,HO,HK⟩:=hrel;by_cases hlt:i < rows.length
        ·have hltI:(i:Int) < (rows.length:Int):=by omega
         have hi0:(0:Int)≤(i:Int):=by omega
         have hls:i < srows.length:=by rw [HCl.out.2];exact hlt
         have hlc:(i:Int) < (c.length:Int):=by have:=HCl.out.1;omega
         obtain ⟨o1,rfl,_,hc1⟩:=(HSt5.out.keep HK.out (by decide)).1.rd.get (k:=i) (by unfold cSet;rw [List.length_map,List.length_map];exact hlt);obtain ⟨o2,rfl,_,hc2⟩:=(HOC.out.keep HK.out (by decide)).1.rd.get (k:=i) (by rw [List.length_map];exact hls);unfold cSet at hc1;rw [List.getElem_map,List.getElem_map] at hc1;rw [List.getElem_map] at hc2;have HT:=hid (HSn.out i hlt hls);generalize rows[i]=q at *;generalize srows[i]=sr at *;unfold SmS.cell at hc2;unfold setR at hc1;dsimp only at hc1;have p1:wx.cell? ⟨w.heap.size+1,0,none⟩=some (.slice Ao i co):=cell_at (k:=0) HS3.out.b;have hd0:wx.drew.cell? ⟨w.heap.size+1,0,none⟩=some (.slice Ao i co):=p1;have hd1:wx.drew.cell? ⟨u2,o1+i,none⟩=some (.slice q.al q.labs.length q.cl):=hc1;have hbl:w.heap.size+1 < wx.heap.size:=lt_of_block HS3.out.b;clear hlt hls;go_wp2_with fail;refine wp_norm fun QQ hQQ=>?_
         go_region_law (refine step_appN E_ser rfl (.tmp 61) (.tmp 68) rfl rfl (HO.out.nw (by first | exact Nw.drewO _ | exact (Nw.drewO _).alloc' _ | exact (Nw.refl _).alloc' _)) (Nat.le_trans HK.out.2 (Below.size (show Nw wx _ from (by first | exact Nw.drewO _ | exact (Nw.drewO _).alloc' _ | exact (Nw.refl _).alloc' _)))) rfl (by exact heap_alloc_new _ _) (by rfl) (by intro u hu;simp at hu;rcases hu with rfl | rfl<;>rfl) (by omega) (by omega) ?_;intro g9 c9 w9 k1 k2 k3;have hS:=(HS3.out.on (by first | exact Nw.drewO _ | exact (Nw.drewO _).alloc' _ | exact (Nw.refl _).alloc' _)).keep ((HS3.out.nw.trans (by first | exact Nw.drewO _ | exact (Nw.drewO _).alloc' _ | exact (Nw.refl _).alloc' _)).up (k2.mono HSw.out)) k3 (by decide) (by decide) (by decide);have HP9:=hid (hS.put (.slice (some ⟨g9,0,none⟩) (i+1) c9));have HO9:=hid (k1.keep HP9.out.2 (by decide));have HK9:=hid (((HK.out.trans (KtyL.nw (by first | exact Nw.drewO _ | exact (Nw.drewO _).alloc' _ | exact (Nw.refl _).alloc' _))).trans (k3.mono (by simp))).trans (HP9.out.2.mono (by simp)));have fz:w9.frozen? ⟨w.heap.size+1,0,none⟩=false:=at_free hS.b;have cz:w9.cell? ⟨w.heap.size+1,0,none⟩=some (.slice Ao i co):=cell_at (k:=0) hS.b;clear k1 k2 k3 hS)
         all_goals
          show QQ _ _
          rw [hQQ.out];clear hQQ;go_wp2_with fail;go_roundw
          case rel=>exact ⟨i+1,g9,_,c9,by omega,by go_num,hid HP9.out.1,hid (by rw [HT.out];exact HO9.out),HK9⟩
          case measure=>simp [intOf];omega
        ·obtain rfl:i=rows.length:=by omega
         have hlc:¬ (rows.length:Int) < (c.length:Int):=by have:=HCl.out.1;omega
         have hO:=HO.out;rw [List.take_of_length_le (by rw [HSl.out];exact Nat.le_refl _)] at hO;have hRDx:=HRD5.out.keep HK.out (by decide) (by decide);have hSOx:∀ q∈srows,OwS wr wx q:=fun q hq=>OwN.keep (HSO.out q hq) HK.out (by decide)
         have hTx:=HT5.out.keep HK.out (by decide);have hStx:=HSt5.out.keep HK.out (by decide);have hI:InSer wx bo Ao rows.length co S:=by
          rw [← HS.out] at hO ⊢;exact ser_in hO HCl.out.2 hRDx hSOx (by rw [HSv.out];exact HCs.out.2) HK4.out HT2.out
         have hsum:smpSum S≤1200000:=by
          rw [← HS.out,serM_sum _ _ HCl.out.2,HSv.out];have h1:=HCs.out.1;have h2:=HK3.out;omega
         have hlab:S.map (·.labs)=rows.map (·.labs):=by rw [← HS.out];exact serM_labs _ _ HCl.out.2
         have hlsum:(rows.map fun r=>r.labs.length).sum≤10000:=by have:=HK2.out;rw [List.length_flatMap] at this;exact this
         have hll:∀ s∈S,s.labs.length≤10000:=fun s hs=>by
          have m:s.labs∈rows.map (·.labs):=by rw [← hlab];exact List.mem_map.2 ⟨s,hs,rfl⟩
          obtain ⟨r,hr,e⟩:=List.mem_map.1 m;have:=sum_mem (List.mem_map.2 ⟨r,hr,rfl⟩:r.labs.length∈rows.map fun r=>r.labs.length);rw [← e];omega
         have hval:S.map valB=blkOf l c:=by rw [← HS.out,serM_val,HVal.out,HSv.out]
         have HChk:=hid (Check_any wx bo Ao rows.length co S hI (by omega) (by omega) (fun s hs=>by have:=hll s hs;omega));have HW:=hid (show blkE S=blkW (blkOf l c) from by rw [blkE_val,hval]);have HII:=hid hI;have HOx:=hid hO;have HRDx:=hid hRDx;have HSOx:=hid hSOx;have HTx:=hid hTx;have HStx:=hid hStx;have HLL:=hid (And.intro hsum (And.intro hll (And.intro hlab hlsum)));have HVl:=hid hval;have HSz:=hid (show w.heap.size≤wr.heap.size∧w.heap.size≤w5.heap.size from ⟨H3r.out.nw.size,by have:=H3r.out.nw.size;have:=HN5.out.size;omega⟩);obtain ⟨E,hE⟩:∃ E,blkW (blkOf l c)=E:=⟨_,rfl⟩;have HE:=hid hE;rw [HW.out,hE] at HChk;have p1:wx.cell? ⟨w.heap.size+1,0,none⟩=some (.slice Ao rows.length co):=cell_at (k:=0) HS3.out.b;clear hO hRDx hSOx hTx hStx hsum hlab hlsum hll hval hI hE HO HK hlt HT5 HRD5 HSt5 HN5 H3r;go_wp2_with fail;refine HChk.out.mono ?_;rintro e w6 ⟨rfl,hN6⟩;have HN6:=hid hN6;have HS6:=hid (HS3.out.on hN6);have HT6:=hid (HTx.out.nw hN6);clear hN6 HChk HS3 HTx p1;by_cases hE0:E=0
         case neg =>
          have HK:=hid hE0;have hPe:P=.error E:=by
           rw [← HP5.out];unfold secK;rw [HE.out,if_neg hE0]
          subst hPe;clear hE0;go_wp2_with fail;refine (need_bad w6 E HK.out).mono ?_;rintro e w7 ⟨rfl,rfl⟩;go_wp2_with fail;exact door_panic _ rfl rfl HS6.out.b HS6.out.e HS6.out.nw HK.out
         subst hE0;go_wp2_with fail;refine (need_ok w6).mono ?_;rintro e w7 ⟨rfl,rfl⟩;have p1:w6.cell? ⟨w.heap.size+1,0,none⟩=some (.slice Ao rows.length co):=cell_at (k:=0) HS6.out.b;have z3:w6.cell? ⟨w.heap.size,3,none⟩=some (.slice A3 l3.length c3):=cell_at (k:=3) HS6.out.z;have hl3:=HI3.out.len;have HPd:=hid (PPosDecode_any w6 b3 bt l3.length c3 nt ct rows.length A3 At l3 t (by omega) (HI3.out.rd.nw HS6.out.nw) HI3.out.nil rfl (by omega) HI3.out.byt HT6.out.1.rd HNt.out.symm (by omega));obtain ⟨X3,hX3⟩:∃ X3,posP t rows.length l3=X3:=⟨_,rfl⟩;have HP6:Hid ((xb X3 fun x=>if x=posV (blkOf l c) then .ok (blkOf l c) else .error 22)=P):=hid (by
          rw [← HP5.out];unfold secK;rw [HE.out,if_pos rfl,show l.length=rows.length from by rw [← HVal.out,List.length_map],hX3])
         have HX3:=hid hX3;rw [hX3] at HPd;clear hX3 HP5;go_wp2_with fail;refine HPd.out.mono ?_;rintro e w7 ⟨hN7,hX⟩;have HN7:=hid (HN6.out.trans hN7);have HS7:=hid (HS6.out.on hN7);clear hN7 HPd p1 z3 HS6 HT6 HN6;cases X3 with
         | error k =>
          obtain ⟨rfl,hk⟩:=hX;have HK:=hid hk;have hPe:P=.error k:=HP6.out.symm;subst hPe;clear hk;go_wp2_with fail;refine (must_ent_bad w7 (.slice none 0 0) k HK.out).mono ?_;rintro e w8 ⟨rfl,rfl⟩;go_wp2_with fail;exact door_panic _ rfl rfl HS7.out.b HS7.out.e HS7.out.nw HK.out
         | ok x =>
          obtain ⟨ents,bE,AE,cE,rfl,hOE,hkE,hrE⟩:=hX;have HOE:=hid hOE;have HKE:=hid hkE;have HRE:=hid hrE;have hlr:(rows.map setR).map (·.labs)=setsV (blkOf l c):=by
           rw [← HVl.out];unfold setsV;rw [List.map_map,List.map_map,show (rows.map ((fun x=>x.labs) ∘ setR))=rows.map (·.labs) from rfl,← HLL.out.2.2.1];rfl
          have hdl:(doneOf ((rows.map setR).map (·.labs))).length≤10000:=by
           rw [doneOf_len,List.map_map,List.map_map];exact HLL.out.2.2.2
          have hrl2:rows.length≤100000:=by omega
          have hrI:∀ s∈rows.map setR,InSet w7 s:=fun s hs=>by
           obtain ⟨q,hq,rfl⟩:=List.mem_map.1 hs;have a1:=(HRDx.out q hq).1.1.rd.nw HN7.out;have a2:=sum_mem (List.mem_map.2 ⟨q,hq,rfl⟩:q.labs.length∈rows.map fun r=>r.labs.length);have a3:=HLL.out.2.2.2;refine ⟨a1,by show q.labs.length≤100000;omega,fun z hz=>?_⟩;have m:z∈rows.flatMap (·.labs):=List.mem_flatMap.2 ⟨q,hq,hz⟩;have a:=HT2.out _ (HK4.out _ (strs_mem.2 ⟨z,m,.inl rfl⟩));have b:=HT2.out _ (HK4.out _ (strs_mem.2 ⟨z,m,.inr rfl⟩));exact ⟨by simp only [maxLen];omega,by simp only [maxLen];omega⟩
          have HBu:=hid (PBuild_any w7 u2 E2 rows.length d2 (rows.map setR) (by rw [List.length_map]) hrl2 (HStx.out.1.rd.nw HN7.out) hrI (by omega));have HDl:=hid hdl;have HLr:=hid hlr;have HPb:=hid (pos_bnd HNd.out HI3.out.byt HX3.out);have HPx:Hid (x.length≤10000):=hid (HQ4.out x (by rw [show l.length=rows.length from by rw [← HVal.out,List.length_map]];exact HX3.out));clear hOE hkE hrE hlr hdl hrI;go_wp2_with fail;refine (must_ent w7 (.slice AE x.length cE)).mono ?_;rintro e w8 ⟨rfl,rfl⟩;go_wp2_with fail;refine HBu.out.mono ?_;rintro e w8 ⟨b9,A9,c9,E9,rfl,hIx,hR9,hrE9,hN8⟩;have hkE9:E9.map keyG=posV (blkOf l c):=by
           rw [HLr.out] at hIx;exact hIx.one (idxOf_isIdx _)
          have hE9l:E9.length≤10000:=by
           have h1:=(idxOf_isIdx (doneOf ((rows.map setR).map (·.labs)))).len;have h2:=HDl.out;rw [show idxOf (doneOf ((rows.map setR).map (·.labs)))=E9.map keyG from by rw [hkE9,HLr.out];rfl,List.length_map] at h1;omega
          have hxl:x.length=ents.length:=by rw [← HKE.out,List.length_map]
          have hl3:=HI3.out.len;have HSm:=hid (sameIndex_any w8 bE b9 AE A9 x.length cE E9.length c9 ents E9 hxl rfl (by have:=HPx.out;omega) (by omega) (HOE.out.1.rd.nw hN8) hR9 (fun q hq=>⟨((HRE.out q hq).1.rd.nw hN8),by
            have:=HPb.out.2 (keyG q) (by rw [← HKE.out];exact List.mem_map.2 ⟨q,hq,rfl⟩);have h2:(keyG q).2.length=q.ns.length:=rfl;omega⟩) (fun q hq=>⟨hrE9 q hq,by
            have h1:=hIx.nums (keyG q) (List.mem_map.2 ⟨q,hq,rfl⟩);have h2:=numsOf_len (doneOf ((rows.map setR).map (·.labs))) (keyG q).1;rw [← h1] at h2;have h3:(keyG q).2.length=q.ns.length:=rfl;have:=HDl.out;omega⟩))
          have HQ:Hid ((ents.map keyG=E9.map keyG)↔x=posV (blkOf l c)):=hid (by rw [HKE.out,hkE9]);have HS8:=hid (HS7.out.on hN8);have HN8:=hid (HN7.out.trans hN8);clear hE9l hxl hkE9 hIx hR9 hrE9 hN8 HBu HN7 HS7;go_wp2_with fail;refine HSm.out.mono ?_;rintro e w9 ⟨he,hN9⟩;have HN9:=hid (HN8.out.trans hN9);have HS9:=hid (HS8.out.on hN9);clear hN9 HSm HS8 HN8;by_cases hxp:x=posV (blkOf l c)
          ·obtain rfl:=he.tt (HQ.out.2 hxp);have hPe:P=.ok (blkOf l c):=by rw [← HP6.out,xb_ok,if_pos hxp]
           subst hPe;have p1:w9.cell? ⟨w.heap.size+1,0,none⟩=some (.slice Ao rows.length co):=cell_at (k:=0) HS9.out.b;have p2:w9.cell? ⟨w.heap.size+1+1,0,none⟩=some (.int .i64 0):=cell_at (k:=0) HS9.out.e;have f1:w9.frozen? ⟨w.heap.size+1,0,none⟩=false:=at_free HS9.out.b;have f2:w9.frozen? ⟨w.heap.size+1+1,0,none⟩=false:=at_free HS9.out.e;obtain ⟨hF,hFk⟩:=HS9.out.fin;have HF:=hid hF;have HFk:=hid hFk;clear hxp hF hFk;go_wp2_with fail;have hOf:=(HOx.out.nw HN9.out).keep HFk.out (by decide);have hRf:=(HRDx.out.nw HN9.out).keep HFk.out (by decide) (by decide);have hSf:∀ q∈srows,OwS wr _ q:=fun q hq=>OwN.keep (OwN.nw (HSOx.out q hq) HN9.out) HFk.out (by decide)
           refine door_ok _ rfl rfl HF.out.b HF.out.e ⟨HF.out.nw,S,bo,Ao,co,by rw [HSl.out],?_,HVl.out,by have:=HLL.out.1;omega,by rw [HSl.out];exact hrl2,fun s hs=>by have:=HLL.out.2.1 s hs;omega,?_⟩
           ·rw [HSl.out];rw [← HS.out] at hOf ⊢;exact ser_in hOf HCl.out.2 hRf hSf (by rw [HSv.out];exact HCs.out.2) HK4.out HT2.out
           ·rw [← HS.out];exact ser_new hOf HSz.out.2 HSz.out.1 hRf hSf
          ·obtain rfl:=he.ff (fun h=>hxp (HQ.out.1 h));have hPe:P=.error 22:=by rw [← HP6.out,xb_ok,if_neg hxp]
           subst hPe;clear hxp;go_wp2_with fail;refine (need_bad w9 22 (by omega)).mono ?_;rintro e w10 ⟨rfl,rfl⟩;go_wp2_with fail;exact door_panic _ rfl rfl HS9.out.b HS9.out.e HS9.out.nw (by omega)
end
section
open Go Go.RowKit Go.Lib Go.Sort Go.Shelf
theorem secs_c:SecsC:=fun w b0 b1 b2 b3 c0 c1 c2 c3 A0 A1 A2 A3 l0 l1 l2 l3 h0 h1 h2 h3 hM hQ hG =>
 PSections_any w b0 b1 b2 b3 c0 c1 c2 c3 A0 A1 A2 A3 l0 l1 l2 l3 h0 h1 h2 h3 hM hQ hG
end
end Go.Proofs.YtmmonehfnfbpbaaGreatDoor
