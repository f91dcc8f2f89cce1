/- Laws that the last text builds on. -/
import Derived.Test.YticphebaflnedaaGreatDoorD8
namespace Go.Proofs.YticphebaflnedaaGreatDoor
open Go.Lib(hid)
section
open Go Go.RowKit Go.Lib Go.Sort Go.Shelf
attribute [local go_sem] Oper.semAt_some
def normQ (QQ:Act→World→Prop):Exit→Act→World→Prop
 | .normal,a,w=>QQ a w
 | _,_,_=>False
theorem wp_norm {P:Program} {c:Code} {Q:Exit→Act→World→Prop} {a:Act} {w:World} (h:∀ QQ:Act→World→Prop,Hid (∀ a w,QQ a w=Q .normal a w)→c.wp P (normQ QQ) a w):c.wp P Q a w:=by
 refine Code.wp_mono ?_ (h (Q .normal) (hid fun _ _=>rfl));intro e a w hq;cases e with
 | normal=>exact hq
 | _=>exact hq.elim
def SecV (W:World) (b:List BVal) (v:Value):Prop :=
 ∃ (b0:Nat) (A0:Option Addr) (c0:Nat) (b1:Nat) (A1:Option Addr) (c1:Nat) (b2:Nat) (A2:Option Addr) (c2:Nat) (b3:Nat) (A3:Option Addr) (c3:Nat),
  v=.agg #[.slice A0 (sec0 b).length c0,.slice A1 (sec1 b).length c1,.slice A2 (datS b).length c2,.slice A3 (sec3 b).length c3] ∧
  Rd W b0 A0 (cN .u8 (sec0 b))∧Rd W b1 A1 (cN .u8 (sec1 b))∧Rd W b2 A2 (cN .u8 (datS b))∧Rd W b3 A3 (cN .u8 (sec3 b))
abbrev nil4:Value:=.agg #[.slice none 0 0,.slice none 0 0,.slice none 0 0,.slice none 0 0]
theorem results_ct {P:Program} {fn:Func} {p q:Tmp} {t1:TypeId} {u:Value} (h:fn.results=#[.cell p t1,.tmp q]) (tmps:Array Value) (w:World) (a:Addr) (hp:tmps.getD p undef=.pointer (some a))
  (h1:(loadVar t1 a).run P w=.ok u w):(results fn tmps).run P w=.ok (.tuple #[u,tmps.getD q undef]) w:=by
 simp only [Array.getD_eq_getD_getElem?] at hp;simp only [results,h];simp [Result.andThen,asAddr,hp,h1]
theorem run_load4 {W:World} {g:Nat} {a b c d:Value} {t:TypeId} (h:W.heap[g]? = some (.cells #[a,b,c,d] t (0,0))):(loadVar 27 ⟨g,0,none⟩).run Tryz.prog W=.ok (.agg #[a,b,c,d]) W:=by
 have c0:W.cell? ⟨g,0,none⟩=some a:=cell_at (k:=0) h;have c1:W.cell? ⟨g,1,none⟩=some b:=cell_at (k:=1) h;have c2:W.cell? ⟨g,2,none⟩=some c:=cell_at (k:=2) h;have c3:W.cell? ⟨g,3,none⟩=some d:=cell_at (k:=3) h;simp [loadVar,loadCells,loadCellsFrom,go_sem,c0,c1,c2,c3]
theorem set4_at {W:World} {g:Nat} {a b c d:Value} {t:TypeId} (h:W.heap[g]? = some (.cells #[a,b,c,d] t (0,0))) (a' b' c' d':Value) :
  ((((W.setCell ⟨g,0,none⟩ a').setCell ⟨g,1,none⟩ b').setCell ⟨g,2,none⟩ c').setCell ⟨g,3,none⟩ d').heap[g]? = some (.cells #[a',b',c',d'] t (0,0)):=by
 have:=set_at (k:=3) d' (set_at (k:=2) c' (set_at (k:=1) b' (set_at (k:=0) a' h)));simpa using this
theorem set4_kp (W:World) (g:Nat) (a' b' c' d':Value):Kp g g W ((((W.setCell ⟨g,0,none⟩ a').setCell ⟨g,1,none⟩ b').setCell ⟨g,2,none⟩ c').setCell ⟨g,3,none⟩ d') :=
 ((((Kp.refl g g W).setCell' (p:=⟨g,0,none⟩) (.inl rfl) _).setCell' (p:=⟨g,1,none⟩) (.inl rfl) _).setCell' (p:=⟨g,2,none⟩) (.inl rfl) _).setCell' (p:=⟨g,3,none⟩) (.inl rfl) _
theorem labs_le {l:List Ser} {s:Ser} (hs:s∈l):s.labs.length≤(labsOf l).length:=by
 have:=(le_sumV (List.mem_map.2 ⟨s,hs,rfl⟩:valB s∈l.map valB)).2
 rwa [labsV_val] at this
set_option maxRecDepth 100000 in
set_option maxHeartbeats 1000000 in
theorem SectionsE_err (w:World) (b:Nat) (A:Option Addr) (n c:Nat) (l:List Ser) (hI:InSer w b A n c l) (hf:Fits l) (h0:blkE l≠0) :
  Calls Tryz.prog 18 #[.slice A n c] w fun e w'=>e=.returned (.tuple #[nil4,.int .i64 (blkE l:Nat)])∧Nw w w':=by
 have hfl:=hf.1;have hfs:=hf.2.1;have hln:=hI.len;subst hln;have hL:=hf.2.2.1;have HC:Hid (∀ W,Nw w W→Calls Tryz.prog 52 #[.slice A l.length c] W fun e w'=>e=.returned (.int .i64 (blkE l:Nat))∧Nw W w'):=hid fun W hW =>
  Check_any W b A l.length c l (hI.nw hW) (by omega) (by omega) (fun s hs=>by
   have:=labs_le hs;omega)
 obtain ⟨E,hE⟩:∃ E,blkE l=E:=⟨_,rfl⟩;rw [hE] at h0 HC ⊢;have hE1:((E:Int) != 0)=true:=by rw [bne_iff_ne];omega
 clear hI hf hE;have hbx:=heap_alloc_new w (.cells #[.slice none 0 0,.slice none 0 0,.slice none 0 0,.slice none 0 0] 27);have hN1:Nw w (w.alloc (.cells #[.slice none 0 0,.slice none 0 0,.slice none 0 0,.slice none 0 0] 27)):=(Nw.refl w).alloc' _;have HBX:=hid hbx;have HN1:=hid hN1;clear hbx hN1;refine (callsIn_wide (n:=6)).1 ?_;refine callsIn_of_wp_marks Tryz.func18 rfl trivial ?_ rfl;simp only [Tryz.ntmps18,List.size_toArray,List.length_cons,List.length_nil,Nat.reduceAdd,Nat.reduceSub,Array.replicate_succ,Array.replicate_zero,List.push_toArray,List.append_toArray,List.nil_append,List.cons_append]
 gi_wp2_with fail
 refine ⟨trivial,?_⟩;refine (callsIn_wide.2 (HC.out _ HN1.out)).mono ?_;rintro e w2 ⟨rfl,hN2⟩;have e2:=(hN2.block _ (lt_of_block HBX.out)).trans HBX.out;have f0:w2.frozen? ⟨w.heap.size,0,none⟩=false:=at_free e2;have f1:w2.frozen? ⟨w.heap.size,1,none⟩=false:=at_free e2;have f2:w2.frozen? ⟨w.heap.size,2,none⟩=false:=at_free e2;have f3:w2.frozen? ⟨w.heap.size,3,none⟩=false:=at_free e2;have c0:=cell_at (k:=0) e2;have c1:=cell_at (k:=1) e2;have c2:=cell_at (k:=2) e2;have c3:=cell_at (k:=3) e2;have E2:=hid e2;have HN2:=hid (HN1.out.trans hN2);clear e2 hN2
 gi_wp2_with fail
 exact ⟨_,results_ct (u:=nil4) rfl _ _ ⟨w.heap.size,0,none⟩ rfl (run_load4 (set4_at E2.out _ _ _ _)),rfl,Kp.nw HN2.out (set4_kp _ _ _ _ _ _) (Nat.le_refl _) (Nat.le_refl _)⟩
theorem E_rec:ElemT Tryz.prog 85 88 (.agg #[.slice none 0 0,.slice none 0 0]) 2 48:=ElemT.mk' Tryz.underlying85 (by kernel_rfl) rfl (by omega)
theorem E_set:ElemT Tryz.prog 86 78 (.slice none 0 0) 1 24:=ElemT.mk' Tryz.underlying86 (by kernel_rfl) rfl (by omega)
theorem make_rec (W:World) (n:Nat) (h:n≤1000):(Instr.makeSlice 85 (.int .i64 (n:Int)) (.int .i64 (n:Int))).run Tryz.prog W=.ok (.slice (some ⟨W.heap.size,0,none⟩) n n) (W.alloc (.cells (madeCells #[.slice none 0 0,.slice none 0 0] (n*2)) 88)):=by
 obtain ⟨i0,hi,hz0,hz1,hz2⟩:=E_rec.info;have:=run_make (P:=Tryz.prog) (w:=W) 85 88 i0 (.agg #[.slice none 0 0,.slice none 0 0]) Tryz.underlying85 hi hz0 .i64 .i64 n n (by omega) (by omega) (by rw [hz2];omega) (by omega);rw [hz1,show Value.cells (.agg #[.slice none 0 0,.slice none 0 0])=#[.slice none 0 0,.slice none 0 0] from rfl] at this;simp only [Int.toNat_natCast] at this;exact this
theorem make_set (W:World) (n:Nat) (h:n≤1000):(Instr.makeSlice 86 (.int .i64 (n:Int)) (.int .i64 (n:Int))).run Tryz.prog W=.ok (.slice (some ⟨W.heap.size,0,none⟩) n n) (W.alloc (.cells (madeCells #[.slice none 0 0] n) 78)):=by
 obtain ⟨i0,hi,hz0,hz1,hz2⟩:=E_set.info;have:=run_make (P:=Tryz.prog) (w:=W) 86 78 i0 (.slice none 0 0) Tryz.underlying86 hi hz0 .i64 .i64 n n (by omega) (by omega) (by rw [hz2];omega) (by omega);rw [hz1] at this;simpa [Value.cells] using this
structure FillI (w W:World) (s:Nat) (l:List Ser) (k:Nat):Prop where
 nw:Nw w W
 lo:w.heap.size < s
 res:W.heap[w.heap.size]? = some (.cells #[.slice none 0 0,.slice none 0 0,.slice none 0 0,.slice none 0 0] 27 (0,0))
 dat:W.heap[s]? = some (.cells #[.slice none 0 0] 25 (0,0))
 box:W.heap[s+2]? = some (.cells #[.slice (some ⟨s+1,0,none⟩) l.length l.length] 85 (0,0))
 row:∃ cs:Array Value,W.heap[s+1]? = some (.cells cs 88 (0,0))∧cs.size=l.length*2∧∀ j (h:j < l.length),cs[j*2]? = some (if j < k then .slice l[j].al l[j].labs.length l[j].cl else .slice none 0 0)∧cs[j*2+1]? = some (.slice none 0 0)
 set:∃ ds:Array Value,W.heap[s+3]? = some (.cells ds 78 (0,0))∧ds.size=l.length∧∀ j (h:j < l.length),ds[j]? = some (if j < k then .slice l[j].al l[j].labs.length l[j].cl else .slice none 0 0)
theorem made_at (zs:Array Value) (n j:Nat) (h:j < n):(madeCells zs n)[j]? = some zs[j % zs.size]!:=by
 have:(Array.range n)[j]? = some j:=by simp [h]
 unfold madeCells;rw [Array.getElem?_map,this];rfl
theorem FillI.start {w w2:World} {l:List Ser} (hN:Nw w w2) (hr:w2.heap[w.heap.size]? = some (.cells #[.slice none 0 0,.slice none 0 0,.slice none 0 0,.slice none 0 0] 27 (0,0))) :
  FillI w ((((w2.alloc (.cells #[.slice none 0 0] 25)).alloc (.cells (madeCells #[.slice none 0 0,.slice none 0 0] (l.length*2)) 88)).alloc (.cells #[.slice (some ⟨w2.heap.size+1,0,none⟩) l.length l.length] 85)).alloc (.cells (madeCells #[.slice none 0 0] l.length) 78)) w2.heap.size l 0:=by
 have k4:∀ (a b c d:Obj),((((w2.alloc a).alloc b).alloc c).alloc d).heap[w2.heap.size]? = some a∧((((w2.alloc a).alloc b).alloc c).alloc d).heap[w2.heap.size+1]? = some b∧((((w2.alloc a).alloc b).alloc c).alloc d).heap[w2.heap.size+2]? = some c∧((((w2.alloc a).alloc b).alloc c).alloc d).heap[w2.heap.size+3]? = some d:=by
  intro a b c d;have s1:(w2.alloc a).heap.size=w2.heap.size+1:=by simp
  have s2:((w2.alloc a).alloc b).heap.size=w2.heap.size+2:=by simp
  have s3:(((w2.alloc a).alloc b).alloc c).heap.size=w2.heap.size+3:=by simp
  refine ⟨?_,?_,?_,?_⟩
  ·exact (heap_alloc_old _ _ (by omega)).trans ((heap_alloc_old _ _ (by omega)).trans ((heap_alloc_old _ _ (by omega)).trans (heap_alloc_new w2 a)))
  ·have:=heap_alloc_new (w2.alloc a) b;rw [s1] at this;exact (heap_alloc_old _ _ (by omega)).trans ((heap_alloc_old _ _ (by omega)).trans this)
  ·have:=heap_alloc_new ((w2.alloc a).alloc b) c;rw [s2] at this;exact (heap_alloc_old _ _ (by omega)).trans this
  ·have:=heap_alloc_new (((w2.alloc a).alloc b).alloc c) d;rw [s3] at this;exact this
 have hl:=lt_of_block hr;obtain ⟨h1,h2,h3,h4⟩:=k4 (.cells #[.slice none 0 0] 25) (.cells (madeCells #[.slice none 0 0,.slice none 0 0] (l.length*2)) 88) (.cells #[.slice (some ⟨w2.heap.size+1,0,none⟩) l.length l.length] 85) (.cells (madeCells #[.slice none 0 0] l.length) 78);refine ⟨(((hN.alloc' _).alloc' _).alloc' _).alloc' _,hl,?_,h1,h3,⟨_,h2,by simp [madeCells],fun j hj=>⟨?_,?_⟩⟩,⟨_,h4,by simp [madeCells],fun j hj=>?_⟩⟩
 ·exact ((((Nw.refl w2).alloc' _).alloc' _).alloc' _).alloc' _ |>.block _ hl |>.trans hr
 ·rw [made_at _ _ _ (by omega)];simp [show j*2 % 2=0 by omega]
 ·rw [made_at _ _ _ (by omega)];simp [show (j*2+1) % 2=1 by omega]
 ·rw [made_at _ _ _ hj];simp [Nat.mod_one]
theorem FillI.keep {w W W':World} {s:Nat} {l:List Ser} {k:Nat} (h:FillI w W s l k) (hN:Nw W W'):FillI w W' s l k:=by
 have kb:∀ {g:Nat} {o:Obj},W.heap[g]? = some o→W'.heap[g]? = some o:=fun h=>(hN.block _ (lt_of_block h)).trans h
 obtain ⟨cs,h1,h2⟩:=h.row;obtain ⟨ds,h3,h4⟩:=h.set;exact ⟨h.nw.trans hN,h.lo,kb h.res,kb h.dat,kb h.box,⟨cs,kb h1,h2⟩,⟨ds,kb h3,h4⟩⟩
theorem FillI.step {w W:World} {s:Nat} {l:List Ser} {k:Nat} (h:FillI w W s l k) (hk:k < l.length) :
  FillI w ((W.setCell ⟨s+1,k*2,none⟩ (.slice l[k].al l[k].labs.length l[k].cl)).setCell ⟨s+3,k,none⟩ (.slice l[k].al l[k].labs.length l[k].cl)) s l (k+1):=by
 obtain ⟨cs,h1,h2,h2'⟩:=h.row;obtain ⟨ds,h3,h4,h4'⟩:=h.set;have hlo:=h.lo;have ka:Kp (s+1) (s+1) W (W.setCell ⟨s+1,k*2,none⟩ (.slice l[k].al l[k].labs.length l[k].cl)):=(Kp.refl _ _ _).setCell' (p:=⟨s+1,k*2,none⟩) (.inl rfl) _;have kb:Kp (s+3) (s+3) (W.setCell ⟨s+1,k*2,none⟩ (.slice l[k].al l[k].labs.length l[k].cl)) ((W.setCell ⟨s+1,k*2,none⟩ (.slice l[k].al l[k].labs.length l[k].cl)).setCell ⟨s+3,k,none⟩ (.slice l[k].al l[k].labs.length l[k].cl)):=(Kp.refl _ _ _).setCell' (p:=⟨s+3,k,none⟩) (.inl rfl) _;have old:∀ {g:Nat} {o:Obj},W.heap[g]? = some o→g≠s+1→g≠s+3→((W.setCell ⟨s+1,k*2,none⟩ (.slice l[k].al l[k].labs.length l[k].cl)).setCell ⟨s+3,k,none⟩ (.slice l[k].al l[k].labs.length l[k].cl)).heap[g]? = some o:=fun hg e1 e2 =>
  (kb.block _ (Nat.lt_of_lt_of_le (lt_of_block hg) ka.size) e2 e2).trans ((ka.block _ (lt_of_block hg) e1 e1).trans hg)
 refine ⟨Kp.nw (Kp.nw h.nw ka (by omega) (by omega)) kb (by omega) (by omega),hlo,old h.res (by omega) (by omega),old h.dat (by omega) (by omega),old h.box (by omega) (by omega),⟨cs.setIfInBounds (k*2) (.slice l[k].al l[k].labs.length l[k].cl),?_,by rw [Array.size_setIfInBounds];exact h2,fun j hj=>⟨?_,?_⟩⟩,⟨ds.setIfInBounds k (.slice l[k].al l[k].labs.length l[k].cl),?_,by rw [Array.size_setIfInBounds];exact h4,fun j hj=>?_⟩⟩
 ·have q:=set_at (k:=k*2) (.slice l[k].al l[k].labs.length l[k].cl) h1;exact (kb.block _ (lt_of_block q) (by omega) (by omega)).trans q
 ·by_cases e:j=k
  ·subst e;rw [Array.getElem?_setIfInBounds_self_of_lt (by omega),if_pos (by omega)]
  ·rw [Array.getElem?_setIfInBounds_ne (by omega),(h2' j hj).1];by_cases e2:j < k
   ·rw [if_pos e2,if_pos (by omega)]
   ·rw [if_neg e2,if_neg (by omega)]
 ·rw [Array.getElem?_setIfInBounds_ne (by omega)];exact (h2' j hj).2
 ·have q:=(ka.block _ (lt_of_block h3) (by omega) (by omega)).trans h3;exact set_at (k:=k) _ q
 ·by_cases e:j=k
  ·subst e;rw [Array.getElem?_setIfInBounds_self_of_lt (by omega),if_pos (by omega)]
  ·rw [Array.getElem?_setIfInBounds_ne (by omega),h4' j hj];by_cases e2:j < k
   ·rw [if_pos e2,if_pos (by omega)]
   ·rw [if_neg e2,if_neg (by omega)]
def SetI (W:World) (b:Nat) (l:List Ser):Prop:=∃ ds:Array Value,W.heap[b]? = some (.cells ds 78 (0,0))∧ds.size=l.length∧∀ j (h:j < l.length),ds[j]? = some (.slice l[j].al l[j].labs.length l[j].cl)
theorem FillI.sets {w W:World} {s:Nat} {l:List Ser} (h:FillI w W s l l.length):SetI W (s+3) l:=by
 obtain ⟨ds,h3,h4,h4'⟩:=h.set;refine ⟨ds,h3,h4,fun j hj=>?_⟩;rw [h4' j hj,if_pos hj]
theorem FillI.sec {w W:World} {s:Nat} {l:List Ser} (h:FillI w W s l l.length):SecI w W s (s+2) (s+1) l [] (fun _=>[]):=by
 have hlo:=h.lo;obtain ⟨cs,h1,h2,h2'⟩:=h.row;refine ⟨h.nw,by omega,by omega,by omega,h.box,⟨0,none,0,h.dat,Ow.nil _ _ _ _,.inl rfl⟩,⟨fun _=>(0,none,0),cs,h1,⟨h2,fun j hj=>?_⟩,⟨fun j hj=>⟨Ow.nil _ _ _ _,.inl rfl⟩,fun _ _ _ _ _=>.inl rfl⟩⟩⟩;have:=h2' j hj;rw [if_pos hj] at this;exact this
structure SecJ (w W:World) (s G:Nat) (l:List Ser) (ks:List (Nat × List Smpl)):Prop where
 sec:SecI w W s (s+2) (s+1) l (datK ks) (lsK ks)
 set:SetI W (s+3) l
 res:W.heap[w.heap.size]? = some (.cells #[.slice none 0 0,.slice none 0 0,.slice none 0 0,.slice none 0 0] 27 (0,0))
 add:W.heap[G]? = some (.cells #[.func (.func 53) #[] #[.pointer (some ⟨s,0,none⟩),.pointer (some ⟨s+2,0,none⟩)]] 89 (0,0))
 mem:∀ p∈ks,p∈chKeys (l.map valB)
theorem SetI.keep {W W':World} {b:Nat} {l:List Ser} (h:SetI W b l) {T:List TypeId} (hk:KtyC T W W') (hT:78 ∉ T):SetI W' b l:=by
 obtain ⟨ds,h1,h2⟩:=h;exact ⟨ds,hk _ _ _ _ h1 hT,h2⟩
theorem SecJ.keep {w W W':World} {s G:Nat} {l:List Ser} {ks:List (Nat × List Smpl)} (h:SecJ w W s G l ks) (hk:KeepC W W') (hN:Nw w W'):SecJ w W' s G l ks :=
 ⟨h.sec.keep hk hN,h.set.keep (T:=[]) (fun k cs e fr hh _=>hk.1 k cs e fr hh) (by simp),hk.1 _ _ _ _ h.res,hk.1 _ _ _ _ h.add,h.mem⟩
theorem SecJ.bides {w:World} {s G N0:Nat} {l:List Ser} {ks:List (Nat × List Smpl)} (h0:w.heap.size≤N0):BidesV N0 fun W=>SecJ w W s G l ks:=by
 rintro A B k h hk (hN | ⟨h1,o,h2,h3⟩)
 ·exact h.keep (KeepC.nw hN) (h.sec.nw.trans hN)
 ·exact h.keep (KeepC.turn hk h2 h3) (Kp.nw h.sec.nw hk (by omega) (by omega))
theorem ChV.bides {b:List BVal} {N0:Nat} (x:ChY):BidesV N0 (ChV b x):=by
 rintro A B k ⟨h1,h2,h3⟩ hk (hN | ⟨_,o,h4,h5⟩)
 ·exact ⟨h1,h2.nw hN,h3⟩
 ·exact ⟨h1,h2.turn hk h4 h5,h3⟩
theorem KeepE.trans' {T:List TypeId} {w0 A B C:World} (h:KeepE T w0 A B) (h':KeepE T w0 B C):KeepE T w0 A C:=⟨fun q=>h'.1 (h.1 q),h.2.1.trans h'.2.1,Nat.le_trans h.2.2 h'.2.2⟩
theorem KeepE.turn {T:List TypeId} {w0 A B:World} {k N0:Nat} {o:Obj} (h0:w0.heap.size≤N0) (h1:N0≤k) (h2:A.heap[k]? = some o) (h3:o.isCells=false) (hk:Kp k k A B):KeepE T w0 A B :=
 ⟨fun q=>Kp.nw q hk (by omega) (by omega),KtyC.turn hk h2 h3,hk.size⟩
abbrev nilS:Value:=.slice none 0 0
structure St3 (W0 W:World) (p:Nat) (v0 v1 v2 v3:Value):Prop where
 nw:Nw W0 W
 lo:W0.heap.size≤p
 s:W.heap[p]? = some (.cells #[v0,v1,v2,v3] 27 (0,0))
 e:W.heap[p+1]? = some (.cells #[.int .i64 0,.int .i64 0,.int .i64 0] 93 (0,0))
section
variable {W0 W W':World} {p:Nat} {v0 v1 v2 v3 u:Value}
theorem St3.call (h:St3 W0 W p v0 v1 v2 v3) (hN:Nw W W'):St3 W0 W' p v0 v1 v2 v3 :=
 ⟨h.nw.trans hN,h.lo,(hN.block _ (lt_of_block h.s)).trans h.s,(hN.block _ (lt_of_block h.e)).trans h.e⟩
theorem St3.start (hN:Nw W0 W):St3 W0 ((W.alloc (.cells #[nilS,nilS,nilS,nilS] 27)).alloc (.cells #[.int .i64 0,.int .i64 0,.int .i64 0] 93)) W.heap.size nilS nilS nilS nilS:=by
 have h1:=heap_alloc_new W (.cells #[nilS,nilS,nilS,nilS] 27);have h2:=heap_alloc_new (W.alloc (.cells #[nilS,nilS,nilS,nilS] 27)) (.cells #[.int .i64 0,.int .i64 0,.int .i64 0] 93);rw [World.size_alloc] at h2;exact ⟨(hN.alloc' _).alloc' _,hN.size,(heap_alloc_old _ _ (by simp)).trans h1,h2⟩
theorem St3.put (h:St3 W0 W p v0 v1 v2 v3) (k:Nat) (x:Value) {a0 a1 a2 a3:Value} (hv:(#[v0,v1,v2,v3]:Array Value).setIfInBounds k x=#[a0,a1,a2,a3]):St3 W0 (W.setCell ⟨p,k,none⟩ x) p a0 a1 a2 a3:=by
 have hk:Kp p p W (W.setCell ⟨p,k,none⟩ x):=(Kp.refl p p W).setCell' (p:=⟨p,k,none⟩) (.inl rfl) _;have:=set_at (k:=k) x h.s;rw [hv] at this;exact ⟨h.nw.setCell' h.lo _,h.lo,this,(hk.block _ (lt_of_block h.e) (by omega) (by omega)).trans h.e⟩
theorem St3.pute (h:St3 W0 W p v0 v1 v2 v3) (j:Nat) (hj:j < 3):St3 W0 (W.setCell ⟨p+1,j,none⟩ (.int .i64 0)) p v0 v1 v2 v3:=by
 have hk:Kp (p+1) (p+1) W (W.setCell ⟨p+1,j,none⟩ (.int .i64 0)):=(Kp.refl _ _ W).setCell' (p:=⟨p+1,j,none⟩) (.inl rfl) _;have:=set_at (k:=j) (.int .i64 0) h.e;have hv:(#[.int .i64 0,.int .i64 0,.int .i64 0]:Array Value).setIfInBounds j (.int .i64 0)=#[.int .i64 0,.int .i64 0,.int .i64 0]:=by
  have:j=0∨j=1∨j=2:=by omega
  rcases this with rfl | rfl | rfl<;>rfl
 rw [hv] at this;have hlo:=h.lo;exact ⟨h.nw.setCell' (show W0.heap.size≤p+1 by omega) _,h.lo,(hk.block _ (lt_of_block h.s) (by omega) (by omega)).trans h.s,this⟩
theorem St3.ow (h:St3 W0 W p v0 v1 v2 v3) {b n c k:Nat} {A:Option Addr} {xs:List Value} {x:Value} (hO:Ow W b 5 1 A n c xs):Ow (W.setCell ⟨p,k,none⟩ x) b 5 1 A n c xs:=by
 have hk:Kp p p W (W.setCell ⟨p,k,none⟩ x):=(Kp.refl p p W).setCell' (p:=⟨p,k,none⟩) (.inl rfl) _;exact hO.kty (hk.kty h.s) (by decide) hk.size
theorem St3.owe (h:St3 W0 W p v0 v1 v2 v3) {b n c k:Nat} {A:Option Addr} {xs:List Value} {x:Value} (hO:Ow W b 5 1 A n c xs):Ow (W.setCell ⟨p+1,k,none⟩ x) b 5 1 A n c xs:=by
 have hk:Kp (p+1) (p+1) W (W.setCell ⟨p+1,k,none⟩ x):=(Kp.refl _ _ W).setCell' (p:=⟨p+1,k,none⟩) (.inl rfl) _;exact hO.kty (hk.kty h.e) (by decide) hk.size
theorem St3.rd {b k:Nat} {A:Option Addr} {xs:List Value} {x:Value} (h:Rd W b A xs) (hb:b < p):Rd (W.setCell ⟨p,k,none⟩ x) b A xs∧Rd (W.setCell ⟨p+1,k,none⟩ x) b A xs :=
 ⟨h.kp ((Kp.refl p p W).setCell' (p:=⟨p,k,none⟩) (.inl rfl) _) (by omega) (by omega),h.kp ((Kp.refl (p+1) (p+1) W).setCell' (p:=⟨p+1,k,none⟩) (.inl rfl) _) (by omega) (by omega)⟩
theorem St3.cs (h:St3 W0 W p v0 v1 v2 v3):(W.cell? ⟨p,0,none⟩=some v0∧W.cell? ⟨p,1,none⟩=some v1∧W.cell? ⟨p,2,none⟩=some v2∧W.cell? ⟨p,3,none⟩=some v3)∧∀ k,W.frozen? ⟨p,k,none⟩=false :=
 ⟨⟨cell_at (k:=0) h.s,cell_at (k:=1) h.s,cell_at (k:=2) h.s,cell_at (k:=3) h.s⟩,fun _=>at_free h.s⟩
theorem St3.ce (h:St3 W0 W p v0 v1 v2 v3):(W.cell? ⟨p+1,0,none⟩=some (.int .i64 0)∧W.cell? ⟨p+1,1,none⟩=some (.int .i64 0)∧W.cell? ⟨p+1,2,none⟩=some (.int .i64 0))∧∀ k,W.frozen? ⟨p+1,k,none⟩=false :=
 ⟨⟨cell_at (k:=0) h.e,cell_at (k:=1) h.e,cell_at (k:=2) h.e⟩,fun _=>at_free h.e⟩
end
abbrev setOf (s:Ser):SetS:=⟨s.labs,s.bl,s.al,s.cl⟩
theorem SetI.rd {W:World} {b:Nat} {l:List Ser} (h:SetI W b l):Rd W b (some ⟨b,0,none⟩) (cSet (l.map setOf)):=by
 obtain ⟨ds,h1,h2,h3⟩:=h;refine .inr ⟨0,rfl,lt_of_block h1,fun j u hu=>?_⟩;unfold cSet at hu;rw [List.map_map,List.getElem?_map] at hu;obtain ⟨s,hs,rfl⟩:=Option.map_eq_some_iff.1 hu;obtain ⟨hj,rfl⟩:=List.getElem?_eq_some_iff.1 hs;simp only [Nat.zero_add,World.cell?,h1];exact h3 j hj
theorem Rd.low {W:World} {b g:Nat} {A:Option Addr} {xs:List Value} (h:Rd W b A xs) (hg:g < W.heap.size):∃ b',b' < W.heap.size∧Rd W b' A xs:=by
 rcases h with h | ⟨o,h1,h2,h3⟩
 ·exact ⟨g,hg,.inl h⟩
 ·exact ⟨b,h2,.inr ⟨o,h1,h2,h3⟩⟩
set_option maxRecDepth 100000 in
set_option maxHeartbeats 2000000 in
theorem SectionsE_ok (w:World) (b:Nat) (A:Option Addr) (n c:Nat) (l:List Ser) (hI:InSer w b A n c l) (hf:Fits l) (h0:blkE l=0) (hG:Gl w) :
  Calls Tryz.prog 18 #[.slice A n c] w fun e w'=>∃ v,e=.returned (.tuple #[v,.int .i64 0])∧SecV w' (l.map valB) v∧Nw w w':=by
 have hfl:=hf.1;have hfs:=hf.2.1;have hln:=hI.len;subst hln;have hL:=hf.2.2.1;have HI:=hid hI;have HF:=hid hf;have HG:=hid hG;have HC:Hid (∀ W,Nw w W→Calls Tryz.prog 52 #[.slice A l.length c] W fun e w'=>e=.returned (.int .i64 0)∧Nw W w'):=hid fun W hW=>by
  have:=Check_any W b A l.length c l (hI.nw hW) (by omega) (by omega) (fun s hs=>by
   have:=labs_le hs;omega)
  rw [h0] at this;exact this
 have HB:Hid (BlkV (l.map valB)):=hid (blkE_v h0 (fun s hs=>(hI.ok s hs).2.wf));have HFV:=hid (fits_few hf);have mkR:=fun W=>make_rec W l.length (by omega)
 have mkS:=fun W=>make_set W l.length (by omega)
 clear hI hf h0 hG;have hbx:=heap_alloc_new w (.cells #[.slice none 0 0,.slice none 0 0,.slice none 0 0,.slice none 0 0] 27);have hN1:Nw w (w.alloc (.cells #[.slice none 0 0,.slice none 0 0,.slice none 0 0,.slice none 0 0] 27)):=(Nw.refl w).alloc' _;have HBX:=hid hbx;have HN1:=hid hN1;clear hbx hN1;refine (callsIn_wide (n:=6)).1 ?_;refine callsIn_of_wp_marks Tryz.func18 rfl trivial ?_ rfl;simp only [Tryz.ntmps18,List.size_toArray,List.length_cons,List.length_nil,Nat.reduceAdd,Nat.reduceSub,Array.replicate_succ,Array.replicate_zero,List.push_toArray,List.append_toArray,List.nil_append,List.cons_append]
 gi_wp2_with fail
 refine ⟨trivial,?_⟩;refine (callsIn_wide.2 (HC.out _ HN1.out)).mono ?_;rintro e w2 ⟨rfl,hN2⟩;have e2:=(hN2.block _ (lt_of_block HBX.out)).trans HBX.out;have E2:=hid e2;have HN2:=hid (HN1.out.trans hN2);clear e2 hN2 HC HBX HN1
 gi_wp2_with fail
 have HF0:=hid (FillI.start (l:=l) HN2.out E2.out);obtain ⟨w3,hw3⟩:∃ w3,((((w2.alloc (.cells #[.slice none 0 0] 25)).alloc (.cells (madeCells #[.slice none 0 0,.slice none 0 0] (l.length*2)) 88)).alloc (.cells #[.slice (some ⟨w2.heap.size+1,0,none⟩) l.length l.length] 85)).alloc (.cells (madeCells #[.slice none 0 0] l.length) 78))=w3:=⟨_,rfl⟩;rw [hw3] at HF0 ⊢;rw [show w2.heap.size+1+1=w2.heap.size+2 from rfl,show w2.heap.size+2+1=w2.heap.size+3 from rfl];generalize w2.heap.size=s at *;clear hw3 mkR mkS HN2 E2
 gi_loopw [32] (fun v wr=>∃ k:Nat,k≤l.length∧v=.int .i64 (k:Int)∧Hid (FillI w wr s l k)) (fun v _=>l.length - (intOf v).toNat)
 case atStart=>exact ⟨0,by omega,rfl,HF0⟩
 case round =>
  clear HF0;obtain ⟨k,hk,rfl,HF⟩:=hrel;by_cases hlt:k < l.length
  ·have hltI:(k:Int) < (l.length:Int):=by omega
   obtain ⟨o,rfl,hbw,hc0,hc1⟩:=two_at (HI.out.rd.nw HF.out.nw) hlt;have hNa:Nw wr (wr.alloc (.cells #[.slice l[k].al l[k].labs.length l[k].cl,.slice l[k].as_ l[k].smps.length l[k].cs] 80)):=(Nw.refl wr).alloc' _;have hbx:=heap_alloc_new wr (.cells #[.slice l[k].al l[k].labs.length l[k].cl,.slice l[k].as_ l[k].smps.length l[k].cs] 80);have HF1:=hid ((HF.out.keep hNa).step hlt);have hF1:=HF.out.keep hNa;obtain ⟨cs,g1,g2,g3⟩:=hF1.row;obtain ⟨ds,g4,g5,g6⟩:=hF1.set;have g7:=(g3 k hlt).1;have g8:=g6 k hlt;rw [if_neg (Nat.lt_irrefl _)] at g7 g8;obtain ⟨wx,hwx⟩:∃ wx,wr.alloc (.cells #[.slice l[k].al l[k].labs.length l[k].cl,.slice l[k].as_ l[k].smps.length l[k].cs] 80)=wx:=⟨_,rfl⟩;rw [hwx] at g1 g4 hF1 hbx HF1;have q0:wx.cell? ⟨s+2,0,none⟩=some (.slice (some ⟨s+1,0,none⟩) l.length l.length):=cell_at (k:=0) hF1.box;have q1:wx.cell? ⟨wr.heap.size,0,none⟩=some (.slice l[k].al l[k].labs.length l[k].cl):=cell_at (k:=0) hbx;have q2:wx.cell? ⟨s+1,k*2,none⟩=some (.slice none 0 0):=by simp [World.cell?,g1,g7]
   have q3:wx.frozen? ⟨s+1,k*2,none⟩=false:=at_free g1;have q4:wx.cell? ⟨s+3,k,none⟩=some (.slice none 0 0):=by simp [World.cell?,g4,g8]
   have q5:wx.frozen? ⟨s+3,k,none⟩=false:=at_free g4;have b1:=lt_of_block g1;have b2:=lt_of_block g4;have b3:=lt_of_block hF1.box;have b4:s+3 < wr.heap.size:=by obtain ⟨_,h,_⟩:=HF.out.set;exact lt_of_block h
   clear hF1 g1 g2 g3 g4 g5 g6 g7 g8 HF hbx hNa;generalize l[k]=x at *;obtain ⟨labs,smps,bl,al,cl,bs,as_,cs⟩:=x;dsimp only at hc0 hc1 HF1 q1 hwx
   gi_wp2_with fail
   refine wpIn_wide.2 ?_;clear hwx;refine wp_norm fun QQ hQQ=>?_
   go_big_region
   all_goals
    show QQ _ _
    rw [hQQ.out];have HF2:Hid (FillI w ((wx.setCell ⟨s+1,k*2,none⟩ (.slice al labs.length cl)).setCell ⟨s+3,k,none⟩ (.slice al labs.length cl)).drew s l (k+1)):=hid (HF1.out.keep (Nw.drewO _));clear hQQ q0 q1 q2 q3 q4 q5 b1 b2 b3 b4 HF1 hc0 hc1
    gi_wp2_with fail
    go_roundw
    case rel=>exact ⟨k+1,by omega,by go_num,HF2⟩
    case measure=>simp [intOf];omega
  ·obtain rfl:k=l.length:=by omega
   have HRes:=hid HF.out.res;have HSec:=hid HF.out.sec;have HSet:=hid HF.out.sets;have HNr:=hid HF.out.nw;have hsw:w.heap.size≤wr.heap.size:=HF.out.nw.size;clear HF
   gi_wp2_with fail
   refine ⟨trivial,?_⟩;refine (callsIn_wide.2 (chunks_any _ A l.length c)).mono ?_;rintro e w5 ⟨rfl,hw5⟩;have hs4:(wr.alloc (.cells #[.func (.func 53) #[] #[.pointer (some ⟨s,0,none⟩),.pointer (some ⟨s+2,0,none⟩)]] 89)).heap.size=wr.heap.size+1:=by simp
   have hN4:Nw wr (wr.alloc (.cells #[.func (.func 53) #[] #[.pointer (some ⟨s,0,none⟩),.pointer (some ⟨s+2,0,none⟩)]] 89)):=(Nw.refl wr).alloc' _;have ha4:=heap_alloc_new wr (.cells #[.func (.func 53) #[] #[.pointer (some ⟨s,0,none⟩),.pointer (some ⟨s+2,0,none⟩)]] 89);generalize (wr.alloc (.cells #[.func (.func 53) #[] #[.pointer (some ⟨s,0,none⟩),.pointer (some ⟨s+2,0,none⟩)]] 89))=w4 at *;have hB5:=heap_alloc_new w4 (.cells #[.slice A l.length c] 22);have hN5:Nw w4 w5:=by rw [hw5];exact (Nw.refl w4).alloc' _
   rw [← hw5] at hB5;rw [hs4] at hB5 ⊢;have ha5:=(hN5.block _ (lt_of_block ha4)).trans ha4;have hJ0:SecJ w w5 s wr.heap.size l []:=⟨by
    exact HSec.out.keep (KeepC.nw (hN4.trans hN5)) (HNr.out.trans (hN4.trans hN5)),HSet.out.keep (T:=[]) (fun k cs e fr hh _=>(KeepC.nw (hN4.trans hN5)).1 k cs e fr hh) (by simp),(KeepC.nw (hN4.trans hN5)).1 _ _ _ _ HRes.out,ha5,by simp⟩
   have HJ0:=hid hJ0;have HN5:=hid (HNr.out.trans (hN4.trans hN5));have HB5:=hid hB5;have hw5s:w.heap.size≤w5.heap.size:=HN5.out.size;generalize wr.heap.size=G at *;clear hs4 hN4 ha4 hB5 hN5 ha5 hJ0 HRes HSec HSet HNr hw5
   gi_wp2_with fail
   refine rv_law (F:=Fence.wide) (n:=6) rfl (by omega) (gf:=104) (lb:=#[.pointer (some ⟨G+1,0,none⟩)]) rfl trivial (enters_of Tryz.func104 (by kernel_rfl) rfl)
    (chunks_seq 5 (by omega) w w5 (G+1) b l.length c A l HI.out HN5.out HB5.out HF.out HG.out) (fun _=>rfl) (fun _ _ _=>KeepE.trans') (fun A B k o h1 h2 h3 h4=>KeepE.turn hw5s h1 h2 h3 h4)
    (fun x=>ChV.bides x) (fun pre W=>SecJ w W s G l (pre.map ChY.key)) (fun pre=>SecJ.bides hw5s) HJ0.out ?a1 ?assign ?body ?done
   case assign =>
    intro lq x W K hK
    gi_wp2
    exact hK
   case body =>
    intro lq pre x W hI hv hlen;have hmem:=hv.1;obtain ⟨hib,hc1,hc2⟩:=chKeys_chunk HB.out hmem;rw [List.length_map] at hib;have hpl:pre.length≤3000:=by
     have h1:=chKeys_le (l.map valB);have h2:=HFV.out.smp;omega
    have hdl:(datK (pre.map ChY.key)).length≤10000*pre.length:=by
     have:=datK_len (l:=pre.map ChY.key) (fun p hp=>(chKeys_chunk HB.out (hI.mem p hp)).2.2)
     rwa [List.length_map] at this
    have hll:(lsK (pre.map ChY.key) x.i).length≤pre.length:=by
     have:=lsK_len (pre.map ChY.key) x.i
     rwa [List.length_map] at this
    have hadd:=hI.add;have HAdd:=hid fun W' (hN:Nw W W')=>add_any w W' s (s+2) (s+1) l (datK (pre.map ChY.key)) (lsK (pre.map ChY.key)) x.i (chunkB x.z) x.b x.A x.c hib ((hI.keep (KeepC.nw hN) (hI.sec.nw.trans hN)).sec) (hv.2.1.nw hN) hv.2.2 (by omega) hc2 (by omega)
    have HI2:=hid hI;have HM:=hid hmem;obtain ⟨i,z,bx,xA,xc⟩:=x;dsimp only at HAdd hc1 hc2 hib hll;have c10:W.cell? ⟨G,0,none⟩=some (.func (.func 53) #[] #[.pointer (some ⟨s,0,none⟩),.pointer (some ⟨s+2,0,none⟩)]):=cell_at (k:=0) hadd;clear hmem hI hv hlen hadd hc1 hc2 hpl hdl hll
    gi_wp2_with fail
    refine ⟨trivial,?_⟩;refine (CallsIn.inRound lq (callsIn_wide.2 (HAdd.out W (Nw.refl W)))).mono ?_;rintro e W2 ⟨rfl,hS2,hT2⟩;have HS2:=hid hS2;have HT2:=hid hT2;have hT2sz:W.heap.size≤W2.heap.size:=hT2.2;clear hS2 hT2 HAdd c10
    gi_wp2_with fail
    have hd:=datK_snoc (pre.map ChY.key) (i,z);have hl2:=lsK_snoc (pre.map ChY.key) (i,z);have hk:(pre++[(⟨i,z,bx,xA,xc⟩:ChY)]).map ChY.key=pre.map ChY.key++[(i,z)]:=by rw [List.map_append];rfl
    have hWs:W.heap.size≤W2.heap.size:=hT2sz;refine ⟨⟨hWs,fun k o _ hk ho=>HT2.out.non hk ho⟩,⟨fun _=>HS2.out.nw,HT2.out.toC,hWs⟩,?_⟩;show SecJ w W2 s G l ((pre++[(⟨i,z,bx,xA,xc⟩:ChY)]).map ChY.key)
    rw [hk];refine ⟨?_,HI2.out.set.keep HT2.out.toC (by decide),HT2.out.get HI2.out.res (by decide),HT2.out.get HI2.out.add (by decide),fun q hq=>?_⟩
    ·rw [hd,hl2];exact HS2.out
    ·rcases List.mem_append.1 hq with hq | hq
     ·exact HI2.out.mem q hq
     ·obtain rfl:=List.mem_singleton.1 hq;exact HM.out
   case done =>
    intro D xs W hD hS hI hK;rw [hS] at hI;have HJ:=hid hI;have HK:=hid hK;have hNW:=hI.sec.nw;have HY:Hid (∀ W',Nw W W'→Calls Tryz.prog 55 #[.slice A l.length c] W' fun e w'=>∃ g A' c',e=.returned (.slice A' (symT (labsOf l)).length c')∧Ow w' g 9 1 A' (symT (labsOf l)).length c' (cT (symT (labsOf l)))∧Nw W' w'):=hid fun W' hN=>by
     have:=Symbols_any W' b A l.length c l (HI.out.nw (hNW.trans hN)) (by omega) (by omega);rw [symT_cells,symT_len] at this;exact this
    have HTB:Hid (TblOk (symT (labsOf l))):=hid (by rw [← labsV_val];exact HB.out.tbl HFV.out);obtain ⟨recs,hrl,hrr,hri,hrv⟩:=hI.sec.recs (fun s hs=>HI.out.ok s hs) (fun j hj=>by
     have:=lsK_all (l.map valB) (j:=j) (by rw [List.length_map];exact hj);rw [this,List.getElem_map];rfl)
    have HS0:Hid (sec0 (l.map valB)=symEnc (symT (labsOf l))):=hid (by unfold sec0;rw [labsV_val]);have HS1:Hid (sec1 (l.map valB)=recEnc (symT (labsOf l)) (recs.map valR)):=hid (by unfold sec1;rw [labsV_val,hrv]);have HS3:Hid (sec3 (l.map valB)=posEnc (symT (labsOf l)) (posV (l.map valB))):=hid (by unfold sec3;rw [labsV_val]);have HRO:Hid (∀ r∈recs,RecOk (symT (labsOf l)) (valR r)):=hid fun r hr=>by
     have h1:valR r∈(l.map valB).map recV:=by rw [← hrv];exact List.mem_map.2 ⟨r,hr,rfl⟩
     obtain ⟨v,hv,e⟩:=List.mem_map.1 h1;rw [← e,← labsV_val];exact HB.out.rc HFV.out hv
    have HEO:Hid (∀ p∈posV (l.map valB),EntOk (symT (labsOf l)) p):=hid (by rw [← labsV_val];exact HB.out.ent HFV.out);have HRL:=hid hrl;have HRR:=hid hrr;have HRI:=hid hri;obtain ⟨bd,Ad,cd,hd1,hd2,hd3⟩:=hI.sec.dat;rw [datK_all] at hd1 hd2;have HD1:=hid hd1;have HD2:=hid hd2;have HBX:=hid hI.sec.box;have HRS:=hid hI.res;have HST:=hid hI.set;generalize hT:symT (labsOf l)=T at *;have hDW:=lt_of_block hK;clear hrl hI hK HJ0 HB5 HN5 hS hT hrr hri hrv hd1 hd2 hd3 HJ
    gi_wp2_with fail
    refine ⟨trivial,?_⟩;refine (callsIn_wide.2 (HY.out W (Nw.refl W))).mono ?_;rintro e W1 ⟨g,At,ct,rfl,hOt,hN1⟩;have HOt:=hid hOt;have HN1:=hid hN1;obtain ⟨bt,hbt,hrt⟩:=hOt.rd.low (Nat.lt_of_lt_of_le hDW hN1.size);have HRT:=hid hrt;have HSt:=hid (St3.start hN1);have hn12:Nw W1 ((W1.alloc (.cells #[nilS,nilS,nilS,nilS] 27)).alloc (.cells #[.int .i64 0,.int .i64 0,.int .i64 0] 93)):=((Nw.refl W1).alloc' _).alloc' _;have HN12:=hid hn12;have hbt2:=Nat.lt_of_lt_of_le hbt hn12.size;have hWp:W.heap.size≤W1.heap.size:=hN1.size;clear hOt hN1 HY hrt hn12 HOt
    gi_wp2_with fail
    generalize (W1.alloc (.cells #[nilS,nilS,nilS,nilS] 27)).alloc (.cells #[.int .i64 0,.int .i64 0,.int .i64 0] 93)=W2 at *;generalize W1.heap.size=p at *;refine ⟨trivial,?_⟩;refine (callsIn_wide.2 (SymEncode_any W2 bt At T.length ct T rfl (HRT.out.nw HN12.out) hbt2 HTB.out)).mono ?_;rintro e W3 ⟨b0,A0,c0,rfl,hO0,_,hN3⟩;have HO0:=hid hO0;have HSt3:=hid (HSt.out.call hN3);have HRT3:=hid ((HRT.out.nw HN12.out).nw hN3);obtain ⟨⟨s0,s1,s2,s3⟩,sf⟩:=HSt3.out.cs;obtain ⟨⟨e0,e1,e2⟩,ef⟩:=HSt3.out.ce;have sf0:=sf 0;have ef0:=ef 0;have hbs:=lt_of_block HBX.out;have k2:W3.cell? ⟨s+2,0,none⟩=some (.slice (some ⟨s+1,0,none⟩) l.length l.length):=cell_at (k:=0) ((HSt3.out.nw.block _ hbs).trans HBX.out);have x1:¬ s+2=p:=by omega
    have x2:¬ s+2=p+1:=by omega
    have x3:¬ p=s+2:=by omega
    have x4:¬ p+1=s+2:=by omega
    have x5:¬ p=p+1:=by omega
    have x6:¬ p+1=p:=by omega
    obtain ⟨L0,hL0⟩:∃ L,(symEnc T).length=L:=⟨_,rfl⟩;rw [hL0] at HO0 ⊢;have HL0:=hid hL0;have HSt4:=hid ((HSt3.out.put 0 (.slice A0 L0 c0) (a0:=.slice A0 L0 c0) (a1:=nilS) (a2:=nilS) (a3:=nilS) rfl).pute 0 (by omega));have HO4:=hid ((HSt3.out.put 0 (.slice A0 L0 c0) (a0:=.slice A0 L0 c0) (a1:=nilS) (a2:=nilS) (a3:=nilS) rfl).owe (x:=.int .i64 0) (k:=0) (HSt3.out.ow (x:=.slice A0 L0 c0) (k:=0) HO0.out));have HRT4:=hid ((St3.rd (x:=.int .i64 0) (k:=0) (St3.rd (x:=.slice A0 L0 c0) (k:=0) HRT3.out hbt).1 hbt).2);clear hO0 hN3 HSt HRT HN12 sf ef hL0 HRT3
    gi_wp2_with fail
    clear s0 s1 s2 s3 e0 e1 e2 sf0 ef0 k2;generalize (W3.setCell ⟨p,0,none⟩ (.slice A0 L0 c0)).setCell ⟨p+1,0,none⟩ (.int .i64 0)=W4 at *;refine ⟨trivial,?_⟩;refine (callsIn_wide.2 (RecEncode_any W4 (s+1) bt (some ⟨s+1,0,none⟩) At l.length l.length T.length ct T recs HRL.out (by omega) (HRR.out.nw HSt4.out.nw) rfl HRT4.out HTB.out (fun s hs=>(HRI.out s hs).nw HSt4.out.nw) HRO.out)).mono ?_;rintro e W5 ⟨b1,A1,c1,rfl,hO1,_,hN5⟩;have HO0:=hid (HO4.out.nw hN5);have HO1:=hid hO1;have HSt5:=hid (HSt4.out.call hN5);have HRT5:=hid (HRT4.out.nw hN5);obtain ⟨⟨s0,s1,s2,s3⟩,sf⟩:=HSt5.out.cs;obtain ⟨⟨e0,e1,e2⟩,ef⟩:=HSt5.out.ce;have sf1:=sf 1;have sf2:=sf 2;have ef1:=ef 1;obtain ⟨L1,hL1⟩:∃ L,(recEnc T (recs.map valR)).length=L:=⟨_,rfl⟩;obtain ⟨L2,hL2⟩:∃ L,(datS (l.map valB)).length=L:=⟨_,rfl⟩;rw [hL1] at HO1 ⊢;rw [hL2] at HD1 HD2;have HL1:=hid hL1;have HL2:=hid hL2;have k2:W5.cell? ⟨s,0,none⟩=some (.slice Ad L2 cd):=cell_at (k:=0) ((HSt5.out.nw.block _ (by omega)).trans HD1.out);have y1:¬ s=p:=by omega
    have y2:¬ s=p+1:=by omega
    have y3:¬ p=s:=by omega
    have y4:¬ p+1=s:=by omega
    have hb2:p+1 < W5.heap.size:=lt_of_block HSt5.out.e;have q1:=HSt5.out.put 1 (.slice A1 L1 c1) (a0:=.slice A0 L0 c0) (a1:=.slice A1 L1 c1) (a2:=nilS) (a3:=nilS) rfl;have q2:=q1.pute 1 (by omega);have q3:=q2.put 2 (.slice Ad L2 cd) (a0:=.slice A0 L0 c0) (a1:=.slice A1 L1 c1) (a2:=.slice Ad L2 cd) (a3:=nilS) rfl;have HSt6:=hid q3;have HO06:=hid (q2.ow (x:=.slice Ad L2 cd) (k:=2) (q1.owe (x:=.int .i64 0) (k:=1) (HSt5.out.ow (x:=.slice A1 L1 c1) (k:=1) HO0.out)));have HO16:=hid (q2.ow (x:=.slice Ad L2 cd) (k:=2) (q1.owe (x:=.int .i64 0) (k:=1) (HSt5.out.ow (x:=.slice A1 L1 c1) (k:=1) HO1.out)));have HRT6:=hid ((St3.rd (x:=.slice Ad L2 cd) (k:=2) (St3.rd (x:=.int .i64 0) (k:=1) (St3.rd (x:=.slice A1 L1 c1) (k:=1) HRT5.out hbt).1 hbt).2 hbt).1);clear hO1 hN5 sf ef hL1 hL2 q1 q2 q3 HRT4 HSt4 HO4 HRT5 HO0 HO1 HSt5
    gi_wp2_with fail
    clear s0 s1 s2 s3 e0 e1 e2 sf1 sf2 ef1 k2 y1 y2 y3 y4 x1 x2 x3 x4;generalize ((W5.setCell ⟨p,1,none⟩ (.slice A1 L1 c1)).setCell ⟨p+1,1,none⟩ (.int .i64 0)).setCell ⟨p,2,none⟩ (.slice Ad L2 cd)=W6 at *;refine ⟨trivial,?_⟩;have hlm:(l.map setOf).map (·.labs)=setsV (l.map valB):=by unfold setsV;rw [List.map_map,List.map_map];rfl
    have hdl:(doneOf (setsV (l.map valB))).length≤200:=by
     rw [doneOf_len];have h1:=HFV.out.lab;rw [labsV_len] at h1;unfold setsV;rw [List.map_map];exact h1
    refine (callsIn_wide.2 (PBuild_any W6 (s+3) (some ⟨s+3,0,none⟩) l.length l.length (l.map setOf) (by rw [List.length_map]) (by omega) (HST.out.rd.nw HSt6.out.nw) (fun x hx=>by
     obtain ⟨y,hy,rfl⟩:=List.mem_map.1 hx;have h1:=(HI.out.ok y hy).1;have h2:=labs_le hy;exact ⟨(h1.rd.nw hNW).nw HSt6.out.nw,by show y.labs.length≤1000;omega,fun z hz=>by have:=h1.small z hz;exact ⟨by simp only [maxLen];omega,by simp only [maxLen];omega⟩⟩) (by rw [hlm];omega))).mono ?_
    rintro e W7 ⟨bE,AE,cE,E,rfl,hIx,hRE,hRx,hN7⟩;rw [hlm] at hIx;have hEk:E.map keyG=posV (l.map valB):=IsIdx.one hIx (idxOf_isIdx _);have HEK:=hid hEk;have hEl:E.length≤1000:=by
     have:=hIx.len;rw [List.length_map] at this;omega
    have HRE:=hid hRE;have HRX:=hid hRx;have HSt7:=hid (HSt6.out.call hN7);have HRT7:=hid (HRT6.out.nw hN7);have HO07:=hid (HO06.out.nw hN7);have HO17:=hid (HO16.out.nw hN7);clear hlm hdl hIx hEk hRE hRx hN7 HSt6 HRT6 HO06 HO16
    gi_wp2_with fail
    refine ⟨trivial,?_⟩;refine (callsIn_wide.2 (PosEncode_any W7 bE bt AE At E.length cE T.length ct T E rfl hEl HRE.out rfl HRT7.out HTB.out HRX.out (fun x hx=>HEO.out _ (by rw [← HEK.out];exact List.mem_map.2 ⟨x,hx,rfl⟩)))).mono ?_;rintro e W8 ⟨b3,A3,c3,rfl,hO3,_,hN8⟩;have HO08:=hid (HO07.out.nw hN8);have HO18:=hid (HO17.out.nw hN8);have HSt8:=hid (HSt7.out.call hN8);rw [HEK.out] at hO3 ⊢;have HO38:=hid hO3;obtain ⟨⟨s0,s1,s2,s3⟩,sf⟩:=HSt8.out.cs;obtain ⟨⟨e0,e1,e2⟩,ef⟩:=HSt8.out.ce;have sf3:=sf 3;have ef2:=ef 2;obtain ⟨L3,hL3⟩:∃ L,(posEnc T (posV (l.map valB))).length=L:=⟨_,rfl⟩;rw [hL3] at HO38 ⊢;have HL3:=hid hL3;have hb2:p+1 < W8.heap.size:=lt_of_block HSt8.out.e;have q1:=HSt8.out.put 3 (.slice A3 L3 c3) (a0:=.slice A0 L0 c0) (a1:=.slice A1 L1 c1) (a2:=.slice Ad L2 cd) (a3:=.slice A3 L3 c3) rfl;have q2:=q1.pute 2 (by omega);have HSt9:=hid q2;have HO09:=hid (q1.owe (x:=.int .i64 0) (k:=2) (HSt8.out.ow (x:=.slice A3 L3 c3) (k:=3) HO08.out));have HO19:=hid (q1.owe (x:=.int .i64 0) (k:=2) (HSt8.out.ow (x:=.slice A3 L3 c3) (k:=3) HO18.out));have HO39:=hid (q1.owe (x:=.int .i64 0) (k:=2) (HSt8.out.ow (x:=.slice A3 L3 c3) (k:=3) HO38.out));clear hO3 hN8 sf ef hL3 q1 q2 HSt7 HRT7 HO07 HO17 HO08 HO18 HO38 HSt8
    gi_wp2_with fail
    generalize (W8.setCell ⟨p,3,none⟩ (.slice A3 L3 c3)).setCell ⟨p+1,2,none⟩ (.int .i64 0)=W9 at *;obtain ⟨⟨s0,s1,s2,s3⟩,_⟩:=HSt9.out.cs;have hr9:=(HSt9.out.nw.block _ (lt_of_block HRS.out)).trans HRS.out;have f0:W9.frozen? ⟨w.heap.size,0,none⟩=false:=at_free hr9;have f1:W9.frozen? ⟨w.heap.size,1,none⟩=false:=at_free hr9;have f2:W9.frozen? ⟨w.heap.size,2,none⟩=false:=at_free hr9;have f3:W9.frozen? ⟨w.heap.size,3,none⟩=false:=at_free hr9;have t0:W9.cell? ⟨w.heap.size,0,none⟩=some nilS:=cell_at (k:=0) hr9;have t1:W9.cell? ⟨w.heap.size,1,none⟩=some nilS:=cell_at (k:=1) hr9;have t2:W9.cell? ⟨w.heap.size,2,none⟩=some nilS:=cell_at (k:=2) hr9;have t3:W9.cell? ⟨w.heap.size,3,none⟩=some nilS:=cell_at (k:=3) hr9;have HR9:=hid hr9;have r0:∀ W,(Instr.index 93 (.agg #[.int .i64 0,.int .i64 0,.int .i64 0]) (.int .i64 0)).run Tryz.prog W=.ok (.int .i64 0) W:=fun _=>by kernel_rfl
    have r1:∀ W,(Instr.index 93 (.agg #[.int .i64 0,.int .i64 0,.int .i64 0]) (.int .i64 1)).run Tryz.prog W=.ok (.int .i64 0) W:=fun _=>by kernel_rfl
    have r2:∀ W,(Instr.index 93 (.agg #[.int .i64 0,.int .i64 0,.int .i64 0]) (.int .i64 2)).run Tryz.prog W=.ok (.int .i64 0) W:=fun _=>by kernel_rfl
    clear hr9 sf3 ef2 hb2 x5 x6 hbs
    gi_loopw [87] (fun v wr=>∃ k:Nat,k≤3∧v=.int .i64 (k:Int)∧W9=wr) (fun v _=>3 - (intOf v).toNat)
    case atStart=>exact ⟨0,by omega,rfl,by first | rfl | trivial⟩
    case round =>
     obtain ⟨k,hk,rfl,rfl⟩:=hrel;have hk4:k=0∨k=1∨k=2∨k=3:=by omega
     rcases hk4 with rfl | rfl | rfl | rfl
     ·gi_wp2_with fail
      go_roundw
      case rel=>exact ⟨1,by omega,by go_num,by first | rfl | trivial⟩
      case measure=>simp [intOf]
     ·gi_wp2_with fail
      go_roundw
      case rel=>exact ⟨2,by omega,by go_num,by first | rfl | trivial⟩
      case measure=>simp [intOf]
     ·gi_wp2_with fail
      go_roundw
      case rel=>exact ⟨3,by omega,by go_num,by first | rfl | trivial⟩
      case measure=>simp [intOf]
     ·gi_wp2_with fail
      have kq:=set4_kp W9 w.heap.size (.slice A0 L0 c0) (.slice A1 L1 c1) (.slice Ad L2 cd) (.slice A3 L3 c3);have hq:=set4_at HR9.out (.slice A0 L0 c0) (.slice A1 L1 c1) (.slice Ad L2 cd) (.slice A3 L3 c3);generalize (((W9.setCell ⟨w.heap.size,0,none⟩ (.slice A0 L0 c0)).setCell ⟨w.heap.size,1,none⟩ (.slice A1 L1 c1)).setCell ⟨w.heap.size,2,none⟩ (.slice Ad L2 cd)).setCell ⟨w.heap.size,3,none⟩ (.slice A3 L3 c3)=WA at *;have hDw:w.heap.size≠D:=fun e=>by
       have h1:=HRS.out;rw [e,HK.out] at h1;cases h1
      have hkA:=(kq.block D (Nat.lt_of_lt_of_le hDW HSt9.out.nw.size) (Ne.symm hDw) (Ne.symm hDw)).trans ((HSt9.out.nw.block D hDW).trans HK.out);have kd:=kp_putObj WA D (.deferred none);have hqD:=(kd.block _ (lt_of_block hq) hDw hDw).trans hq;have hNA:Nw w WA:=Kp.nw (hNW.trans HSt9.out.nw) kq (Nat.le_refl _) (Nat.le_refl _);have hND:Nw w (WA.putObj D (.deferred none)):=Kp.nw hNA kd (Nat.le_trans hw5s hD) (Nat.le_trans hw5s hD);have ow:∀ {bb nn cc:Nat} {AA:Option Addr} {xx:List Value},Ow W9 bb 5 1 AA nn cc xx→Rd (WA.putObj D (.deferred none)) bb AA xx:=fun h =>
       (h.kty (kq.kty HR9.out) (by decide) kq.size).rd.turn kd hkA rfl
      refine ⟨by simp,.inl ⟨_,_,rfl,run_takeDeferred hkA,?_⟩⟩;refine ⟨_,results_ct rfl _ _ ⟨w.heap.size,0,none⟩ rfl (run_load4 hqD),_,rfl,?_,hND⟩;refine ⟨b0,A0,c0,b1,A1,c1,bd,Ad,cd,b3,A3,c3,?_,?_,?_,ow (HD2.out.nw HSt9.out.nw),?_⟩
      ·rw [HS0.out,HS1.out,HS3.out,HL0.out,HL1.out,HL2.out,HL3.out]
      ·rw [HS0.out];exact ow HO09.out
      ·rw [HS1.out];exact ow HO19.out
      ·rw [HS3.out];exact ow HO39.out
end
section
open Go Go.RowKit Go.Lib Go.Sort Go.Shelf
attribute [local go_sem] Oper.semAt_some
theorem datS_len {b:List BVal} (hb:BlkV b) (hf:FewV b) (k:Nat) (hk:k≤b.length):(datS (b.take k)).length≤30000000:=by
 rw [← datK_keys b k hk];have h1:=datK_len (l:=chKeys (b.take k)) (fun p hp=>by
  obtain ⟨h,hz⟩:=chKeys_of hp;rw [List.length_take] at h;have hz':p.2∈partsL (b[p.1]'(by omega)).2:=by simpa using hz
  have:=partsL_mem hz';exact (chunkB_len this.1 this.2.1 ((hb.ok _ (List.getElem_mem _)).part hz')).2)
 have h2:=chKeys_pre (b:=b) k;have h3:=chKeys_le b;have h4:=hf.smp;have h5:10000*(chKeys (b.take k)).length≤10000*3000:=Nat.mul_le_mul_left _ (by omega);omega
section
variable {w W W':World} {v0 v1 v2 v3:Value}
end
end
section
open Go Go.RowKit Go.Lib Go.Sort Go.Shelf
def fileB (b:List BVal):List Nat:=fileOf (sec0 b) (sec1 b) (datS b) (sec3 b)
theorem fm_len {α:Type} (f:α→List Nat) (c:Nat) (l:List α) (h:∀ x∈l,(f x).length≤c):(l.flatMap f).length≤c*l.length:=by
 induction l with
 | nil=>simp
 | cons x l ih =>
  have h1:=h x List.mem_cons_self;have h2:=ih (fun y hy=>h y (List.mem_cons_of_mem _ hy));rw [List.flatMap_cons,List.length_append,List.length_cons,Nat.mul_succ];omega
theorem fm_lt {α:Type} {f:α→List Nat} {l:List α} (h:∀ x∈l,∀ y∈f x,y < 256):∀ y∈l.flatMap f,y < 256:=by
 intro y hy;obtain ⟨x,hx,hy⟩:=List.mem_flatMap.1 hy;exact h x hx y hy
theorem app_lt {a b:List Nat} (h1:∀ y∈a,y < 256) (h2:∀ y∈b,y < 256):∀ y∈a++b,y < 256:=by
 intro y hy;rcases List.mem_append.1 hy with h | h
 ·exact h1 y h
 ·exact h2 y h
theorem symEnc_byte (t:List ByteArray):∀ y∈symEnc t,y < 256:=app_lt (vint_lt _) (fm_lt fun s _=>lenB_lt (sB_lt s))
theorem symEnc_len {t:List ByteArray} (h:TblOk t):(symEnc t).length≤10+65545*t.length:=by
 unfold symEnc;rw [List.length_append];have h1:=vint_len t.length (by have:=h.1;omega);have h2:=lens_le t h.2.1;omega
theorem recEnc1_byte (t:List ByteArray) (x:RecV):∀ y∈recEnc1 t x,y < 256:=app_lt (app_lt (app_lt (vint_lt _) (fm_lt fun _ _=>vint_lt _)) (vint_lt _)) (fm_lt fun _ _=>vint_lt _)
theorem recEnc1_len {t:List ByteArray} (h:TblOk t) {x:RecV} (hx:RecOk t x):(recEnc1 t x).length≤30020:=by
 unfold recEnc1;obtain ⟨h1,h2,_,h4,h5⟩:=hx;have a1:=vint_len x.1.length (by omega);have a2:=vint_len x.2.length (by omega);have a3:=fm_len (fun s=>vint (idxS t s)) 10 (strsOf x.1) (fun s hs=>vint_len _ (by have:=idxS_lt (h1 s hs);have:=h.1;omega));have a4:=fm_len vint 10 x.2 (fun n hn=>vint_len _ (by have:=h5 n hn;omega));rw [strsOf_length] at a3;simp only [List.length_append];omega
theorem entEnc_byte (t:List ByteArray) (x:EntV):∀ y∈entEnc t x,y < 256:=app_lt (app_lt (fm_lt fun _ _=>vint_lt _) (vint_lt _)) (fm_lt fun _ _=>vint_lt _)
theorem difs_le {l:List Nat} {c:Nat} (h:∀ n∈l,n≤c):∀ n∈difs l,n≤c:=by
 intro n hn;obtain ⟨j,hj,rfl⟩:=List.getElem_of_mem hn;have hj':j < l.length:=by rw [difs_len] at hj;exact hj
 rw [difs_get l j hj'];have:=h l[j] (List.getElem_mem hj');omega
theorem entEnc_len {t:List ByteArray} (h:TblOk t) {x:EntV} (hx:EntOk t x):(entEnc t x).length≤10030:=by
 unfold entEnc;obtain ⟨h1,h2,h3,_,h5⟩:=hx;have a1:=vint_len x.2.length (by omega);have a2:=fm_len (fun s=>vint (idxS t s)) 10 [x.1.1,x.1.2] (fun s hs=>vint_len _ (by
  have:s∈t:=by
   simp at hs;rcases hs with rfl | rfl
   ·exact h1
   ·exact h2
  have:=idxS_lt this;have:=h.1;omega))
 have a3:=fm_len vint 10 (difs x.2) (fun n hn=>vint_len _ (by have:=difs_le h5 n hn;omega));rw [difs_len] at a3;simp only [List.length_append];simp only [List.length_cons,List.length_nil] at a2;omega
theorem secs_ok {b:List BVal} (hb:BlkV b) (hf:FewV b):(∀ y∈sec0 b,y < 256)∧(∀ y∈sec1 b,y < 256)∧(∀ y∈datS b,y < 256)∧(∀ y∈sec3 b,y < 256) ∧
  (sec0 b).length≤100000000∧(sec1 b).length≤100000000∧(datS b).length≤100000000∧(sec3 b).length≤100000000:=by
 have hT:=hb.tbl hf;have hn:=hf.n;have hl:=hf.lab;refine ⟨symEnc_byte _,app_lt (vint_lt _) (fm_lt fun x _=>recEnc1_byte _ x),fm_lt fun s _ y hy=>?_,app_lt (vint_lt _) (fm_lt fun x _=>entEnc_byte _ x),?_,?_,?_,?_⟩
 ·obtain ⟨z,hz,hy⟩:=List.mem_flatten.1 hy;obtain ⟨q,_,rfl⟩:=List.mem_map.1 hz;exact chunkB_lt q y hy
 ·have h1:=symEnc_len hT;have h2:=symT_le (labsV b);unfold sec0;omega
 ·unfold sec1 recEnc;rw [List.length_append];have h1:=vint_len (b.map recV).length (by rw [List.length_map];omega);have h2:=fm_len (recEnc1 (symT (labsV b))) 30020 (b.map recV) (fun x hx=>by
   obtain ⟨s,hs,rfl⟩:=List.mem_map.1 hx;exact recEnc1_len hT (hb.rc hf hs))
  rw [List.length_map] at h2;omega
 ·have:=datS_len hb hf b.length (Nat.le_refl _);rw [List.take_length] at this;omega
 ·unfold sec3 posEnc;rw [List.length_append];have h0:=(idxOf_isIdx (doneOf (setsV b))).len;rw [doneOf_len] at h0;have h00:((setsV b).map List.length).sum=(labsV b).length:=by rw [labsV_len];unfold setsV;rw [List.map_map];rfl
  have hE:(posV b).length≤200:=by
   show (idxOf (doneOf (setsV b))).length≤200
   omega
  have h1:=vint_len (posV b).length (by omega);have h2:=fm_len (entEnc (symT (labsV b))) 10030 (posV b) (fun x hx=>entEnc_len hT (hb.ent hf x hx));omega
theorem fileB_lt {b:List BVal} (hb:BlkV b) (hf:FewV b):∀ y∈fileB b,y < 256:=by
 obtain ⟨s0,s1,s2,s3,_⟩:=secs_ok hb hf;unfold fileB;rw [fileOf_eq];refine app_lt (addCrc_lt _ ?_) (by decide);exact app_lt (app_lt (app_lt (app_lt (app_lt hd0_lt (frame_lt (by omega) s0)) (frame_lt (by omega) s1)) (frame_lt (by omega) s2)) (frame_lt (by omega) s3)) (frame_lt (by omega) (toc_lt _ _ _ _))
end
section
open Go Go.RowKit Go.Lib Go.Sort Go.Shelf
attribute [local go_sem] Oper.semAt_some
theorem SecV.inB {W:World} {b:List BVal} {v:Value} (h:SecV W b v) (hb:BlkV b) (hf:FewV b):∃ b0 b1 b2 b3 A0 A1 A2 A3 n0 n1 n2 n3 c0 c1 c2 c3,v=.agg #[.slice A0 n0 c0,.slice A1 n1 c1,.slice A2 n2 c2,.slice A3 n3 c3] ∧
  InB W b0 A0 n0 c0 (sec0 b)∧InB W b1 A1 n1 c1 (sec1 b)∧InB W b2 A2 n2 c2 (datS b)∧InB W b3 A3 n3 c3 (sec3 b):=by
 obtain ⟨b0,A0,c0,b1,A1,c1,b2,A2,c2,b3,A3,c3,rfl,h0,h1,h2,h3⟩:=h;obtain ⟨s0,s1,s2,s3,l0,l1,l2,l3⟩:=secs_ok hb hf;exact ⟨b0,b1,b2,b3,A0,A1,A2,A3,_,_,_,_,c0,c1,c2,c3,rfl,⟨h0,rfl,l0,s0⟩,⟨h1,rfl,l1,s1⟩,⟨h2,rfl,l2,s2⟩,⟨h3,rfl,l3,s3⟩⟩
set_option maxRecDepth 100000 in
set_option maxHeartbeats 800000 in
theorem EncodeE_ok (w:World) (b:Nat) (A:Option Addr) (n c:Nat) (l:List Ser) (hI:InSer w b A n c l) (hf:Fits l) (h0:blkE l=0) (hG:Gl w) :
  Calls Tryz.prog 22 #[.slice A n c] w (NewBE w (fileB (l.map valB))):=by
 have HS:=hid (SectionsE_ok w b A n c l hI hf h0 hG);have HB:Hid (BlkV (l.map valB)):=hid (blkE_v h0 (fun s hs=>(hI.ok s hs).2.wf));have HF:=hid (fits_few hf);have HG:=hid hG;clear hI hf hG h0;go_enter Tryz.func22,Tryz.ntmps22
 go_wp2_with fail;refine HS.out.mono ?_;rintro e w2 ⟨v,rfl,hv,hN2⟩;obtain ⟨b0,b1,b2,b3,A0,A1,A2,A3,n0,n1,n2,n3,c0,c1,c2,c3,rfl,h0,h1,h2,h3⟩:=hv.inB HB.out HF.out;have hN3:Nw w2 (w2.alloc (.cells #[.slice A0 n0 c0,.slice A1 n1 c1,.slice A2 n2 c2,.slice A3 n3 c3] 27)):=(Nw.refl w2).alloc' _;have HA:=hid (Assemble_any _ b0 b1 b2 b3 A0 A1 A2 A3 n0 n1 n2 n3 c0 c1 c2 c3 _ _ _ _ (h0.nw hN3) (h1.nw hN3) (h2.nw hN3) (h3.nw hN3) (HG.out.nw (hN2.trans hN3)));have HN:=hid (hN2.trans hN3);clear h0 h1 h2 h3 hv hN2 hN3;go_wp2_with fail;refine HA.out.mono ?_;rintro e w4 ⟨b4,A4,c4,rfl,hO4,hb4,hN4⟩;go_wp2;go_ret2;exact ⟨b4,A4,c4,rfl,hO4,Nat.le_trans HN.out.size hb4,HN.out.trans hN4⟩
end
section
open Go Go.RowKit Go.Sort Go.Shelf
def oneAll:List Lab→Nat
 | []=>0
 | x::l=>if oneE x≠0 then oneE x else oneAll l
theorem CloneL_any (w:World) (b:Nat) (A:Option Addr) (n c:Nat) (l:List Lab) (hI:InLab w b A n c l) (hn:n≤1000000) :
  Calls Tryz.prog 242 #[.slice A n c] w fun e w'=>∃ g A' c',e=.returned (.slice A' n c')∧Ow w' g 124 2 A' n c' (cL l)∧Nw w w'∧((A'=none∧l=[])∨(A'=some ⟨g,0,none⟩∧w.heap.size≤g)):=by
 have hl:=hI.len;subst hl;have HI:=hid hI;have q32:∀ (w:World) (a:Option Addr) (n c n' c':Nat),(binOp .eql 78 (.slice a n c) (.slice none n' c')).run Tryz.prog w=.ok (.bool a.isNone) w:=fun w a n c n' c'=>Lib.run_eql_slice_nil w _ _ a n c n' c' Tryz.underlying78
 clear hI;cases A with
 | none =>
  have h0:l=[]:=by
   have:=HI.out.rd;rcases this with h | ⟨o,h,_⟩
   ·cases l with
    | nil=>rfl
    | cons x l=>simp [cL,c2] at h
   ·cases h
  subst h0;have hc:=HI.out.nil rfl;subst hc;go_enter Tryz.func242,Tryz.ntmps242
  go_wp2;go_ret;exact ⟨0,none,0,rfl,Ow.nil _ _ _ _,Nw.refl _,by simp⟩
 | some a =>
  have hOw:=Ow.empty w 124 2;have HOw:=hid hOw;clear hOw;go_enter Tryz.func242,Tryz.ntmps242
  go_wp2_with (at_builtin;refine wpList_app E_lab rfl (.tmp 5) (.tmp 6) rfl rfl HOw.out rfl (HI.out.rd.nw ((Nw.refl w).alloc' _)) (by rw [show (cL l).length=2*l.length from c2_length _];omega) (fun e=>by cases e) (oc_L _) (by simp only [maxLen];omega) (by omega) ?_;intro b3 A3 c3 w3 q1 q2 q3 q4;have Q1:=hid q1;have Q2:=hid q2;have Q3:=hid q3;clear q1 q2 q3 q4)
  go_ret;have h1:=Q1.out;rw [Nat.zero_add,List.nil_append] at h1;refine ⟨b3,A3,c3,rfl,h1,Kp.nw ((Nw.refl w).alloc' _) Q3.out (Nat.le_refl _) (Nat.le_refl _),?_⟩;rcases h1 with ⟨h2,_,_,h3⟩ | ⟨h2,_⟩
  ·refine .inl ⟨h2,?_⟩;cases l with
   | nil=>rfl
   | cons x l=>simp [cL,c2] at h3
  ·refine .inr ⟨h2,?_⟩;rcases Q2.out with h | h
   ·omega
   ·simp at h;omega
theorem ltOf_name (x y:Lab):ltOf (fun x y:Lab=>cmpS x.1 y.1) x y=decide (cmpS x.1 y.1 < 0):=rfl
theorem lt_name {x y:Lab}:ltOf (fun x y:Lab=>cmpS x.1 y.1) x y=true↔Op.bytesLess x.1.toList y.1.toList=true:=by
 rw [ltOf_name,decide_eq_true_iff,← cmpS_neg];rcases cmpS_in x.1 y.1 with h | h | h<;>rw [h]<;>decide
theorem swo_name:SWO (ltOf fun x y:Lab=>cmpS x.1 y.1) where
 irrefl x:=by
  rw [Bool.eq_false_iff];intro h;rw [lt_name,bl_irrefl] at h;cases h
 trans x y z h1 h2:=by
  rw [lt_name] at *;exact bl_trans _ _ _ h1 h2
 ntrans x y z h1 h2:=by
  rw [Bool.eq_false_iff] at *;intro h;rw [ne_eq,lt_name] at *;rcases bl_total x.1.toList y.1.toList with a | a | a
  ·exact h1 a
  ·rw [a] at h;exact h2 h
  ·exact h2 (bl_trans _ _ _ a h)
theorem SortL_any (w:World) (g g0 n c:Nat) (a:Addr) (l:List Lab) (hn:n=l.length) (hm:n≤1000000) (hO:Ow w g 124 2 (some a) n c (cL l)) (hc:w.cell? ⟨g0,0,none⟩=some (.func (.func 253) #[] #[])) (hne:g0≠g) :
  Calls Tryz.prog 189 #[.slice (some a) n c,.func (.func 294) #[] #[.pointer (some ⟨g0,0,none⟩)]] w fun e w'=>e=.returned (.tuple #[])∧∃ l',l'.Perm l∧l'.Pairwise (fun x y=>¬ Op.bytesLess y.1.toList x.1.toList=true)∧Ow w' g 124 2 (some a) n c (cL l')∧Kp g g w w':=by
 subst hn;obtain ⟨cs,hh,_,_,rfl⟩:=hO.heap;have hg0:=lt_of_cell hc;have eg:∀ args w,(callFunc 294 args).run Tryz.prog w=.ok (.enter 294 args) w:=enters_of Tryz.func294 (by kernel_rfl) rfl;have hO':Ow w g 124 2 (some ⟨g,0,none⟩) l.toArray.size c (c2 (fun x:Lab=>.string x.1) (fun x=>.string x.2) l.toArray.toList):=by simpa [cL] using hO
 have hcmp:CmpLays Tryz.prog 294 #[.pointer (some ⟨g0,0,none⟩)] (fun x:Lab=>[.string x.1,.string x.2]) 2 (fun x y=>cmpS x.1 y.1) g 0 l.toArray.size w:=by
  intro m os dk hd x y;have hk:=(sort_ow (α:=Lab) (f:=fun x=>.string x.1) (h:=fun x=>.string x.2) (m:=m) hO' hd os).2;have hcc:=(World.cell?_of_block (hk.block g0 hg0 hne hne) (a:=⟨g0,0,none⟩)).trans hc;refine (byC1_any _ g0 x.1 x.2 y.1 y.2 hcc).mono ?_;rintro e w' ⟨he,p,hp⟩;exact ⟨he,p.n,p.os,hp⟩
 have hcon:=AnyQ.slices_SortFunc Tryz.sortLab 2 (fun w=>by kernel_rfl) (fun w=>by kernel_rfl) (fun x:Lab=>[.string x.1,.string x.2]) (fun _=>rfl) (fun x v hv=>by simp at hv;rcases hv with rfl | rfl<;>rfl) (fun x y=>cmpS x.1 y.1) swo_name 294 #[.pointer (some ⟨g0,0,none⟩)] g 0 c l.toArray w eg hcmp (holds_ow hO') (lt_of_block hh) (by simp;omega);change Calls Tryz.prog 189 _ _ _ at hcon
 rw [List.size_toArray] at hcon;refine hcon.mono ?_;rintro e w' ⟨rfl,d',m,os,hp,hs,rfl⟩;have hd:d'.size=l.length:=by have:=hp.1;simpa using this
 have hw:=sort_ow (α:=Lab) (f:=fun x=>.string x.1) (h:=fun x=>.string x.2) (m:=m) hO hd os;refine ⟨rfl,d'.toList,?_,?_,hw.1,hw.2⟩
 ·have:=perm_of (d:=l.toArray) (d':=d') (by simpa using hp);simpa using this
 ·refine (sorted_of hs hd.symm).imp ?_;intro x y h h2;rw [lt_name.2 h2] at h;cases h
end
section
open Go Go.RowKit Go.Sort Go.Shelf
def InOrder (l' l:List Lab):Prop:=l'.Perm l∧l'.Pairwise fun x y=>¬ Op.bytesLess y.1.toList x.1.toList=true
theorem SortL0_any (w:World) (A:Option Addr) (c:Nat) (fv:Value):Calls Tryz.prog 189 #[.slice A 0 c,fv] w fun e w'=>e=.returned (.tuple #[])∧w'=w:=AnyF.slices_SortFunc_none Tryz.sortLab A c fv w
theorem SortLA_any (w:World) (g g0 n c:Nat) (A:Option Addr) (l:List Lab) (hn:n=l.length) (hm:n≤1000000) (hO:Ow w g 124 2 A n c (cL l)) (hc:w.cell? ⟨g0,0,none⟩=some (.func (.func 253) #[] #[])) (hne:A=none∨g0≠g) :
  Calls Tryz.prog 189 #[.slice A n c,.func (.func 294) #[] #[.pointer (some ⟨g0,0,none⟩)]] w fun e w'=>e=.returned (.tuple #[])∧∃ l',InOrder l' l∧Ow w' g 124 2 A n c (cL l')∧Kp g g w w'∧(A=none→Nw w w'):=by
 cases A with
 | none =>
  have hl0:l=[]:=by
   rcases hO with ⟨_,h,_⟩ | ⟨h,_⟩
   ·subst h;exact List.eq_nil_of_length_eq_zero hn.symm
   ·cases h
  subst hl0;subst hn;refine (SortL0_any w none c _).mono ?_;rintro e w' ⟨rfl,rfl⟩;exact ⟨rfl,[],⟨List.Perm.nil,List.Pairwise.nil⟩,hO,Kp.refl _ _ _,fun _=>Nw.refl _⟩
 | some a =>
  refine (SortL_any w g g0 n c a l hn hm hO hc (by rcases hne with h | h;cases h;exact h)).mono ?_;rintro e w' ⟨rfl,l',h1,h2,h3,h4⟩;exact ⟨rfl,l',⟨h1,h2⟩,h3,h4,fun h=>by cases h⟩
def NormGot (w:World) (l:List Lab) (e:Ending) (w':World):Prop :=
 Nw w w'∧((oneAll l≠0∧e=.returned (.tuple #[.slice none 0 0,.int .i64 (oneAll l:Nat)])) ∨
  (oneAll l=0∧∃ l',InOrder l' l ∧
   ((chkL l'≠0∧e=.returned (.tuple #[.slice none 0 0,.int .i64 (chkL l':Nat)])) ∨
    (chkL l'=0∧∃ g A c,e=.returned (.tuple #[.slice A l.length c,.int .i64 0])∧Ow w' g 124 2 A l.length c (cL l')∧((A=none∧l=[])∨(A=some ⟨g,0,none⟩∧w.heap.size≤g))))))
set_option maxRecDepth 100000 in
set_option maxHeartbeats 1600000 in
theorem NormL_any (w:World) (b:Nat) (A:Option Addr) (n c:Nat) (l:List Lab) (hI:InLab w b A n c l) (hn:n≤1000000) :
  Calls Tryz.prog 165 #[.slice A n c] w (NormGot w l):=by
 have hl:=hI.len;subst hl;have HR:=hid hI.rd;have HCl:=hid fun W (hN:Nw w W)=>CloneL_any W b A l.length c l (hI.nw hN) hn
 have i0:∀ W,(Instr.index 281 (.agg partFs) (.int .i64 0)).run Tryz.prog W=.ok (.agg #[.func (.func 253) #[] #[]]) W:=fun _=>by kernel_rfl
 have fl0:∀ W,(Instr.field 280 (.agg #[.func (.func 253) #[] #[]]) 0).run Tryz.prog W=.ok (.func (.func 253) #[] #[]) W:=fun _=>by kernel_rfl
 clear hI;go_enter Tryz.func165,Tryz.ntmps165
 go_wp2;go_loopw [11] (fun i wr=>∃ k:Nat,k≤l.length∧i=.int .i64 k∧Hid (oneAll l=oneAll (l.drop k))∧Hid (Nw w wr)) (fun i _=>l.length - (intOf i).toNat)
 case atStart=>exact ⟨0,by omega,rfl,hid rfl,hid (Nw.refl _)⟩
 case round =>
  obtain ⟨k,hk,rfl,HX,HN⟩:=hrel;by_cases hlt:k < l.length
  ·have hltI:(k:Int) < (l.length:Int):=by omega
   obtain ⟨o,rfl,hbw,hc0,hc1⟩:=two_at (HR.out.nw HN.out) hlt;have hX:=HX.out;rw [drop_cons hlt,show ∀ x m,oneAll (x::m)=if oneE x≠0 then oneE x else oneAll m from fun _ _=>rfl] at hX;generalize l[k]=x at *;obtain ⟨a,d⟩:=x;dsimp only at hc0 hc1;have HS:=hid fun W=>single_any W a d
   obtain ⟨E,hE⟩:∃ E,oneE (a,d)=E:=⟨_,rfl⟩;rw [hE] at HS hX;have HNA:=hid (HN.out.alloc' (.cells #[.string a,.string d] 124));clear hE;by_cases hE0:E=0
   ·have hE1:((E:Int) != 0)=false:=by rw [bne_eq_false_iff_eq];omega
    rw [if_neg (by simp [hE0])] at hX;have HX2:=hid hX;clear hX HX;go_wp2_with (go_at_call 241;refine (HS.out _).mono ?_;rintro e w3 ⟨rfl,hN3⟩)
    go_roundw
    case rel=>exact ⟨k+1,by omega,by go_num,HX2,hid (HNA.out.trans hN3)⟩
    case measure=>simp [intOf];omega
   ·have hE1:((E:Int) != 0)=true:=by rw [bne_iff_ne];omega
    rw [if_pos hE0] at hX;have HX2:=hid hX;have HE0:=hid hE0;clear hX HX hE0;go_wp2_with (go_at_call 241;refine (HS.out _).mono ?_;rintro e w3 ⟨rfl,hN3⟩)
    go_ret2;exact ⟨HNA.out.trans hN3,.inl ⟨by rw [HX2.out];exact HE0.out,by rw [HX2.out];rfl⟩⟩
  ·obtain rfl:k=l.length:=by omega
   have hX:=HX.out;rw [List.drop_length] at hX;have HX2:=hid (show oneAll l=0 from hX);clear hX HX;go_wp2_with (first
    | (go_at_call 242;refine (HCl.out _ HN.out).mono ?_;rintro e w1 ⟨g,A',c',rfl,hO1,hN1,hA1⟩)
    | (go_at_call 189;refine (SortLA_any _ g w2.heap.size _ _ A' l rfl hn (hO1.nw (hgr.nw.alloc' _)) (by rw [cell_at (heap_alloc_new w2 _)];rfl) (by rcases hA1 with h | h;exact .inl h.1;right;have h5:=hO1;rw [h.1] at h5;obtain ⟨_,h6,_⟩:=h5.heap;have h7:=lt_of_block h6;have h8:=hgr.nw.size;omega)).mono ?_;rintro e w4 ⟨rfl,l',hio,hO4,hK4,hZ4⟩)
    | (go_at_call 243;refine (by_any _ _).mono ?_;rintro e w3 ⟨rfl,rfl⟩)
    | (go_at_call 180;refine (lparts_any _).mono ?_;rintro e w2 ⟨rfl,hgr⟩))
   have hlen:l'.length=l.length:=hio.1.length_eq;have HCK:=hid (CheckL_any w4 g A' l.length c' l' hlen.symm (by omega) hO4.rd);have HIO:=hid hio;have HO4:=hid hO4;have HA1:=hid hA1;have hN4:Nw wr w4:=by
    have hN3:Nw wr (w2.alloc (.cells #[.func (.func 253) #[] #[]] 278)):=(hN1.trans hgr.nw).alloc' _;rcases hA1 with ⟨h1,_⟩ | ⟨_,h⟩
    ·exact hN3.trans (hZ4 h1)
    ·exact Kp.nw hN3 hK4 h h
   have HN4:=hid (HN.out.trans hN4);clear hio hO4 hA1 hN4 hK4 hO1 hN1 hgr hZ4;obtain ⟨C,hC⟩:∃ C,chkL l'=C:=⟨_,rfl⟩;rw [hC] at HCK;have HC:=hid hC;clear hC;refine HCK.out.mono ?_;rintro e w5 ⟨rfl,hN5⟩;by_cases h0:C=0
   ·have h0b:((C:Int) != 0)=false:=by rw [bne_eq_false_iff_eq];omega
    have HC0:=hid (HC.out.trans h0);clear h0;go_wp2;go_ret2;refine ⟨HN4.out.trans hN5,.inr ⟨HX2.out,l',HIO.out,.inr ⟨HC0.out,g,A',c',rfl,HO4.out.nw hN5,?_⟩⟩⟩;rcases HA1.out with h | ⟨h,h2⟩
    ·exact .inl h
    ·exact .inr ⟨h,Nat.le_trans HN.out.size h2⟩
   ·have h0b:((C:Int) != 0)=true:=by rw [bne_iff_ne];omega
    have HC0:=hid h0;clear h0;go_wp2;go_ret2;exact ⟨HN4.out.trans hN5,.inr ⟨HX2.out,l',HIO.out,.inl ⟨by rw [HC.out];exact HC0.out,by rw [HC.out];rfl⟩⟩⟩
end
section
open Go Go.RowKit Go.Sort Go.Shelf
theorem lt_time {x y:Smpl}:ltOf (fun x y:Smpl=>cmpI x.1 y.1) x y=true↔x.1 < y.1:=by
 unfold ltOf cmpI;rw [decide_eq_true_iff];show (if x.1 < y.1 then (-1:Int) else if y.1 < x.1 then 1 else 0) < 0↔_
 split
 ·simp;omega
 ·split
  ·simp;omega
  ·simp;omega
theorem swo_time:SWO (ltOf fun x y:Smpl=>cmpI x.1 y.1) where
 irrefl x:=by rw [Bool.eq_false_iff];intro h;rw [lt_time] at h;omega
 trans x y z h1 h2:=by rw [lt_time] at *;omega
 ntrans x y z h1 h2:=by
  rw [Bool.eq_false_iff] at *;intro h;rw [ne_eq,lt_time] at *;omega
theorem tyS (w:World):(isAgg 126).run Tryz.prog w=.ok true w:=by kernel_rfl
theorem szS (w:World):(Go.sizeOf 126).run Tryz.prog w=.ok 2 w:=by kernel_rfl
theorem tyR (w:World):(isAgg 80).run Tryz.prog w=.ok true w:=by kernel_rfl
theorem szR (w:World):(Go.sizeOf 80).run Tryz.prog w=.ok 2 w:=by kernel_rfl
abbrev encS:Smpl→List Value:=fun z=>[.int .i64 z.1,.int .u64 (z.2:Int)]
theorem egS (args:Array Value) (w:World):(callFunc 167 args).run Tryz.prog w=.ok (.enter 167 args) w:=enters_of Tryz.func167 (by kernel_rfl) rfl args w
theorem egR (args:Array Value) (w:World):(callFunc 103 args).run Tryz.prog w=.ok (.enter 103 args) w:=enters_of Tryz.func103 (by kernel_rfl) rfl args w
theorem cmpLaysS (blk size:Nat) (w:World):CmpLays Tryz.prog 167 #[] encS 2 (fun x y=>cmpI x.1 y.1) blk 0 size w:=by
 intro m os dk hd x y;refine (byTime_any _ x.1 y.1 x.2 y.2).mono ?_;rintro e w' ⟨he,p,hp⟩;exact ⟨he,p.n,p.os,hp⟩
end
section
open Go Go.RowKit Go.Sort Go.Shelf
section
variable {w w':World} {b n c g g':Nat} {A:Option Addr}
theorem InLab.kp {l:List Lab} (h:InLab w b A n c l) (hk:Kp g g' w w') (h1:b≠g) (h2:b≠g'):InLab w' b A n c l:=⟨h.rd.kp hk h1 h2,h.len,h.nil,h.cap,h.max,h.small⟩
theorem InSmp.kp {l:List Smpl} (h:InSmp w b A n c l) (hk:Kp g g' w w') (h1:b≠g) (h2:b≠g'):InSmp w' b A n c l:=⟨h.rd.kp hk h1 h2,h.len,h.wf,h.nil,h.cap,h.max⟩
theorem SerOk.kp {s:Ser} (h:SerOk w s) (hk:Kp g g w w') (h1:s.bl≠g) (h2:s.bs≠g):SerOk w' s:=⟨h.1.kp hk h1 h1,h.2.kp hk h2 h2⟩
end
def PS (w:World) (g:Nat) (s:Ser):Prop:=SerOk w s∧s.bl≠g∧s.bs≠g∧s.labs.length≤1000000
abbrev fR:Ser→Value:=fun s=>.slice s.al s.labs.length s.cl
abbrev hR:Ser→Value:=fun s=>.slice s.as_ s.smps.length s.cs
theorem c2_val {α β:Type} {f h:β→Value} (κ:α→β) (l:List α):c2 (fun x=>f (κ x)) (fun x=>h (κ x)) l=c2 f h (l.map κ):=by
 unfold c2;rw [List.flatMap_map]
theorem pmap_val {α:Type} {p:α→Prop} (l:List α) (h:∀ a∈l,p a):(l.pmap Subtype.mk h).map (·.1)=l:=by
 rw [List.map_pmap];simp
theorem cmpLaysR (w:World) (g size n c:Nat) (xs:List Value) [Inhabited {s:Ser // PS w g s}] (hO:Ow w g 80 2 (some ⟨g,0,none⟩) n c xs) (hn:size=n) :
  CmpLays Tryz.prog 103 #[] (fun x:{s:Ser // PS w g s}=>[fR x.1,hR x.1]) 2 (fun x y=>cmpLs x.1.labs y.1.labs) g 0 size w:=by
 intro m os dk hd x y;have hk:=(sort_ow (α:={s:Ser // PS w g s}) (f:=fun x=>fR x.1) (h:=fun x=>hR x.1) (m:=m) hO (hd.trans hn) os).2;refine (bySet_any _ x.1 y.1 (x.2.1.kp hk x.2.2.1 x.2.2.2.1) (y.2.1.kp hk y.2.2.1 y.2.2.2.1) x.2.2.2.2 y.2.2.2.2).mono ?_;rintro e w' ⟨he,p,hp⟩;exact ⟨he,p.n,p.os,hp⟩
theorem InsR_any (w:World) (g n c:Nat) (l:List Ser) (hn:n=l.length) (hm:n≤1000000) (hO:Ow w g 80 2 (some ⟨g,0,none⟩) n c (cR l)) (hP:∀ s∈l,PS w g s) :
  Calls Tryz.prog 298 #[.slice (some ⟨g,0,none⟩) n c,.int .i64 0,.int .i64 (n:Int),.func (.func 103) #[] #[]] w fun e w'=>e=.returned (.tuple #[])∧∃ l',l'.Perm l∧l'.Pairwise (fun x y=>¬ cmpLs y.labs x.labs = -1)∧Ow w' g 80 2 (some ⟨g,0,none⟩) n c (cR l')∧Kp g g w w':=by
 subst hn;by_cases h0:l=[]
 ·subst h0;have h:=AnyF.insertionSortCmpFunc_none Tryz.insSer (some ⟨g,0,none⟩) c (.func (.func 103) #[] #[]) w;refine (show Calls Tryz.prog 298 _ _ _ from h).mono ?_;rintro e w' ⟨rfl,rfl⟩;exact ⟨rfl,[],List.Perm.nil,List.Pairwise.nil,hO,Kp.refl _ _ _⟩
 ·obtain ⟨s0,hs0⟩:∃ s,s∈l:=by
   cases l with
   | nil=>exact (h0 rfl).elim
   | cons x l=>exact ⟨x,List.mem_cons_self⟩
  haveI:Inhabited {s:Ser // PS w g s}:=⟨⟨s0,hP s0 hs0⟩⟩
  obtain ⟨L,hL⟩:∃ L:List {s:Ser // PS w g s},L.map (·.1)=l:=⟨_,pmap_val l hP⟩;have hlen:L.length=l.length:=by rw [← hL,List.length_map]
  have hO':Ow w g 80 2 (some ⟨g,0,none⟩) L.toArray.size c (c2 (fun x:{s:Ser // PS w g s}=>fR x.1) (fun x=>hR x.1) L.toArray.toList):=by
   rw [List.size_toArray,List.toList_toArray,c2_val (f:=fR) (h:=hR) (fun x:{s:Ser // PS w g s}=>x.1) L,hL,hlen];exact hO
  obtain ⟨cs,hh,_⟩:=hO.heap;have hcon:=AnyQ.insertionSortCmpFunc Tryz.insSer 2 tyR szR (fun x:{s:Ser // PS w g s}=>[fR x.1,hR x.1]) (fun _=>rfl) (fun x v hv=>by simp at hv;rcases hv with rfl | rfl<;>rfl) (fun x y=>cmpLs x.1.labs y.1.labs) 103 #[] g 0 c 0 L.toArray.size L.toArray w egR (cmpLaysR w g _ _ c _ hO (by simpa using hlen)) (holds_ow hO') (lt_of_block hh) (Nat.zero_le _) (Nat.le_refl _) (by simp;omega);change Calls Tryz.prog 298 _ _ _ at hcon
  rw [List.size_toArray,hlen] at hcon;refine hcon.mono ?_;rintro e w' ⟨rfl,m,os,rfl⟩;obtain ⟨hp,hs⟩:=insertionSort_holds (lt:=ltOf fun x y:{s:Ser // PS w g s}=>cmpLs x.1.labs y.1.labs) (cmp3_Ls.swo fun x:{s:Ser // PS w g s}=>x.1.labs) L.toArray 0 l.length (Nat.zero_le _) (by simp [hlen]);generalize Sort.insertionSort (ltOf fun x y:{s:Ser // PS w g s}=>cmpLs x.1.labs y.1.labs) L.toArray 0 l.length=d' at *;have hd:d'.size=l.length:=by have:=hp.1;simpa [hlen] using this
  have hw:=sort_ow (α:={s:Ser // PS w g s}) (f:=fun x=>fR x.1) (h:=fun x=>hR x.1) (m:=m) hO hd os;refine ⟨rfl,d'.toList.map (·.1),?_,?_,?_,hw.2⟩
  ·have:=perm_of (d:=L.toArray) (d':=d') (by simpa [hlen] using hp);rw [List.toList_toArray] at this;rw [← hL];exact this.map _
  ·rw [List.pairwise_map];refine (sorted_of hs hd.symm).imp ?_;intro x y h h2;rw [(cmp3_Ls.lt (κ:=fun x:{s:Ser // PS w g s}=>x.1.labs)).2 h2] at h;cases h
  ·have:=hw.1;rw [c2_val (f:=fR) (h:=hR) (fun x:{s:Ser // PS w g s}=>x.1)] at this;exact this
set_option maxRecDepth 100000 in
theorem stableR_any (w:World) (g n c:Nat) (l:List Ser) (hn:n=l.length) (hm:n < 20) (hO:Ow w g 80 2 (some ⟨g,0,none⟩) n c (cR l)) (hP:∀ s∈l,PS w g s) :
  Calls Tryz.prog 246 #[.slice (some ⟨g,0,none⟩) n c,.int .i64 (n:Int),.func (.func 103) #[] #[]] w fun e w'=>e=.returned (.tuple #[])∧∃ l',l'.Perm l∧l'.Pairwise (fun x y=>¬ cmpLs y.labs x.labs = -1)∧Ow w' g 80 2 (some ⟨g,0,none⟩) n c (cR l')∧Kp g g w w':=by
 have HI:=hid (InsR_any w g n c l hn (by omega) hO hP);have h1:¬ (20:Int)≤(n:Int):=by omega
 have h2:¬ (20:Int) < (n:Int):=by omega
 clear hO hn hP;go_enter Tryz.func246,Tryz.ntmps246
 go_wp2;refine wp_loop_rounds 1 ?_;rw [rounds_succ];go_wp2_with (go_at_call 298;refine HI.out.mono ?_;rintro e w1 ⟨rfl,hR⟩)
 have HR:=hid hR;clear hR;refine wp_loop_rounds 1 ?_;rw [rounds_succ];go_wp2;go_end0
 exact ⟨rfl,HR.out⟩
end
section
open Go Go.Sort
section
variable {α:Type} [Inhabited α] {lt:α→α→Bool}
theorem eqAt {d:Array α} {x y:Nat} (h:x=y):d[x]! = d[y]!:=by rw [h]
def rot (d:Array α) (a m b p:Nat):α:=if a≤p∧p < a+(b - m) then d[p+(m - a)]! else if a+(b - m)≤p∧p < b then d[p - (b - m)]! else d[p]!
def exch (d:Array α) (a b n p:Nat):α:=if a≤p∧p < a+n then d[p+(b - a)]! else if b≤p∧p < b+n then d[p - (b - a)]! else d[p]!
structure Rot (d:Array α) (a m b:Nat) (d':Array α):Prop where
 perm:PermIn a b d d'
 at_:∀ p,d'[p]! = rot d a m b p
structure Exch (d:Array α) (a b n:Nat) (d':Array α):Prop where
 perm:∀ lo hi,lo≤a→b+n≤hi→hi≤d.size→PermIn lo hi d d'
 at_:∀ p,d'[p]! = exch d a b n p
theorem Exch.zero (d:Array α) (a b:Nat):Exch d a b 0 d:=by
 refine ⟨fun lo hi _ _ _=>permIn_refl _ _ _,fun p=>?_⟩;unfold exch;rw [if_neg (by omega),if_neg (by omega)]
theorem Exch.step {d d':Array α} {a b i n:Nat} (h:Exch d a b i d') (hab:a+n≤b) (hi:i < n) (hb:b+n≤d.size):Exch d a b (i+1) (swp d' (a+i) (b+i)):=by
 have hs:d'.size=d.size:=(h.perm 0 d.size (by omega) (by omega) (Nat.le_refl _)).1;refine ⟨fun lo hi' h1 h2 h3=>permIn_trans _ _ _ _ _ (h.perm lo hi' h1 (by omega) h3) (swp_permIn _ _ _ _ _ (by omega) (by omega) (by omega) (by omega) (by omega)),fun p=>?_⟩;rw [swp_get _ (by omega) (by omega),h.at_,h.at_,h.at_];unfold exch;by_cases h1:p=b+i
 ·subst h1;rw [if_pos rfl,if_neg (by omega),if_neg (by omega),if_neg (by omega),if_pos (by omega)];exact eqAt (by omega)
 ·rw [if_neg h1];by_cases h2:p=a+i
  ·subst h2;rw [if_pos rfl,if_neg (by omega),if_neg (by omega),if_pos (by omega)];exact eqAt (by omega)
  ·rw [if_neg h2];by_cases h3:a≤p∧p < a+i
   ·rw [if_pos h3,if_pos (by omega)]
   ·rw [if_neg h3,if_neg (c:=a≤p∧p < a+(i+1)) (by omega)];by_cases h4:b≤p∧p < b+i
    ·rw [if_pos h4,if_pos (by omega)]
    ·rw [if_neg h4,if_neg (by omega)]
theorem Rot.none {d:Array α} {a m b:Nat} (h:a=m∨b=m) (h1:a≤m) (h2:m≤b):Rot d a m b d:=by
 refine ⟨permIn_refl _ _ _,fun p=>?_⟩;unfold rot;rcases h with rfl | rfl
 ·rw [show a - a=0 by omega];by_cases h3:a≤p∧p < a+(b - a)
  ·rw [if_pos h3];rfl
  ·rw [if_neg h3,if_neg (by omega)]
 ·rw [if_neg (by omega),show b - b=0 by omega];by_cases h3:a+0≤p∧p < b
  ·rw [if_pos h3];rfl
  ·rw [if_neg h3]
theorem Rot.last {d d':Array α} {m i:Nat} (h:Exch d (m - i) m i d') (hi:i≤m) (hm:m+i≤d.size):Rot d (m - i) m (m+i) d':=by
 refine ⟨h.perm _ _ (Nat.le_refl _) (Nat.le_refl _) hm,fun p=>?_⟩;rw [h.at_];unfold rot exch;by_cases h1:m - i≤p∧p < m - i+i
 ·rw [if_pos h1,if_pos (by omega)]
 ·rw [if_neg h1,if_neg (c:=m - i≤p∧p < m - i+(m+i - m)) (by omega)];by_cases h2:m≤p∧p < m+i
  ·rw [if_pos h2,if_pos (by omega)];exact eqAt (by omega)
  ·rw [if_neg h2,if_neg (by omega)]
theorem rot_gt {d d':Array α} {m i j:Nat} (h:Exch d (m - i) m j d') (hj:j < i) (hi:i≤m) (p:Nat):rot d' (m - (i - j)) m (m+j) p=rot d (m - i) m (m+j) p:=by
 unfold rot;rw [h.at_,h.at_,h.at_];unfold exch;by_cases h1:m - i≤p∧p < m - i+j
 ·rw [if_neg (by omega),if_neg (by omega),if_pos h1,if_pos (by omega)]
 ·rw [if_neg (c:=m - i≤p∧p < m - i+(m+j - m)) (by omega)];by_cases h2:m - i+j≤p∧p < m - i+j+j
  ·rw [if_pos (by omega)];by_cases h3:p+(m - (m - (i - j))) < m
   ·exfalso;omega
   ·rw [if_neg (by omega),if_pos (by omega),if_pos (by omega)];exact eqAt (by omega)
  ·rw [if_neg (by omega)];by_cases h3:p < m+j
   ·by_cases h4:m - i≤p
    ·rw [if_pos (by omega),if_neg (by omega),if_neg (by omega),if_pos (by omega)]
    ·rw [if_neg (by omega),if_neg (by omega),if_neg (by omega),if_neg (by omega)]
   ·rw [if_neg (by omega),if_neg (by omega),if_neg (by omega),if_neg (by omega)]
theorem rot_lt {d d':Array α} {m i j:Nat} (h:Exch d (m - i) (m+j - i) i d') (hj:i < j) (hi:i≤m) (p:Nat):rot d' (m - i) m (m+(j - i)) p=rot d (m - i) m (m+j) p:=by
 unfold rot;rw [h.at_,h.at_,h.at_];unfold exch;by_cases h1:m - i≤p∧p < m - i+(j - i)
 ·rw [if_pos (by omega),if_pos (c:=m - i≤p∧p < m - i+(m+j - m)) (by omega)];by_cases h2:p+(m - (m - i)) < m
  ·exfalso;omega
  ·rw [if_neg (by omega),if_neg (by omega)]
 ·rw [if_neg (by omega)];by_cases h2:m - i+(j - i)≤p∧p < m+j - i
  ·rw [if_pos (by omega)];by_cases h3:p < m - i+j
   ·rw [if_pos (c:=m - i≤p∧p < m - i+(m+j - m)) (by omega),if_pos (by omega)];exact eqAt (by omega)
   ·exfalso;omega
  ·rw [if_neg (by omega)];by_cases h3:m+j - i≤p∧p < m+j
   ·rw [if_neg (by omega),if_pos (by omega),if_neg (by omega),if_pos (by omega)];exact eqAt (by omega)
   ·rw [if_neg (by omega),if_neg (by omega),if_neg (by omega),if_neg (by omega)]
theorem Rot.up {d d':Array α} {a k:Nat} (h:Rot d a (a+1) (k+1) d') (hk:a≤k) (hs:k+1 < d.size):Rot d a (a+1) (k+1+1) (swp d' k (k+1)):=by
 have hz:=h.perm.1;refine ⟨permIn_trans _ _ _ _ _ (permIn_mono _ _ _ _ _ _ (Nat.le_refl _) (by omega) (by omega) h.perm) (swp_permIn _ _ _ _ _ (by omega) (by omega) (by omega) (by omega) (by omega)),fun p=>?_⟩;rw [swp_get _ (by omega) (by omega),h.at_,h.at_,h.at_];unfold rot;by_cases h1:p=k+1
 ·subst h1;rw [if_pos rfl,if_neg (by omega),if_pos (by omega),if_neg (by omega),if_pos (by omega)];exact eqAt (by omega)
 ·rw [if_neg h1];by_cases h2:p=k
  ·subst h2;rw [if_pos rfl,if_neg (by omega),if_neg (by omega),if_pos (by omega)];exact eqAt (by omega)
  ·rw [if_neg h2];by_cases h3:a≤p∧p < k
   ·rw [if_pos (by omega),if_pos (by omega)]
   ·rw [if_neg (by omega),if_neg (by omega),if_neg (by omega),if_neg (by omega)]
theorem Rot.down {d d':Array α} {m k:Nat} (h:Rot d (k+1) m (m+1) d') (hk:k < m) (hs:m < d.size):Rot d k m (m+1) (swp d' (k+1) k):=by
 have hz:=h.perm.1;refine ⟨permIn_trans _ _ _ _ _ (permIn_mono _ _ _ _ _ _ (by omega) (Nat.le_refl _) (by omega) h.perm) (swp_permIn _ _ _ _ _ (by omega) (by omega) (by omega) (by omega) (by omega)),fun p=>?_⟩;rw [swp_get _ (by omega) (by omega),h.at_,h.at_,h.at_];unfold rot;by_cases h1:p=k
 ·subst h1;rw [if_pos rfl,if_pos (by omega),if_pos (by omega)];exact eqAt (by omega)
 ·rw [if_neg h1];by_cases h2:p=k+1
  ·subst h2;rw [if_pos rfl,if_neg (by omega),if_neg (by omega),if_neg (by omega),if_pos (by omega)];exact eqAt (by omega)
  ·rw [if_neg h2,if_neg (by omega),if_neg (c:=k≤p∧p < k+(m+1 - m)) (by omega)];by_cases h3:k+2≤p∧p < m+1
   ·rw [if_pos (by omega),if_pos (by omega)]
   ·rw [if_neg (by omega),if_neg (by omega)]
theorem srt_le (hS:SWO lt) {d:Array α} {a b i j:Nat} (h:SortedIn lt a b d) (h1:a≤i) (h2:i≤j) (h3:j < b):lt d[j]! d[i]! = false:=by
 rcases Nat.lt_or_eq_of_le h2 with h2 | rfl
 ·exact h i j h1 h2 h3
 ·exact hS.irrefl _
theorem SortedIn.sub {d:Array α} {a b a' b':Nat} (h:SortedIn lt a b d) (h1:a≤a') (h2:b'≤b):SortedIn lt a' b' d:=fun i j hi hij hj=>h i j (by omega) hij (by omega)
theorem SortedIn.same {d d':Array α} {a b lo hi:Nat} (h:SortedIn lt a b d) (hp:PermIn lo hi d d') (h1:b≤lo∨hi≤a):SortedIn lt a b d':=fun i j hi hij hj=>by
 rw [hp.2.1 i (by omega),hp.2.1 j (by omega)];exact h i j hi hij hj
section
variable {d d1:Array α} {a m b s e:Nat}
theorem rot_low (hR:Rot d s m e d1) {p:Nat} (hp:p < s):d1[p]! = d[p]!:=by rw [hR.at_];unfold rot;rw [if_neg (by omega),if_neg (by omega)]
theorem rot_left (hR:Rot d s m e d1) {p:Nat} (hp:s≤p) (hq:p < s+(e - m)):d1[p]! = d[p+(m - s)]!:=by rw [hR.at_];unfold rot;rw [if_pos (by omega)]
theorem rot_right (hR:Rot d s m e d1) {p:Nat} (hp:s+(e - m)≤p) (hq:p < e):d1[p]! = d[p - (e - m)]!:=by rw [hR.at_];unfold rot;rw [if_neg (by omega),if_pos (by omega)]
theorem rot_high (hR:Rot d s m e d1) {p:Nat} (hp:e≤p) (h2:s≤m) (h3:m≤e):d1[p]! = d[p]!:=by rw [hR.at_];unfold rot;rw [if_neg (by omega),if_neg (by omega)]
theorem rot_parts (hU:SortedIn lt a m d) (hV:SortedIn lt m b d) (h1:a≤s) (h2:s≤m) (h3:m≤e) (h4:e≤b) (hR:Rot d s m e d1):SortedIn lt a s d1∧SortedIn lt s (s+(e - m)) d1∧SortedIn lt (s+(e - m)) e d1∧SortedIn lt e b d1:=by
 refine ⟨fun i j hi hij hj=>?_,fun i j hi hij hj=>?_,fun i j hi hij hj=>?_,fun i j hi hij hj=>?_⟩
 ·rw [rot_low hR (p:=j) hj,rot_low hR (p:=i) (by omega)];exact hU i j (by omega) hij (by omega)
 ·rw [rot_left hR (p:=i) (by omega) (by omega),rot_left hR (p:=j) (by omega) hj];exact hV _ _ (by omega) (by omega) (by omega)
 ·rw [rot_right hR (p:=i) (by omega) (by omega),rot_right hR (p:=j) (by omega) hj];exact hU _ _ (by omega) (by omega) (by omega)
 ·rw [rot_high hR (p:=i) (by omega) (by omega) (by omega),rot_high hR (p:=j) (by omega) (by omega) (by omega)];exact hV _ _ (by omega) (by omega) (by omega)
theorem rot_cross (hU:SortedIn lt a m d) (hV:SortedIn lt m b d) (h1:a≤s) (h2:s≤m) (h3:m≤e) (h4:e≤b) (hR:Rot d s m e d1) (hS:SWO lt) (hA:s=a∨e=b∨lt d[e]! d[s - 1]! = false) (hB:s=m∨e=m∨lt d[s]! d[e - 1]! = false) (p q:Nat) (hp:a≤p) (hp2:p < s+(e - m)) (hq:s+(e - m)≤q) (hq2:q < b):lt d1[q]! d1[p]! = false:=by
 by_cases c1:p < s
 ·rw [rot_low hR c1];by_cases c2:q < e
  ·rw [rot_right hR hq c2];exact hU _ _ (by omega) (by omega) (by omega)
  ·rw [rot_high hR (by omega) (by omega) (by omega)];rcases hA with h | h | h
   ·exfalso;omega
   ·exfalso;omega
   ·exact hS.ntrans _ _ _ (hS.ntrans _ _ _ (srt_le hS hV (by omega) (show e≤q by omega) hq2) h) (srt_le hS hU hp (by omega) (by omega))
 ·rw [rot_left hR (by omega) hp2];by_cases c2:q < e
  ·rw [rot_right hR hq c2];rcases hB with h | h | h
   ·exfalso;omega
   ·exfalso;omega
   ·exact hS.ntrans _ _ _ (hS.ntrans _ _ _ (srt_le hS hU h1 (by omega) (by omega)) h) (srt_le hS hV (by omega) (by omega) (by omega))
  ·rw [rot_high hR (by omega) (by omega) (by omega)];exact hV _ _ (by omega) (by omega) (by omega)
theorem mer_of (hU:SortedIn lt a m d) (hV:SortedIn lt m b d) (h1:a≤s) (h2:s≤m) (h3:m≤e) (h4:e≤b) (hR:Rot d s m e d1) (hS:SWO lt) (hb:b≤d.size) (hA:s=a∨e=b∨lt d[e]! d[s - 1]! = false) (hB:s=m∨e=m∨lt d[s]! d[e - 1]! = false) {d2 d3:Array α} {mid:Nat} (hm:mid=s+(e - m))
  (p2:PermIn a mid d1 d2) (s2:SortedIn lt a mid d2) (p3:PermIn mid b d2 d3) (s3:SortedIn lt mid b d3):PermIn a b d d3∧SortedIn lt a b d3:=by
 have z1:=hR.perm.1;have z2:=p2.1;have hc:=rot_cross hU hV h1 h2 h3 h4 hR hS hA hB;subst hm;refine ⟨permIn_trans _ _ _ _ _ (permIn_mono _ _ _ _ _ _ h1 h4 hb hR.perm) (permIn_trans _ _ _ _ _ (permIn_mono _ _ _ _ _ _ (Nat.le_refl _) (by omega) (by omega) p2) (permIn_mono _ _ _ _ _ _ (by omega) (Nat.le_refl _) (by omega) p3)),fun i j hi hij hj=>?_⟩;by_cases c1:j < s+(e - m)
 ·rw [p3.2.1 i (by omega),p3.2.1 j (by omega)];exact s2 i j hi hij c1
 ·by_cases c2:s+(e - m)≤i
  ·exact s3 i j c2 hij hj
  ·rw [p3.2.1 i (by omega)];refine permIn_all d2 d3 _ b (fun x=>lt x d2[i]! = false) (by omega) p3 (fun q hq hq2=>?_) j (by omega) hj;rw [p2.2.1 q (by omega)];exact permIn_all d1 d2 a _ (fun x=>lt d1[q]! x=false) (by omega) p2 (fun p hp hp2=>hc p q hp hp2 hq hq2) i hi (by omega)
end
theorem mer_up (hS:SWO lt) {d d1:Array α} {a b i:Nat} (hV:SortedIn lt (a+1) b d) (hi:a+1≤i) (hib:i≤b) (hb:b≤d.size) (hA:i=a+1∨lt d[i - 1]! d[a]! = true) (hB:i=b∨lt d[i]! d[a]! = false) (hR:Rot d a (a+1) i d1):PermIn a b d d1∧SortedIn lt a b d1:=by
 have hU:SortedIn lt a (a+1) d:=fun x y h1 h2 h3=>by omega
 have hP:=rot_parts hU hV (Nat.le_refl a) (by omega) hi hib hR;refine mer_of hU hV (Nat.le_refl a) (by omega) hi hib hR hS hb (.inl rfl) ?_ (mid:=a+(i - (a+1))) rfl (permIn_refl _ _ _) hP.2.1 (permIn_refl _ _ _) (fun x y h1 h2 h3=>?_)
 ·rcases hA with h | h
  ·exact .inr (.inl h)
  ·exact .inr (.inr (hS.asymmA h))
 ·by_cases c:i≤x
  ·exact hP.2.2.2 x y c h2 h3
  ·rw [rot_right hR h1 (by omega),rot_high hR (by omega) (by omega) (by omega)];rcases hB with h | h
   ·exfalso;omega
   ·rw [show x - (i - (a+1))=a by omega];exact hS.ntrans _ _ _ (srt_le hS hV hi (by omega) h3) h
theorem mer_down (hS:SWO lt) {d d1:Array α} {a m i:Nat} (hU:SortedIn lt a m d) (hi:a≤i) (him:i≤m) (hb:m+1≤d.size) (hA:i=a∨lt d[m]! d[i - 1]! = false) (hB:i=m∨lt d[m]! d[i]! = true) (hR:Rot d i m (m+1) d1):PermIn a (m+1) d d1∧SortedIn lt a (m+1) d1:=by
 have hV:SortedIn lt m (m+1) d:=fun x y h1 h2 h3=>by omega
 have hP:=rot_parts hU hV hi him (by omega) (Nat.le_refl (m+1)) hR;refine mer_of hU hV hi him (by omega) (Nat.le_refl (m+1)) hR hS hb (.inr (.inl rfl)) ?_ (mid:=i+(m+1 - m)) rfl (permIn_refl _ _ _) (fun x y h1 h2 h3=>?_) (permIn_refl _ _ _) hP.2.2.1
 ·rcases hB with h | h
  ·exact .inl h
  ·refine .inr (.inr ?_);exact hS.asymmA h
 ·by_cases c:y < i
  ·exact hP.1 x y h1 h2 c
  ·rw [rot_low hR (p:=x) (by omega),rot_left hR (p:=y) (by omega) h3];rcases hA with h | h
   ·exfalso;omega
   ·rw [show y+(m - i)=m by omega];exact hS.ntrans _ _ _ h (srt_le hS hU h1 (by omega) (by omega))
def Blk (lt:α→α→Bool) (bs T n:Nat) (d:Array α):Prop:=∀ t,T≤t→SortedIn lt (t*bs) (min ((t+1)*bs) n) d
def Upto (lt:α→α→Bool) (bs T:Nat) (d:Array α):Prop:=∀ t,t < T→SortedIn lt (t*bs) ((t+1)*bs) d
theorem Upto.zero (bs:Nat) (d:Array α):Upto lt bs 0 d:=fun t h=>by omega
theorem mul_lt_of {t T bs:Nat} (h:t < T):(t+1)*bs≤T*bs:=Nat.mul_le_mul_right bs h
theorem Upto.step {bs T a b:Nat} {d d':Array α} (h:Upto lt bs T d) (ha:a=T*bs) (hb:b=a+bs) (hp:PermIn a b d d') (hs:SortedIn lt a b d'):Upto lt bs (T+1) d':=by
 subst ha hb;intro t ht;by_cases h1:t < T
 ·exact SortedIn.same (h t h1) hp (.inl (mul_lt_of h1))
 ·obtain rfl:t=T:=by omega
  rw [Nat.add_mul,Nat.one_mul];exact hs
theorem Upto.blk {bs T a n:Nat} {d d':Array α} (h:Upto lt bs T d) (ha:a=T*bs) (hn:n < a+bs) (hp:PermIn a n d d') (hs:SortedIn lt a n d'):Blk lt bs 0 n d':=by
 subst ha;intro t _;by_cases h1:t < T
 ·refine SortedIn.sub (SortedIn.same (h t h1) hp (.inl (mul_lt_of h1))) (Nat.le_refl _) (Nat.min_le_left _ _)
 ·by_cases h2:t=T
  ·subst h2;exact SortedIn.sub hs (Nat.le_refl _) (Nat.min_le_right _ _)
  ·intro i j hi hij hj;have:=mul_lt_of (bs:=bs) (show T < t by omega);rw [Nat.add_mul,Nat.one_mul] at this;have:=Nat.min_le_right ((t+1)*bs) n;omega
theorem Blk.all {bs n:Nat} {d:Array α} (h:Blk lt bs 0 n d) (hb:n≤bs):SortedIn lt 0 n d:=by
 have:=h 0 (Nat.le_refl _);rw [Nat.zero_mul,Nat.zero_add,Nat.one_mul,Nat.min_eq_right hb] at this;exact this
theorem Blk.one {bs T n a:Nat} {d:Array α} (h:Blk lt bs (2*T) n d) (ha:a=T*(2*bs)):SortedIn lt a (min (a+bs) n) d:=by
 have:=h (2*T) (Nat.le_refl _);have e:2*T*bs=T*(2*bs):=by rw [Nat.mul_comm 2 T,Nat.mul_assoc]
 rw [Nat.add_mul,Nat.one_mul,e,← ha] at this;exact this
theorem Blk.two {bs T n a:Nat} {d:Array α} (h:Blk lt bs (2*T) n d) (ha:a=T*(2*bs)):SortedIn lt (a+bs) (min (a+2*bs) n) d:=by
 have:=h (2*T+1) (by omega);have e:2*T*bs=T*(2*bs):=by rw [Nat.mul_comm 2 T,Nat.mul_assoc]
 rw [show 2*T+1+1=2*T+2 by omega,Nat.add_mul,Nat.add_mul,Nat.one_mul,e,← ha] at this;exact this
theorem Blk.step {bs T n a:Nat} {d d':Array α} (h:Blk lt bs (2*T) n d) (ha:a=T*(2*bs)) (hp:PermIn a (a+2*bs) d d'):Blk lt bs (2*(T+1)) n d':=by
 intro t ht;refine SortedIn.same (h t (by omega)) hp (.inr ?_);have e:2*T*bs=T*(2*bs):=by rw [Nat.mul_comm 2 T,Nat.mul_assoc]
 have:=Nat.mul_le_mul_right bs (show 2*T+2≤t by omega);rw [Nat.add_mul,e,← ha] at this;exact this
end
end
section
open Go Go.RowKit Go.Sort Go.Shelf
section
variable {α:Type} [Inhabited α] {f h:α→Value} {w0:World} {blk:Nat} {d0:Array α}
def enc2 {α:Type} (f h:α→Value):α→List Value:=fun x=>[f x,h x]
theorem at2 {dk:Array α} {W:World} (S:SWK (enc2 f h) 2 w0 blk 0 dk W) (R:RowK (enc2 f h) 2 w0 blk 0 d0) (hs:dk.size=d0.size) (i:Nat) (hi:i < dk.size) :
  W.cell? ⟨blk,i*2,none⟩=some (f dk[i]!)∧W.cell? ⟨blk,i*2+1,none⟩=some (h dk[i]!)∧W.frozen? ⟨blk,i*2,none⟩=false∧W.frozen? ⟨blk,i*2+1,none⟩=false:=by
 have hH:=S.holds R.hblk R.hH hs;have h1:=hH (i*2) (by rw [size_flatK];omega);have h2:=hH (i*2+1) (by rw [size_flatK];omega);rw [get_flatK _ _ _ _ (by omega),Nat.zero_add] at h1 h2;rw [show i*2 / 2=i by omega,show i*2 % 2=0 by omega] at h1;rw [show (i*2+1) / 2=i by omega,show (i*2+1) % 2=1 by omega] at h2;exact ⟨h1.1,h2.1,h1.2,h2.2⟩
theorem one2a (R:RowK (enc2 f h) 2 w0 blk 0 d0) (x:α):(f x).oneCell'=true:=R.h1 x _ (by unfold enc2;simp)
theorem one2b (R:RowK (enc2 f h) 2 w0 blk 0 d0) (x:α):(h x).oneCell'=true:=R.h1 x _ (by unfold enc2;simp)
omit [Inhabited α] in
theorem set2 (w:World) (p:Nat) (x:α):w.setCells blk p (enc2 f h x)=(w.setCell ⟨blk,p,none⟩ (f x)).setCell ⟨blk,p+1,none⟩ (h x):=rfl
end
end
section
open Go Go.RowKit Go.Sort Go.Shelf
section
variable {α:Type} [Inhabited α] {f h:α→Value} {w0:World} {blk:Nat} {d0:Array α}
set_option maxHeartbeats 4000000 in
set_option maxRecDepth 1000000 in
theorem swapRangeS_any (R:RowK (enc2 f h) 2 w0 blk 0 d0) (N:Nat) (hN:d0.size=N) (hM:N≤1000000000000) (g:Nat) (a b n cap:Nat) (d:Array α) (w:World) (hs:d.size=N) (S:SWK (enc2 f h) 2 w0 blk 0 d w) (hab:a+n≤b) (hb:b+n≤N) :
  Calls Tryz.prog 347 #[.slice (some ⟨blk,0,none⟩) N cap,.int .i64 (a:Int),.int .i64 (b:Int),.int .i64 (n:Int),.func (.func g) #[] #[]] w fun e w'=>e=.returned (.tuple #[])∧∃ d',Exch d a b n d'∧SWK (enc2 f h) 2 w0 blk 0 d' w':=by
 have S0:Aside (SWK (enc2 f h) 2 w0 blk 0 d w):=S;have HN:=hid hN;have mixed:Tryz.prog.follows .mixedOrders=true:=by kernel_rfl
 clear S hN;go_enter Tryz.func347,Tryz.ntmps347
 go_wp2;go_loopw [10] (fun s10 wr=>∃ (i:Nat) (dk:Array α),s10=.int .i64 i∧i≤n∧dk.size=N∧Aside (SWK (enc2 f h) 2 w0 blk 0 dk wr)∧Hid (Exch d a b i dk)) (fun s10 _=>n - (intOf s10).toNat)
 case atStart=>exact ⟨0,d,by go_num,by omega,hs,S0,hid (Exch.zero d a b)⟩
 case round =>
  clear S0;obtain ⟨i,dk,rfl,hi,hds,S1,HE⟩:=hrel;by_cases hlt:i < n
  ·have hltz:(i:Int) < (n:Int):=by omega
   have hN0:dk.size=d0.size:=by rw [HN.out,hds]
   go_wp2_with fail;have ea:((a:Int)+(i:Int):Int).toNat=a+i:=by omega
   have pa:(0:Int)≤(a:Int)+(i:Int):=by omega
   have ba:(a:Int)+(i:Int) < (N:Int):=by omega
   have ra:IntKind.i64.wrap ((a:Int)+(i:Int))=(a:Int)+(i:Int):=by rw [IntKind.wrap_i64];omega
   have ec:((b:Int)+(i:Int):Int).toNat=b+i:=by omega
   have pc:(0:Int)≤(b:Int)+(i:Int):=by omega
   have bc:(b:Int)+(i:Int) < (N:Int):=by omega
   have rc:IntKind.i64.wrap ((b:Int)+(i:Int))=(b:Int)+(i:Int):=by rw [IntKind.wrap_i64];omega
   have S2:Aside (SWK (enc2 f h) 2 w0 blk 0 (swp dk (a+i) (b+i)) ((wr.setCells blk (0+(a+i)*2) (enc2 f h dk[b+i]!)).setCells blk (0+(b+i)*2) (enc2 f h dk[a+i]!)).drew):=(S1.out.swap R.hk R.hblk (a+i) (b+i) (by omega) (by omega)).drew;rw [Nat.zero_add,Nat.zero_add,set2,set2] at S2;obtain ⟨xa,xb,xc,xd⟩:=at2 S1.out R (by omega) (a+i) (by omega);obtain ⟨ya,yb,yc,yd⟩:=at2 S1.out R (by omega) (b+i) (by omega);have oa:=one2a R dk[a+i]!;have ob:=one2b R dk[a+i]!;have oc:=one2a R dk[b+i]!;have od:=one2b R dk[b+i]!;generalize f dk[a+i]! = va at S2 xa oa;generalize h dk[a+i]! = vb at S2 xb ob;generalize f dk[b+i]! = vc at S2 ya oc;generalize h dk[b+i]! = vd at S2 yb od;have n1:¬ (a+i)*2=(b+i)*2:=by omega
   have n2:¬ (a+i)*2=(b+i)*2+1:=by omega
   have n3:¬ (a+i)*2+1=(b+i)*2:=by omega
   have n4:¬ (a+i)*2+1=(b+i)*2+1:=by omega
   have n5:¬ (b+i)*2=(a+i)*2:=by omega
   have n6:¬ (b+i)*2=(a+i)*2+1:=by omega
   have n7:¬ (b+i)*2+1=(a+i)*2:=by omega
   have n8:¬ (b+i)*2+1=(a+i)*2+1:=by omega
   have wc:∀ a m w,(store a vc m).run Tryz.prog w=stored Tryz.prog w a vc m:=fun a m w=>run_store _ w a _ m oc
   have wd:∀ a m w,(store a vd m).run Tryz.prog w=stored Tryz.prog w a vd m:=fun a m w=>run_store _ w a _ m od
   have wa:∀ a m w,(store a va m).run Tryz.prog w=stored Tryz.prog w a va m:=fun a m w=>run_store _ w a _ m oa
   have wb:∀ a m w,(store a vb m).run Tryz.prog w=stored Tryz.prog w a vb m:=fun a m w=>run_store _ w a _ m ob
   clear S1;go_wp2_with fail
   go_big_region_o
   clear wa wb wc wd xa xb xc xd ya yb yc yd oa ob oc od n1 n2 n3 n4 n5 n6 n7 n8 ea pa ba ra ec pc bc rc;generalize ((((wr.setCell ⟨blk,(a+i)*2,none⟩ vc).setCell ⟨blk,(a+i)*2+1,none⟩ vd).setCell ⟨blk,(b+i)*2,none⟩ va).setCell ⟨blk,(b+i)*2+1,none⟩ vb).drew=w2 at S2 ⊢;go_wp2;go_roundw
   case measure=>simp [intOf];omega
   case rel=>exact ⟨i+1,swp dk (a+i) (b+i),by go_num,by omega,by rw [size_swp];exact hds,S2,hid (HE.out.step hab hlt (by omega))⟩
  ·have hltz:¬ (i:Int) < (n:Int):=by omega
   obtain rfl:i=n:=by omega
   go_wp2;go_end0
   exact ⟨rfl,dk,HE.out,S1.out⟩
set_option maxHeartbeats 4000000 in
set_option maxRecDepth 1000000 in
theorem rotateS_any (R:RowK (enc2 f h) 2 w0 blk 0 d0) (N:Nat) (hN:d0.size=N) (hM:N≤1000000000000) (g:Nat) (a m b cap:Nat) (d:Array α) (w:World) (hs:d.size=N) (S:SWK (enc2 f h) 2 w0 blk 0 d w) (ham:a < m) (hmb:m < b) (hb:b≤N) :
  Calls Tryz.prog 328 #[.slice (some ⟨blk,0,none⟩) N cap,.int .i64 (a:Int),.int .i64 (m:Int),.int .i64 (b:Int),.func (.func g) #[] #[]] w fun e w'=>e=.returned (.tuple #[])∧∃ d',Rot d a m b d'∧SWK (enc2 f h) 2 w0 blk 0 d' w':=by
 have S0:Aside (SWK (enc2 f h) 2 w0 blk 0 d w):=S;have HN:=hid hN;have HS:=hid hs;clear S hN hs;have k1:IntKind.i64.wrap ((m:Int) - (a:Int))=(m:Int) - (a:Int):=by rw [IntKind.wrap_i64];omega
 have k2:IntKind.i64.wrap ((b:Int) - (m:Int))=(b:Int) - (m:Int):=by rw [IntKind.wrap_i64];omega
 go_enter Tryz.func328,Tryz.ntmps328
 go_wp2;go_loopw [10,11] (fun s10 s11 wr=>∃ (i j:Nat) (dk:Array α),s10=.int .i64 i∧s11=.int .i64 j∧1≤i∧i≤m - a∧1≤j∧j≤b - m∧Aside (SWK (enc2 f h) 2 w0 blk 0 dk wr)∧Hid (PermIn a b d dk)∧Hid (∀ p,rot dk (m - i) m (m+j) p=rot d a m b p)) (fun s10 s11 _=>(intOf s10).toNat+(intOf s11).toNat)
 case atStart =>
  refine ⟨m - a,b - m,d,by congr 1;omega,by congr 1;omega,by omega,by omega,by omega,by omega,S0,hid (permIn_refl _ _ _),hid fun p=>?_⟩;rw [show m - (m - a)=a by omega,show m+(b - m)=b by omega]
 case round =>
  clear S0 k1 k2;obtain ⟨i,j,dk,rfl,rfl,hi1,hi2,hj1,hj2,S1,HP,HR⟩:=hrel;have hds:dk.size=N:=HP.out.1.trans HS.out;have k1:IntKind.i64.wrap ((m:Int) - (i:Int))=(m:Int) - (i:Int):=by rw [IntKind.wrap_i64];omega
  have c1:((m - i:Nat):Int)=(m:Int) - (i:Int):=by omega
  rcases Nat.lt_trichotomy i j with hij | hij | hij
  ·have g1:((i:Int) != (j:Int))=true:=by rw [bne_iff_ne];omega
   have g2:¬ (j:Int) < (i:Int):=by omega
   have k2:IntKind.i64.wrap ((m:Int)+(j:Int))=(m:Int)+(j:Int):=by rw [IntKind.wrap_i64];omega
   have k3:IntKind.i64.wrap ((m:Int)+(j:Int) - (i:Int))=(m:Int)+(j:Int) - (i:Int):=by rw [IntKind.wrap_i64];omega
   have k4:IntKind.i64.wrap ((j:Int) - (i:Int))=(j:Int) - (i:Int):=by rw [IntKind.wrap_i64];omega
   have hc:=swapRangeS_any R N HN.out hM g (m - i) (m+j - i) i cap dk wr hds S1.out (by omega) (by omega);rw [c1,show ((m+j - i:Nat):Int)=(m:Int)+(j:Int) - (i:Int) by omega] at hc;clear c1;go_wp2_with (go_at_call 347;refine hc.mono ?_;rintro e w1 ⟨rfl,d',hE,S2⟩)
   go_roundw
   case rel=>exact ⟨i,j - i,d',rfl,by congr 1;omega,hi1,hi2,by omega,by omega,S2,hid (permIn_trans _ _ _ _ _ HP.out (hE.perm a b (by omega) (by omega) (by omega))),hid fun p=>(rot_lt hE hij (by omega) p).trans (HR.out p)⟩
   case measure=>simp [intOf];omega
  ·subst hij;have g1:((i:Int) != (i:Int))=false:=by rw [bne_eq_false_iff_eq]
   have hc:=swapRangeS_any R N HN.out hM g (m - i) m i cap dk wr hds S1.out (by omega) (by omega);rw [c1] at hc;clear c1;go_wp2_with (go_at_call 347;refine hc.mono ?_;rintro e w1 ⟨rfl,d',hE,S2⟩)
   go_end0
   exact ⟨rfl,d',⟨permIn_trans _ _ _ _ _ HP.out (hE.perm a b (by omega) (by omega) (by omega)),fun p=>((Rot.last hE (by omega) (by omega)).at_ p).trans (HR.out p)⟩,S2⟩
  ·have g1:((i:Int) != (j:Int))=true:=by rw [bne_iff_ne];omega
   have g2:(j:Int) < (i:Int):=by omega
   have k4:IntKind.i64.wrap ((i:Int) - (j:Int))=(i:Int) - (j:Int):=by rw [IntKind.wrap_i64];omega
   have hc:=swapRangeS_any R N HN.out hM g (m - i) m j cap dk wr hds S1.out (by omega) (by omega);rw [c1] at hc;clear c1;go_wp2_with (go_at_call 347;refine hc.mono ?_;rintro e w1 ⟨rfl,d',hE,S2⟩)
   go_roundw
   case rel=>exact ⟨i - j,j,d',by congr 1;omega,rfl,by omega,by omega,hj1,hj2,S2,hid (permIn_trans _ _ _ _ _ HP.out (hE.perm a b (by omega) (by omega) (by omega))),hid fun p=>(rot_gt hE hij (by omega) p).trans (HR.out p)⟩
   case measure=>simp [intOf];omega
end
end
section
open Go Go.RowKit Go.Sort Go.Shelf
section
variable {α:Type} [Inhabited α] {f h:α→Value} {w0:World} {blk:Nat} {d0:Array α}
set_option maxHeartbeats 8000000 in
set_option maxRecDepth 1000000 in
theorem symMergeAS_any (cf:α→α→Int) (hO:SWO (ltOf cf)) (hcmp:CmpLays Tryz.prog 167 #[] (enc2 f h) 2 cf blk 0 d0.size w0) (eg:∀ args w,(callFunc 167 args).run Tryz.prog w=.ok (.enter 167 args) w) (R:RowK (enc2 f h) 2 w0 blk 0 d0) (N:Nat) (hN:d0.size=N) (hM:N≤1000000000000) (cap:Nat) (a m b:Nat) (d:Array α) (w:World) (hs:d.size=N) (S:SWK (enc2 f h) 2 w0 blk 0 d w) (ham:a < m) (hmb:m < b) (hb:b≤N) (hU:SortedIn (ltOf cf) a m d) (hV:SortedIn (ltOf cf) m b d) (hA1:m≤a+1) :
  Calls Tryz.prog 296 #[.slice (some ⟨blk,0,none⟩) N cap,.int .i64 (a:Int),.int .i64 (m:Int),.int .i64 (b:Int),.func (.func 167) #[] #[]] w fun e w'=>e=.returned (.tuple #[])∧∃ d',(PermIn a b d d'∧SortedIn (ltOf cf) a b d')∧SWK (enc2 f h) 2 w0 blk 0 d' w':=by
 have S0:Aside (SWK (enc2 f h) 2 w0 blk 0 d w):=S;have HN:=hid hN;have HC:Aside _:=hcmp;have HOr:=hid hO;have HU:=hid hU;have HV:=hid hV;clear S hN hcmp hO hU hV;have mixed:Tryz.prog.follows .mixedOrders=true:=by kernel_rfl
 have hN0:d.size=d0.size:=by rw [HN.out,hs]
 have k1:IntKind.i64.wrap ((m:Int) - (a:Int))=(m:Int) - (a:Int):=by rw [IntKind.wrap_i64];omega
 have k2:IntKind.i64.wrap ((b:Int) - (m:Int))=(b:Int) - (m:Int):=by rw [IntKind.wrap_i64];omega
 have g1:(((m:Int) - (a:Int)) == 1)=true:=by rw [beq_iff_eq];omega
 go_enter Tryz.func296,Tryz.ntmps296
 go_wp2;go_loopw [10,11] (fun s10 s11 wr=>∃ (i j:Nat),s10=.int .i64 i∧s11=.int .i64 j∧m≤i∧i≤j∧j≤b∧Aside (SWK (enc2 f h) 2 w0 blk 0 d wr)∧Hid (i=m∨ltOf cf d[i - 1]! d[a]! = true)∧Hid (j=b∨ltOf cf d[j]! d[a]! = false)) (fun s10 s11 _=>(intOf s11).toNat - (intOf s10).toNat)
 case atStart=>exact ⟨m,b,rfl,rfl,Nat.le_refl _,by omega,Nat.le_refl _,S0,hid (.inl rfl),hid (.inl rfl)⟩
 case round =>
  clear S0 k1 k2 g1;obtain ⟨i,j,rfl,rfl,hi,hij,hj,S1,HI,HJ⟩:=hrel;by_cases hlt:i < j
  ·have hltz:(i:Int) < (j:Int):=by omega
   obtain ⟨q,hq⟩:∃ q,(i+j) / 2=q:=⟨_,rfl⟩;have q1:2*q≤i+j:=by omega
   have q2:i+j < 2*q+2:=by omega
   have k3:IntKind.i64.wrap ((i:Int)+(j:Int))=(i:Int)+(j:Int):=by rw [IntKind.wrap_i64];omega
   have k4:IntKind.u64.wrap ((i:Int)+(j:Int))=(i:Int)+(j:Int):=by rw [IntKind.wrap_u64];omega
   have k5:((i:Int)+(j:Int)) / 2=(q:Int):=by omega
   clear hq;cases hlv:ltOf cf d[q]! d[a]! with
   | true =>
    have HL:=hid hlv;have ea:((q:Int):Int).toNat=q:=by omega
    have pa:(0:Int)≤(q:Int):=by omega
    have ba:(q:Int) < (N:Int):=by omega
    have ra:IntKind.i64.wrap ((q:Int))=(q:Int):=by rw [IntKind.wrap_i64];omega
    have ec:((a:Int):Int).toNat=a:=by omega
    have pc:(0:Int)≤(a:Int):=by omega
    have bc:(a:Int) < (N:Int):=by omega
    have rc:IntKind.i64.wrap ((a:Int))=(a:Int):=by rw [IntKind.wrap_i64];omega
    obtain ⟨X,hX⟩:∃ x,x=d[q]!:=⟨_,rfl⟩;obtain ⟨Y,hY⟩:∃ x,x=d[a]!:=⟨_,rfl⟩;have xa:=fun n os=>(at2 (S1.out.grown n os) R (by omega) (q) (by omega)).1
    have xb:=fun n os=>(at2 (S1.out.grown n os) R (by omega) (q) (by omega)).2.1
    have ya:=fun n os=>(at2 (S1.out.grown n os) R (by omega) (a) (by omega)).1
    have yb:=fun n os=>(at2 (S1.out.grown n os) R (by omega) (a) (by omega)).2.1
    rw [← hX] at xa xb;rw [← hY] at ya yb;have hc:=S1.out.cmp HC.out (by omega) X Y;simp only [enc2,Array.append_empty] at hc;have hv:cf X Y < 0:=by rw [hX,hY];exact of_decide_eq_true hlv
    have hd:decide (cf X Y < 0)=true:=decide_eq_true hv;clear hX hY hlv;generalize f X=va at xa hc;generalize h X=vb at xb hc;generalize f Y=vc at ya hc;generalize h Y=vd at yb hc;generalize cf X Y=cv at hc hv hd;go_wp2_with fail
    go_quiet_grown (first | (go_at_fn 167;refine Calls.grown_of (hc _ _)))
    have S2:Aside (SWK (enc2 f h) 2 w0 blk 0 d (grow (wr.drewN nq) osq)):=S1.out.grown nq osq;clear xa xb ya yb hc S1;generalize grow (wr.drewN nq) osq=w2 at S2 ⊢;clear nq osq hv hd ea pa ba ra ec pc bc rc;go_wp2;go_roundw
    case rel=>exact ⟨q+1,j,by go_num,rfl,by omega,by omega,hj,S2,hid (.inr (by rw [Nat.add_sub_cancel];exact HL.out)),HJ⟩
    case measure=>simp [intOf];omega
   | false =>
    have HL:=hid hlv;have ea:((q:Int):Int).toNat=q:=by omega
    have pa:(0:Int)≤(q:Int):=by omega
    have ba:(q:Int) < (N:Int):=by omega
    have ra:IntKind.i64.wrap ((q:Int))=(q:Int):=by rw [IntKind.wrap_i64];omega
    have ec:((a:Int):Int).toNat=a:=by omega
    have pc:(0:Int)≤(a:Int):=by omega
    have bc:(a:Int) < (N:Int):=by omega
    have rc:IntKind.i64.wrap ((a:Int))=(a:Int):=by rw [IntKind.wrap_i64];omega
    obtain ⟨X,hX⟩:∃ x,x=d[q]!:=⟨_,rfl⟩;obtain ⟨Y,hY⟩:∃ x,x=d[a]!:=⟨_,rfl⟩;have xa:=fun n os=>(at2 (S1.out.grown n os) R (by omega) (q) (by omega)).1
    have xb:=fun n os=>(at2 (S1.out.grown n os) R (by omega) (q) (by omega)).2.1
    have ya:=fun n os=>(at2 (S1.out.grown n os) R (by omega) (a) (by omega)).1
    have yb:=fun n os=>(at2 (S1.out.grown n os) R (by omega) (a) (by omega)).2.1
    rw [← hX] at xa xb;rw [← hY] at ya yb;have hc:=S1.out.cmp HC.out (by omega) X Y;simp only [enc2,Array.append_empty] at hc;have hv:¬ cf X Y < 0:=by rw [hX,hY];exact of_decide_eq_false hlv
    have hd:decide (cf X Y < 0)=false:=decide_eq_false hv;clear hX hY hlv;generalize f X=va at xa hc;generalize h X=vb at xb hc;generalize f Y=vc at ya hc;generalize h Y=vd at yb hc;generalize cf X Y=cv at hc hv hd;go_wp2_with fail
    go_quiet_grown (first | (go_at_fn 167;refine Calls.grown_of (hc _ _)))
    have S2:Aside (SWK (enc2 f h) 2 w0 blk 0 d (grow (wr.drewN nq) osq)):=S1.out.grown nq osq;clear xa xb ya yb hc S1;generalize grow (wr.drewN nq) osq=w2 at S2 ⊢;clear nq osq hv hd ea pa ba ra ec pc bc rc;go_wp2;go_roundw
    case rel=>exact ⟨i,q,rfl,rfl,hi,by omega,by omega,S2,HI,hid (.inr HL.out)⟩
    case measure=>simp [intOf];omega
  ·have hltz:¬ (i:Int) < (j:Int):=by omega
   obtain rfl:i=j:=by omega
   go_wp2
   rename World=>wo
   go_loopw [13] (fun s13 wr=>∃ (k:Nat) (dk:Array α),s13=.int .i64 k∧a≤k∧k+1≤i∧dk.size=N∧Aside (SWK (enc2 f h) 2 w0 blk 0 dk wr)∧Hid (Rot d a (a+1) (k+1) dk)) (fun s13 _=>i - (intOf s13).toNat)
   case atStart=>exact ⟨a,d,rfl,Nat.le_refl _,by omega,hs,S1,hid (Rot.none (.inr rfl) (by omega) (Nat.le_refl _))⟩
   case round =>
    clear S1;obtain ⟨k,dk,rfl,hk,hki,hds,S1,HR⟩:=hrel;have k5:IntKind.i64.wrap ((i:Int) - 1)=(i:Int) - 1:=by rw [IntKind.wrap_i64];omega
    have hN0:dk.size=d0.size:=by rw [HN.out,hds]
    by_cases hlt2:k+1 < i
    ·have hltz2:(k:Int) < (i:Int) - 1:=by omega
     go_wp2_with fail;have ea:((k:Int):Int).toNat=k:=by omega
     have pa:(0:Int)≤(k:Int):=by omega
     have ba:(k:Int) < (N:Int):=by omega
     have ra:IntKind.i64.wrap ((k:Int))=(k:Int):=by rw [IntKind.wrap_i64];omega
     have ec:((k:Int)+1:Int).toNat=k+1:=by omega
     have pc:(0:Int)≤(k:Int)+1:=by omega
     have bc:(k:Int)+1 < (N:Int):=by omega
     have rc:IntKind.i64.wrap ((k:Int)+1)=(k:Int)+1:=by rw [IntKind.wrap_i64];omega
     have S2:Aside (SWK (enc2 f h) 2 w0 blk 0 (swp dk (k) (k+1)) ((wr.setCells blk (0+(k)*2) (enc2 f h dk[k+1]!)).setCells blk (0+(k+1)*2) (enc2 f h dk[k]!)).drew):=(S1.out.swap R.hk R.hblk (k) (k+1) (by omega) (by omega)).drew;rw [Nat.zero_add,Nat.zero_add,set2,set2] at S2;obtain ⟨xa,xb,xc,xd⟩:=at2 S1.out R (by omega) (k) (by omega);obtain ⟨ya,yb,yc,yd⟩:=at2 S1.out R (by omega) (k+1) (by omega);have oa:=one2a R dk[k]!;have ob:=one2b R dk[k]!;have oc:=one2a R dk[k+1]!;have od:=one2b R dk[k+1]!;generalize f dk[k]! = va at S2 xa oa;generalize h dk[k]! = vb at S2 xb ob;generalize f dk[k+1]! = vc at S2 ya oc;generalize h dk[k+1]! = vd at S2 yb od;have n1:¬ (k)*2=(k+1)*2:=by omega
     have n2:¬ (k)*2=(k+1)*2+1:=by omega
     have n3:¬ (k)*2+1=(k+1)*2:=by omega
     have n4:¬ (k)*2+1=(k+1)*2+1:=by omega
     have n5:¬ (k+1)*2=(k)*2:=by omega
     have n6:¬ (k+1)*2=(k)*2+1:=by omega
     have n7:¬ (k+1)*2+1=(k)*2:=by omega
     have n8:¬ (k+1)*2+1=(k)*2+1:=by omega
     have wc:∀ a m w,(store a vc m).run Tryz.prog w=stored Tryz.prog w a vc m:=fun a m w=>run_store _ w a _ m oc
     have wd:∀ a m w,(store a vd m).run Tryz.prog w=stored Tryz.prog w a vd m:=fun a m w=>run_store _ w a _ m od
     have wa:∀ a m w,(store a va m).run Tryz.prog w=stored Tryz.prog w a va m:=fun a m w=>run_store _ w a _ m oa
     have wb:∀ a m w,(store a vb m).run Tryz.prog w=stored Tryz.prog w a vb m:=fun a m w=>run_store _ w a _ m ob
     clear S1;go_wp2_with fail
     go_big_region_o
     clear wa wb wc wd xa xb xc xd ya yb yc yd oa ob oc od n1 n2 n3 n4 n5 n6 n7 n8 ea pa ba ra ec pc bc rc;generalize ((((wr.setCell ⟨blk,(k)*2,none⟩ vc).setCell ⟨blk,(k)*2+1,none⟩ vd).setCell ⟨blk,(k+1)*2,none⟩ va).setCell ⟨blk,(k+1)*2+1,none⟩ vb).drew=w2 at S2 ⊢;go_wp2;go_roundw
     case rel=>exact ⟨k+1,swp dk k (k+1),by go_num,by omega,by omega,by rw [size_swp];exact hds,S2,hid (HR.out.up hk (by omega))⟩
     case measure=>simp [intOf];omega
    ·have hltz2:¬ (k:Int) < (i:Int) - 1:=by omega
     go_wp2
     (try simp only [Exit.inBlock,Exit.then]);refine bodyPost_ret (results_none rfl _ _ _) rfl ?_
     have hR:=HR.out;have e1:k+1=i:=by omega
     have enc2':m=a+1:=by omega
     rw [e1] at hR;refine ⟨rfl,dk,mer_up HOr.out (by rw [← enc2'];exact HV.out) (by omega) hj (by omega) ?_ HJ.out hR,S1.out⟩;rcases HI.out with h1 | h1
     ·exact .inl (by omega)
     ·exact .inr h1
set_option maxHeartbeats 8000000 in
set_option maxRecDepth 1000000 in
theorem symMergeBS_any (cf:α→α→Int) (hO:SWO (ltOf cf)) (hcmp:CmpLays Tryz.prog 167 #[] (enc2 f h) 2 cf blk 0 d0.size w0) (eg:∀ args w,(callFunc 167 args).run Tryz.prog w=.ok (.enter 167 args) w) (R:RowK (enc2 f h) 2 w0 blk 0 d0) (N:Nat) (hN:d0.size=N) (hM:N≤1000000000000) (cap:Nat) (a m b:Nat) (d:Array α) (w:World) (hs:d.size=N) (S:SWK (enc2 f h) 2 w0 blk 0 d w) (ham:a < m) (hmb:m < b) (hb:b≤N) (hU:SortedIn (ltOf cf) a m d) (hV:SortedIn (ltOf cf) m b d) (hA1:¬ m≤a+1) (hB1:b≤m+1) :
  Calls Tryz.prog 296 #[.slice (some ⟨blk,0,none⟩) N cap,.int .i64 (a:Int),.int .i64 (m:Int),.int .i64 (b:Int),.func (.func 167) #[] #[]] w fun e w'=>e=.returned (.tuple #[])∧∃ d',(PermIn a b d d'∧SortedIn (ltOf cf) a b d')∧SWK (enc2 f h) 2 w0 blk 0 d' w':=by
 have S0:Aside (SWK (enc2 f h) 2 w0 blk 0 d w):=S;have HN:=hid hN;have HC:Aside _:=hcmp;have HOr:=hid hO;have HU:=hid hU;have HV:=hid hV;clear S hN hcmp hO hU hV;have mixed:Tryz.prog.follows .mixedOrders=true:=by kernel_rfl
 have hN0:d.size=d0.size:=by rw [HN.out,hs]
 have k1:IntKind.i64.wrap ((m:Int) - (a:Int))=(m:Int) - (a:Int):=by rw [IntKind.wrap_i64];omega
 have k2:IntKind.i64.wrap ((b:Int) - (m:Int))=(b:Int) - (m:Int):=by rw [IntKind.wrap_i64];omega
 have _:=ham;have g1:(((m:Int) - (a:Int)) == 1)=false:=by rw [beq_eq_false_iff_ne];omega
 have g2:(((b:Int) - (m:Int)) == 1)=true:=by rw [beq_iff_eq];omega
 go_enter Tryz.func296,Tryz.ntmps296
 go_wp2;go_loopw [14,15] (fun s14 s15 wr=>∃ (i j:Nat),s14=.int .i64 i∧s15=.int .i64 j∧a≤i∧i≤j∧j≤m∧Aside (SWK (enc2 f h) 2 w0 blk 0 d wr)∧Hid (i=a∨ltOf cf d[m]! d[i - 1]! = false)∧Hid (j=m∨ltOf cf d[m]! d[j]! = true)) (fun s14 s15 _=>(intOf s15).toNat - (intOf s14).toNat)
 case atStart=>exact ⟨a,m,rfl,rfl,Nat.le_refl _,by omega,Nat.le_refl _,S0,hid (.inl rfl),hid (.inl rfl)⟩
 case round =>
  clear S0 k1 k2 g1 g2;obtain ⟨i,j,rfl,rfl,hi,hij,hj,S1,HI,HJ⟩:=hrel;by_cases hlt:i < j
  ·have hltz:(i:Int) < (j:Int):=by omega
   obtain ⟨q,hq⟩:∃ q,(i+j) / 2=q:=⟨_,rfl⟩;have q1:2*q≤i+j:=by omega
   have q2:i+j < 2*q+2:=by omega
   have k3:IntKind.i64.wrap ((i:Int)+(j:Int))=(i:Int)+(j:Int):=by rw [IntKind.wrap_i64];omega
   have k4:IntKind.u64.wrap ((i:Int)+(j:Int))=(i:Int)+(j:Int):=by rw [IntKind.wrap_u64];omega
   have k5:((i:Int)+(j:Int)) / 2=(q:Int):=by omega
   clear hq;cases hlv:ltOf cf d[m]! d[q]! with
   | false =>
    have HL:=hid hlv;have ea:((m:Int):Int).toNat=m:=by omega
    have pa:(0:Int)≤(m:Int):=by omega
    have ba:(m:Int) < (N:Int):=by omega
    have ra:IntKind.i64.wrap ((m:Int))=(m:Int):=by rw [IntKind.wrap_i64];omega
    have ec:((q:Int):Int).toNat=q:=by omega
    have pc:(0:Int)≤(q:Int):=by omega
    have bc:(q:Int) < (N:Int):=by omega
    have rc:IntKind.i64.wrap ((q:Int))=(q:Int):=by rw [IntKind.wrap_i64];omega
    obtain ⟨X,hX⟩:∃ x,x=d[m]!:=⟨_,rfl⟩;obtain ⟨Y,hY⟩:∃ x,x=d[q]!:=⟨_,rfl⟩;have xa:=fun n os=>(at2 (S1.out.grown n os) R (by omega) (m) (by omega)).1
    have xb:=fun n os=>(at2 (S1.out.grown n os) R (by omega) (m) (by omega)).2.1
    have ya:=fun n os=>(at2 (S1.out.grown n os) R (by omega) (q) (by omega)).1
    have yb:=fun n os=>(at2 (S1.out.grown n os) R (by omega) (q) (by omega)).2.1
    rw [← hX] at xa xb;rw [← hY] at ya yb;have hc:=S1.out.cmp HC.out (by omega) X Y;simp only [enc2,Array.append_empty] at hc;have hv:¬ cf X Y < 0:=by rw [hX,hY];exact of_decide_eq_false hlv
    have hd:decide (cf X Y < 0)=false:=decide_eq_false hv;clear hX hY hlv;generalize f X=va at xa hc;generalize h X=vb at xb hc;generalize f Y=vc at ya hc;generalize h Y=vd at yb hc;generalize cf X Y=cv at hc hv hd;go_wp2_with fail
    go_quiet_grown (first | (go_at_fn 167;refine Calls.grown_of (hc _ _)))
    have S2:Aside (SWK (enc2 f h) 2 w0 blk 0 d (grow (wr.drewN nq) osq)):=S1.out.grown nq osq;clear xa xb ya yb hc S1;generalize grow (wr.drewN nq) osq=w2 at S2 ⊢;clear nq osq hv hd ea pa ba ra ec pc bc rc;go_wp2;go_roundw
    case rel=>exact ⟨q+1,j,by go_num,rfl,by omega,by omega,hj,S2,hid (.inr (by rw [Nat.add_sub_cancel];exact HL.out)),HJ⟩
    case measure=>simp [intOf];omega
   | true =>
    have HL:=hid hlv;have ea:((m:Int):Int).toNat=m:=by omega
    have pa:(0:Int)≤(m:Int):=by omega
    have ba:(m:Int) < (N:Int):=by omega
    have ra:IntKind.i64.wrap ((m:Int))=(m:Int):=by rw [IntKind.wrap_i64];omega
    have ec:((q:Int):Int).toNat=q:=by omega
    have pc:(0:Int)≤(q:Int):=by omega
    have bc:(q:Int) < (N:Int):=by omega
    have rc:IntKind.i64.wrap ((q:Int))=(q:Int):=by rw [IntKind.wrap_i64];omega
    obtain ⟨X,hX⟩:∃ x,x=d[m]!:=⟨_,rfl⟩;obtain ⟨Y,hY⟩:∃ x,x=d[q]!:=⟨_,rfl⟩;have xa:=fun n os=>(at2 (S1.out.grown n os) R (by omega) (m) (by omega)).1
    have xb:=fun n os=>(at2 (S1.out.grown n os) R (by omega) (m) (by omega)).2.1
    have ya:=fun n os=>(at2 (S1.out.grown n os) R (by omega) (q) (by omega)).1
    have yb:=fun n os=>(at2 (S1.out.grown n os) R (by omega) (q) (by omega)).2.1
    rw [← hX] at xa xb;rw [← hY] at ya yb;have hc:=S1.out.cmp HC.out (by omega) X Y;simp only [enc2,Array.append_empty] at hc;have hv:cf X Y < 0:=by rw [hX,hY];exact of_decide_eq_true hlv
    have hd:decide (cf X Y < 0)=true:=decide_eq_true hv;clear hX hY hlv;generalize f X=va at xa hc;generalize h X=vb at xb hc;generalize f Y=vc at ya hc;generalize h Y=vd at yb hc;generalize cf X Y=cv at hc hv hd;go_wp2_with fail
    go_quiet_grown (first | (go_at_fn 167;refine Calls.grown_of (hc _ _)))
    have S2:Aside (SWK (enc2 f h) 2 w0 blk 0 d (grow (wr.drewN nq) osq)):=S1.out.grown nq osq;clear xa xb ya yb hc S1;generalize grow (wr.drewN nq) osq=w2 at S2 ⊢;clear nq osq hv hd ea pa ba ra ec pc bc rc;go_wp2;go_roundw
    case rel=>exact ⟨i,q,rfl,rfl,hi,by omega,by omega,S2,HI,hid (.inr HL.out)⟩
    case measure=>simp [intOf];omega
  ·have hltz:¬ (i:Int) < (j:Int):=by omega
   obtain rfl:i=j:=by omega
   go_wp2
   rename World=>wo
   go_loopw [17] (fun s17 wr=>∃ (k:Nat) (dk:Array α),s17=.int .i64 k∧i≤k∧k≤m∧dk.size=N∧Aside (SWK (enc2 f h) 2 w0 blk 0 dk wr)∧Hid (Rot d k m (m+1) dk)) (fun s17 _=>(intOf s17).toNat)
   case atStart=>exact ⟨m,d,rfl,hj,Nat.le_refl _,hs,S1,hid (Rot.none (.inl rfl) (Nat.le_refl _) (by omega))⟩
   case round =>
    clear S1;obtain ⟨k,dk,rfl,hk,hki,hds,S1,HR⟩:=hrel;have hN0:dk.size=d0.size:=by rw [HN.out,hds]
    by_cases hlt2:i < k
    ·have hltz2:(i:Int) < (k:Int):=by omega
     obtain ⟨t,ht⟩:∃ t,k - 1=t:=⟨_,rfl⟩;have k5:(k:Int) - 1=(t:Int):=by omega
     have hR:=HR.out;have et:k=t+1:=by omega
     rw [et] at hR;have hD:=hR.down (by omega) (by omega);rw [← et] at hD;have HD:=hid hD;clear hR hD et ht;go_wp2_with fail;have ea:((k:Int):Int).toNat=k:=by omega
     have pa:(0:Int)≤(k:Int):=by omega
     have ba:(k:Int) < (N:Int):=by omega
     have ra:IntKind.i64.wrap ((k:Int))=(k:Int):=by rw [IntKind.wrap_i64];omega
     have ec:((t:Int):Int).toNat=t:=by omega
     have pc:(0:Int)≤(t:Int):=by omega
     have bc:(t:Int) < (N:Int):=by omega
     have rc:IntKind.i64.wrap ((t:Int))=(t:Int):=by rw [IntKind.wrap_i64];omega
     have S2:Aside (SWK (enc2 f h) 2 w0 blk 0 (swp dk (k) (t)) ((wr.setCells blk (0+(k)*2) (enc2 f h dk[t]!)).setCells blk (0+(t)*2) (enc2 f h dk[k]!)).drew):=(S1.out.swap R.hk R.hblk (k) (t) (by omega) (by omega)).drew;rw [Nat.zero_add,Nat.zero_add,set2,set2] at S2;obtain ⟨xa,xb,xc,xd⟩:=at2 S1.out R (by omega) (k) (by omega);obtain ⟨ya,yb,yc,yd⟩:=at2 S1.out R (by omega) (t) (by omega);have oa:=one2a R dk[k]!;have ob:=one2b R dk[k]!;have oc:=one2a R dk[t]!;have od:=one2b R dk[t]!;generalize f dk[k]! = va at S2 xa oa;generalize h dk[k]! = vb at S2 xb ob;generalize f dk[t]! = vc at S2 ya oc;generalize h dk[t]! = vd at S2 yb od;have n1:¬ (k)*2=(t)*2:=by omega
     have n2:¬ (k)*2=(t)*2+1:=by omega
     have n3:¬ (k)*2+1=(t)*2:=by omega
     have n4:¬ (k)*2+1=(t)*2+1:=by omega
     have n5:¬ (t)*2=(k)*2:=by omega
     have n6:¬ (t)*2=(k)*2+1:=by omega
     have n7:¬ (t)*2+1=(k)*2:=by omega
     have n8:¬ (t)*2+1=(k)*2+1:=by omega
     have wc:∀ a m w,(store a vc m).run Tryz.prog w=stored Tryz.prog w a vc m:=fun a m w=>run_store _ w a _ m oc
     have wd:∀ a m w,(store a vd m).run Tryz.prog w=stored Tryz.prog w a vd m:=fun a m w=>run_store _ w a _ m od
     have wa:∀ a m w,(store a va m).run Tryz.prog w=stored Tryz.prog w a va m:=fun a m w=>run_store _ w a _ m oa
     have wb:∀ a m w,(store a vb m).run Tryz.prog w=stored Tryz.prog w a vb m:=fun a m w=>run_store _ w a _ m ob
     clear S1;go_wp2_with fail
     go_big_region_o
     clear wa wb wc wd xa xb xc xd ya yb yc yd oa ob oc od n1 n2 n3 n4 n5 n6 n7 n8 ea pa ba ra ec pc bc rc;generalize ((((wr.setCell ⟨blk,(k)*2,none⟩ vc).setCell ⟨blk,(k)*2+1,none⟩ vd).setCell ⟨blk,(t)*2,none⟩ va).setCell ⟨blk,(t)*2+1,none⟩ vb).drew=w2 at S2 ⊢;go_wp2;go_roundw
     case rel=>exact ⟨t,swp dk k t,by go_num,by omega,by omega,by rw [size_swp];exact hds,S2,HD⟩
     case measure=>simp [intOf];omega
    ·have hltz2:¬ (i:Int) < (k:Int):=by omega
     obtain rfl:i=k:=by omega
     go_wp2
     (try simp only [Exit.inBlock,Exit.then]);refine bodyPost_ret (results_none rfl _ _ _) rfl ?_
     obtain rfl:b=m+1:=by omega
     exact ⟨rfl,dk,mer_down HOr.out HU.out hi hj (by omega) HI.out HJ.out HR.out,S1.out⟩
end
end
end Go.Proofs.YticphebaflnedaaGreatDoor
