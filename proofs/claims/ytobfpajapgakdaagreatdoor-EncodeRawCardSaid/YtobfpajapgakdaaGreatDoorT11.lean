/- Laws that the last text builds on. -/
import Derived.Test.YtobfpajapgakdaaGreatDoorT10
namespace Go.Proofs.YtobfpajapgakdaaGreatDoor
open Go.Lib(hid)
section
open Go Go.RowKit Go.Lib Go.Sort Go.Shelf
def datK (l:List (Nat × List Smpl)):List Nat:=l.flatMap fun p=>chunkB p.2
def lsK (l:List (Nat × List Smpl)) (j:Nat):List Nat:=(l.filter fun p=>p.1 == j).map fun p=>(chunkB p.2).length
theorem datK_snoc (l:List (Nat × List Smpl)) (p:Nat × List Smpl):datK (l++[p])=datK l++chunkB p.2:=by unfold datK;simp
theorem lsK_snoc (l:List (Nat × List Smpl)) (p:Nat × List Smpl):lsK (l++[p])=fun j=>if j=p.1 then lsK l j++[(chunkB p.2).length] else lsK l j:=by
 funext j
 unfold lsK;rw [List.filter_append,List.map_append];by_cases h:j=p.1
 ·subst h;simp
 ·have:(p.1 == j)=false:=by rw [beq_eq_false_iff_ne];exact fun e=>h e.symm
  simp [h,this]
theorem lsK_len (l:List (Nat × List Smpl)) (j:Nat):(lsK l j).length≤l.length:=by unfold lsK;rw [List.length_map];exact List.length_filter_le _ _
theorem datK_len {l:List (Nat × List Smpl)} (h:∀ p∈l,(chunkB p.2).length≤10000):(datK l).length≤10000*l.length:=by
 induction l with
 | nil=>simp [datK]
 | cons p l ih =>
  have h1:=h p List.mem_cons_self;have h2:=ih (fun q hq=>h q (List.mem_cons_of_mem _ hq));have e:datK (p::l)=chunkB p.2++datK l:=rfl;rw [e,List.length_append,List.length_cons];omega
theorem datK_keys (b:List BVal):∀ k,k≤b.length→datK (chKeys (b.take k))=datS (b.take k):=by
 intro k;induction k with
 | zero=>intro _;simp [chKeys,datK,datS]
 | succ k ih =>
  intro hk;have e:datS (b.take (k+1))=datS (b.take k)++(chunksL b[k].2).flatten:=by
   unfold datS;rw [List.take_succ_eq_append_getElem (show k < b.length by omega),List.flatMap_append];simp
  rw [chKeys_snoc (show k < b.length by omega),e,← ih (by omega)];unfold datK chunksL;rw [List.flatMap_append,List.flatMap_map];simp only [List.flatMap]
theorem datK_all (b:List BVal):datK (chKeys b)=datS b:=by
 have:=datK_keys b b.length (Nat.le_refl _)
 rwa [List.take_length] at this
theorem lsK_keys (b:List BVal):∀ (k:Nat) (hk:k≤b.length) (j:Nat) (hj:j < k),lsK (chKeys (b.take k)) j=lensL (b[j]'(by omega)).2:=by
 intro k;induction k with
 | zero=>intro _ j hj;omega
 | succ k ih =>
  intro hk j hj;have none:∀ m,m≤k→lsK (chKeys (b.take m)) k=[]:=by
   intro m hm;unfold lsK;rw [List.map_eq_nil_iff,List.filter_eq_nil_iff];intro p hp e;obtain ⟨h1,_⟩:=chKeys_of hp;rw [List.length_take] at h1;have:p.1=k:=by simpa using e
   omega
  have e0:lsK (chKeys (b.take (k+1))) j=lsK (chKeys (b.take k)) j++lsK ((partsL b[k].2).map fun z=>(k,z)) j:=by
   rw [chKeys_snoc (show k < b.length by omega)];unfold lsK;rw [List.filter_append,List.map_append]
  rw [e0];by_cases hjk:j=k
  ·subst hjk;rw [none _ (Nat.le_refl _),List.nil_append];unfold lsK lensL chunksL;rw [List.filter_map,List.map_map,List.map_map];rw [List.filter_eq_self.2 (by intro a _;simp)];rfl
  ·rw [ih (by omega) j (by omega)];have:lsK ((partsL b[k].2).map fun z=>(k,z)) j=[]:=by
    unfold lsK;rw [List.map_eq_nil_iff,List.filter_eq_nil_iff];intro p hp e;obtain ⟨z,_,rfl⟩:=List.mem_map.1 hp;simp at e;omega
   rw [this,List.append_nil]
theorem lsK_all (b:List BVal) {j:Nat} (hj:j < b.length):lsK (chKeys b) j=lensL b[j].2:=by
 have:=lsK_keys b b.length (Nat.le_refl _) j hj
 rwa [List.take_length] at this
theorem chKeys_len (b:List BVal):(chKeys b).length=(b.map fun s=>(partsL s.2).length).sum:=by
 unfold chKeys;rw [List.length_flatten];congr 1
 apply List.ext_getElem
 ·simp
 ·intro i h1 h2;simp
theorem chKeys_le (b:List BVal):(chKeys b).length≤(b.map fun s=>s.2.length).sum:=by
 rw [chKeys_len];induction b with
 | nil=>simp
 | cons x b ih =>
  have:=partsL_len x.2;simp only [List.map_cons,List.sum_cons];omega
theorem chKeys_chunk {b:List BVal} (hb:BlkV b) {p:Nat × List Smpl} (h:p∈chKeys b):p.1 < b.length∧1≤(chunkB p.2).length∧(chunkB p.2).length≤10000:=by
 obtain ⟨hk,hz⟩:=chKeys_of h;have:=partsL_mem hz;exact ⟨hk,chunkB_len this.1 this.2.1 ((hb.ok _ (List.getElem_mem hk)).part hz)⟩
def sec0 (b:List BVal):List Nat:=symEnc (symT (labsV b))
def sec1 (b:List BVal):List Nat:=recEnc (symT (labsV b)) (b.map recV)
def sec3 (b:List BVal):List Nat:=posEnc (symT (labsV b)) (posV b)
theorem SecI.recs {w W:World} {D LB LR:Nat} {l:List Ser} {dat:List Nat} {ls:Nat→List Nat} (h:SecI w W D LB LR l dat ls) (hok:∀ s∈l,SerOk w s) (hls:∀ j (hj:j < l.length),ls j=lensL l[j].smps) :
  ∃ recs:List RecS,l.length=recs.length∧Rd W LR (some ⟨LR,0,none⟩) (cRec recs)∧(∀ s∈recs,InRec W s)∧recs.map valR=(l.map valB).map recV:=by
 obtain ⟨R,cs,h1,h2,h3⟩:=h.row;refine ⟨l.mapIdx fun j s=>⟨s.labs,lensL s.smps,s.bl,s.al,s.cl,(R j).1,(R j).2.1,(R j).2.2⟩,by simp,?_,?_,?_⟩
 ·refine .inr ⟨0,rfl,lt_of_block h1,fun j u hu=>?_⟩;obtain ⟨hj,rfl⟩:=c2_of _ j u hu;have hj':j / 2 < l.length:=by simpa using hj
  obtain ⟨q1,q2⟩:=h2.2 (j / 2) hj';rw [hls _ hj'] at q2;simp only [List.getElem_mapIdx,Nat.zero_add,World.cell?,h1];rcases Nat.mod_two_eq_zero_or_one j with q | q
  ·rw [if_pos q];have:j / 2*2=j:=by omega
   rw [this] at q1;simpa using q1
  ·have q':¬ j % 2=0:=by omega
   rw [if_neg q'];have:j / 2*2+1=j:=by omega
   rw [this] at q2;simpa [q'] using q2
 ·intro s hs;obtain ⟨j,hj,rfl⟩:=List.mem_mapIdx.1 hs;refine ⟨(hok _ (List.getElem_mem hj)).1.rd.nw h.nw,?_⟩;have:=(h3.ow j hj).1.rd;rw [hls j hj] at this;exact this
 ·apply List.ext_getElem
  ·simp
  ·intro j h1 h2;simp [valR,recV,valB]
end
section
open Go Go.RowKit Go.Lib Go.Sort Go.Shelf
attribute [local go_sem] Oper.semAt_some
def normQ (QQ:Act→World→Prop):Exit→Act→World→Prop
 | .normal,a,w=>QQ a w
 | _,_,_=>False
theorem wp_norm {P:Program} {c:Code} {Q:Exit→Act→World→Prop} {a:Act} {w:World} (h:∀ QQ:Act→World→Prop,Hid (∀ a w,QQ a w=Q .normal a w)→c.wp P (normQ QQ) a w):c.wp P Q a w:=by
 refine Code.wp_mono ?_ (h (Q .normal) (hid fun _ _=>rfl));intro e a w hq;cases e with
 | normal=>exact hq
 | _=>exact hq.elim
def SecV (W:World) (b:List BVal) (v:Value):Prop :=
 ∃ (b0:Nat) (A0:Option Addr) (c0:Nat) (b1:Nat) (A1:Option Addr) (c1:Nat) (b2:Nat) (A2:Option Addr) (c2:Nat) (b3:Nat) (A3:Option Addr) (c3:Nat),
  v=.agg #[.slice A0 (sec0 b).length c0,.slice A1 (sec1 b).length c1,.slice A2 (datS b).length c2,.slice A3 (sec3 b).length c3] ∧
  Rd W b0 A0 (cN .u8 (sec0 b))∧Rd W b1 A1 (cN .u8 (sec1 b))∧Rd W b2 A2 (cN .u8 (datS b))∧Rd W b3 A3 (cN .u8 (sec3 b))
abbrev nil4:Value:=.agg #[.slice none 0 0,.slice none 0 0,.slice none 0 0,.slice none 0 0]
theorem results_ct {P:Program} {fn:Func} {p q:Tmp} {t1:TypeId} {u:Value} (h:fn.results=#[.cell p t1,.tmp q]) (tmps:Array Value) (w:World) (a:Addr) (hp:tmps.getD p undef=.pointer (some a))
  (h1:(loadVar t1 a).run P w=.ok u w):(results fn tmps).run P w=.ok (.tuple #[u,tmps.getD q undef]) w:=by
 simp only [Array.getD_eq_getD_getElem?] at hp;simp only [results,h];simp [Result.andThen,asAddr,hp,h1]
theorem run_load4 {W:World} {g:Nat} {a b c d:Value} {t:TypeId} (h:W.heap[g]? = some (.cells #[a,b,c,d] t (0,0))):(loadVar 34 ⟨g,0,none⟩).run Tryz.prog W=.ok (.agg #[a,b,c,d]) W:=by
 have c0:W.cell? ⟨g,0,none⟩=some a:=cell_at (k:=0) h;have c1:W.cell? ⟨g,1,none⟩=some b:=cell_at (k:=1) h;have c2:W.cell? ⟨g,2,none⟩=some c:=cell_at (k:=2) h;have c3:W.cell? ⟨g,3,none⟩=some d:=cell_at (k:=3) h;simp [loadVar,loadCells,loadCellsFrom,go_sem,c0,c1,c2,c3]
theorem set4_at {W:World} {g:Nat} {a b c d:Value} {t:TypeId} (h:W.heap[g]? = some (.cells #[a,b,c,d] t (0,0))) (a' b' c' d':Value) :
  ((((W.setCell ⟨g,0,none⟩ a').setCell ⟨g,1,none⟩ b').setCell ⟨g,2,none⟩ c').setCell ⟨g,3,none⟩ d').heap[g]? = some (.cells #[a',b',c',d'] t (0,0)):=by
 have:=set_at (k:=3) d' (set_at (k:=2) c' (set_at (k:=1) b' (set_at (k:=0) a' h)));simpa using this
theorem set4_kp (W:World) (g:Nat) (a' b' c' d':Value):Kp g g W ((((W.setCell ⟨g,0,none⟩ a').setCell ⟨g,1,none⟩ b').setCell ⟨g,2,none⟩ c').setCell ⟨g,3,none⟩ d') :=
 ((((Kp.refl g g W).setCell' (p:=⟨g,0,none⟩) (.inl rfl) _).setCell' (p:=⟨g,1,none⟩) (.inl rfl) _).setCell' (p:=⟨g,2,none⟩) (.inl rfl) _).setCell' (p:=⟨g,3,none⟩) (.inl rfl) _
theorem labs_le {l:List Ser} {s:Ser} (hs:s∈l):s.labs.length≤(labsOf l).length:=by
 have:=(le_sumV (List.mem_map.2 ⟨s,hs,rfl⟩:valB s∈l.map valB)).2
 rwa [labsV_val] at this
set_option maxRecDepth 100000 in
set_option maxHeartbeats 1000000 in
theorem SectionsE_err (w:World) (b:Nat) (A:Option Addr) (n c:Nat) (l:List Ser) (hI:InSer w b A n c l) (hf:Fits l) (h0:blkE l≠0) :
  Calls Tryz.prog 14 #[.slice A n c] w fun e w'=>e=.returned (.tuple #[nil4,.int .i64 (blkE l:Nat)])∧Nw w w':=by
 have hfl:=hf.1;have hfs:=hf.2.1;have hln:=hI.len;subst hln;have hL:=hf.2.2.1;have HC:Hid (∀ W,Nw w W→Calls Tryz.prog 27 #[.slice A l.length c] W fun e w'=>e=.returned (.int .i64 (blkE l:Nat))∧Nw W w'):=hid fun W hW =>
  Check_any W b A l.length c l (hI.nw hW) (by omega) (by omega) (fun s hs=>by
   have:=labs_le hs;omega)
 obtain ⟨E,hE⟩:∃ E,blkE l=E:=⟨_,rfl⟩;rw [hE] at h0 HC ⊢;have hE1:((E:Int) != 0)=true:=by rw [bne_iff_ne];omega
 clear hI hf hE;have hbx:=heap_alloc_new w (.cells #[.slice none 0 0,.slice none 0 0,.slice none 0 0,.slice none 0 0] 34);have hN1:Nw w (w.alloc (.cells #[.slice none 0 0,.slice none 0 0,.slice none 0 0,.slice none 0 0] 34)):=(Nw.refl w).alloc' _;have HBX:=hid hbx;have HN1:=hid hN1;clear hbx hN1;refine (callsIn_wide (n:=6)).1 ?_;refine callsIn_of_wp_marks Tryz.func14 rfl trivial ?_ rfl;simp only [Tryz.ntmps14,List.size_toArray,List.length_cons,List.length_nil,Nat.reduceAdd,Nat.reduceSub,Array.replicate_succ,Array.replicate_zero,List.push_toArray,List.append_toArray,List.nil_append,List.cons_append]
 gi_wp2_with fail
 refine ⟨trivial,?_⟩;refine (callsIn_wide.2 (HC.out _ HN1.out)).mono ?_;rintro e w2 ⟨rfl,hN2⟩;have e2:=(hN2.block _ (lt_of_block HBX.out)).trans HBX.out;have f0:w2.frozen? ⟨w.heap.size,0,none⟩=false:=at_free e2;have f1:w2.frozen? ⟨w.heap.size,1,none⟩=false:=at_free e2;have f2:w2.frozen? ⟨w.heap.size,2,none⟩=false:=at_free e2;have f3:w2.frozen? ⟨w.heap.size,3,none⟩=false:=at_free e2;have c0:=cell_at (k:=0) e2;have c1:=cell_at (k:=1) e2;have c2:=cell_at (k:=2) e2;have c3:=cell_at (k:=3) e2;have E2:=hid e2;have HN2:=hid (HN1.out.trans hN2);clear e2 hN2
 gi_wp2_with fail
 exact ⟨_,results_ct (u:=nil4) rfl _ _ ⟨w.heap.size,0,none⟩ rfl (run_load4 (set4_at E2.out _ _ _ _)),rfl,Kp.nw HN2.out (set4_kp _ _ _ _ _ _) (Nat.le_refl _) (Nat.le_refl _)⟩
theorem E_rec:ElemT Tryz.prog 56 60 (.agg #[.slice none 0 0,.slice none 0 0]) 2 48:=ElemT.mk' Tryz.underlying56 (by kernel_rfl) rfl (by omega)
theorem E_set:ElemT Tryz.prog 57 48 (.slice none 0 0) 1 24:=ElemT.mk' Tryz.underlying57 (by kernel_rfl) rfl (by omega)
theorem make_rec (W:World) (n:Nat) (h:n≤1000):(Instr.makeSlice 56 (.int .i64 (n:Int)) (.int .i64 (n:Int))).run Tryz.prog W=.ok (.slice (some ⟨W.heap.size,0,none⟩) n n) (W.alloc (.cells (madeCells #[.slice none 0 0,.slice none 0 0] (n*2)) 60)):=by
 obtain ⟨i0,hi,hz0,hz1,hz2⟩:=E_rec.info;have:=run_make (P:=Tryz.prog) (w:=W) 56 60 i0 (.agg #[.slice none 0 0,.slice none 0 0]) Tryz.underlying56 hi hz0 .i64 .i64 n n (by omega) (by omega) (by rw [hz2];omega) (by omega);rw [hz1,show Value.cells (.agg #[.slice none 0 0,.slice none 0 0])=#[.slice none 0 0,.slice none 0 0] from rfl] at this;simp only [Int.toNat_natCast] at this;exact this
theorem make_set (W:World) (n:Nat) (h:n≤1000):(Instr.makeSlice 57 (.int .i64 (n:Int)) (.int .i64 (n:Int))).run Tryz.prog W=.ok (.slice (some ⟨W.heap.size,0,none⟩) n n) (W.alloc (.cells (madeCells #[.slice none 0 0] n) 48)):=by
 obtain ⟨i0,hi,hz0,hz1,hz2⟩:=E_set.info;have:=run_make (P:=Tryz.prog) (w:=W) 57 48 i0 (.slice none 0 0) Tryz.underlying57 hi hz0 .i64 .i64 n n (by omega) (by omega) (by rw [hz2];omega) (by omega);rw [hz1] at this;simpa [Value.cells] using this
structure FillI (w W:World) (s:Nat) (l:List Ser) (k:Nat):Prop where
 nw:Nw w W
 lo:w.heap.size < s
 res:W.heap[w.heap.size]? = some (.cells #[.slice none 0 0,.slice none 0 0,.slice none 0 0,.slice none 0 0] 34 (0,0))
 dat:W.heap[s]? = some (.cells #[.slice none 0 0] 25 (0,0))
 box:W.heap[s+2]? = some (.cells #[.slice (some ⟨s+1,0,none⟩) l.length l.length] 56 (0,0))
 row:∃ cs:Array Value,W.heap[s+1]? = some (.cells cs 60 (0,0))∧cs.size=l.length*2∧∀ j (h:j < l.length),cs[j*2]? = some (if j < k then .slice l[j].al l[j].labs.length l[j].cl else .slice none 0 0)∧cs[j*2+1]? = some (.slice none 0 0)
 set:∃ ds:Array Value,W.heap[s+3]? = some (.cells ds 48 (0,0))∧ds.size=l.length∧∀ j (h:j < l.length),ds[j]? = some (if j < k then .slice l[j].al l[j].labs.length l[j].cl else .slice none 0 0)
theorem made_at (zs:Array Value) (n j:Nat) (h:j < n):(madeCells zs n)[j]? = some zs[j % zs.size]!:=by
 have:(Array.range n)[j]? = some j:=by simp [h]
 unfold madeCells;rw [Array.getElem?_map,this];rfl
theorem FillI.start {w w2:World} {l:List Ser} (hN:Nw w w2) (hr:w2.heap[w.heap.size]? = some (.cells #[.slice none 0 0,.slice none 0 0,.slice none 0 0,.slice none 0 0] 34 (0,0))) :
  FillI w ((((w2.alloc (.cells #[.slice none 0 0] 25)).alloc (.cells (madeCells #[.slice none 0 0,.slice none 0 0] (l.length*2)) 60)).alloc (.cells #[.slice (some ⟨w2.heap.size+1,0,none⟩) l.length l.length] 56)).alloc (.cells (madeCells #[.slice none 0 0] l.length) 48)) w2.heap.size l 0:=by
 have k4:∀ (a b c d:Obj),((((w2.alloc a).alloc b).alloc c).alloc d).heap[w2.heap.size]? = some a∧((((w2.alloc a).alloc b).alloc c).alloc d).heap[w2.heap.size+1]? = some b∧((((w2.alloc a).alloc b).alloc c).alloc d).heap[w2.heap.size+2]? = some c∧((((w2.alloc a).alloc b).alloc c).alloc d).heap[w2.heap.size+3]? = some d:=by
  intro a b c d;have s1:(w2.alloc a).heap.size=w2.heap.size+1:=by simp
  have s2:((w2.alloc a).alloc b).heap.size=w2.heap.size+2:=by simp
  have s3:(((w2.alloc a).alloc b).alloc c).heap.size=w2.heap.size+3:=by simp
  refine ⟨?_,?_,?_,?_⟩
  ·exact (heap_alloc_old _ _ (by omega)).trans ((heap_alloc_old _ _ (by omega)).trans ((heap_alloc_old _ _ (by omega)).trans (heap_alloc_new w2 a)))
  ·have:=heap_alloc_new (w2.alloc a) b;rw [s1] at this;exact (heap_alloc_old _ _ (by omega)).trans ((heap_alloc_old _ _ (by omega)).trans this)
  ·have:=heap_alloc_new ((w2.alloc a).alloc b) c;rw [s2] at this;exact (heap_alloc_old _ _ (by omega)).trans this
  ·have:=heap_alloc_new (((w2.alloc a).alloc b).alloc c) d;rw [s3] at this;exact this
 have hl:=lt_of_block hr;obtain ⟨h1,h2,h3,h4⟩:=k4 (.cells #[.slice none 0 0] 25) (.cells (madeCells #[.slice none 0 0,.slice none 0 0] (l.length*2)) 60) (.cells #[.slice (some ⟨w2.heap.size+1,0,none⟩) l.length l.length] 56) (.cells (madeCells #[.slice none 0 0] l.length) 48);refine ⟨(((hN.alloc' _).alloc' _).alloc' _).alloc' _,hl,?_,h1,h3,⟨_,h2,by simp [madeCells],fun j hj=>⟨?_,?_⟩⟩,⟨_,h4,by simp [madeCells],fun j hj=>?_⟩⟩
 ·exact ((((Nw.refl w2).alloc' _).alloc' _).alloc' _).alloc' _ |>.block _ hl |>.trans hr
 ·rw [made_at _ _ _ (by omega)];simp [show j*2 % 2=0 by omega]
 ·rw [made_at _ _ _ (by omega)];simp [show (j*2+1) % 2=1 by omega]
 ·rw [made_at _ _ _ hj];simp [Nat.mod_one]
theorem FillI.keep {w W W':World} {s:Nat} {l:List Ser} {k:Nat} (h:FillI w W s l k) (hN:Nw W W'):FillI w W' s l k:=by
 have kb:∀ {g:Nat} {o:Obj},W.heap[g]? = some o→W'.heap[g]? = some o:=fun h=>(hN.block _ (lt_of_block h)).trans h
 obtain ⟨cs,h1,h2⟩:=h.row;obtain ⟨ds,h3,h4⟩:=h.set;exact ⟨h.nw.trans hN,h.lo,kb h.res,kb h.dat,kb h.box,⟨cs,kb h1,h2⟩,⟨ds,kb h3,h4⟩⟩
theorem FillI.step {w W:World} {s:Nat} {l:List Ser} {k:Nat} (h:FillI w W s l k) (hk:k < l.length) :
  FillI w ((W.setCell ⟨s+1,k*2,none⟩ (.slice l[k].al l[k].labs.length l[k].cl)).setCell ⟨s+3,k,none⟩ (.slice l[k].al l[k].labs.length l[k].cl)) s l (k+1):=by
 obtain ⟨cs,h1,h2,h2'⟩:=h.row;obtain ⟨ds,h3,h4,h4'⟩:=h.set;have hlo:=h.lo;have ka:Kp (s+1) (s+1) W (W.setCell ⟨s+1,k*2,none⟩ (.slice l[k].al l[k].labs.length l[k].cl)):=(Kp.refl _ _ _).setCell' (p:=⟨s+1,k*2,none⟩) (.inl rfl) _;have kb:Kp (s+3) (s+3) (W.setCell ⟨s+1,k*2,none⟩ (.slice l[k].al l[k].labs.length l[k].cl)) ((W.setCell ⟨s+1,k*2,none⟩ (.slice l[k].al l[k].labs.length l[k].cl)).setCell ⟨s+3,k,none⟩ (.slice l[k].al l[k].labs.length l[k].cl)):=(Kp.refl _ _ _).setCell' (p:=⟨s+3,k,none⟩) (.inl rfl) _;have old:∀ {g:Nat} {o:Obj},W.heap[g]? = some o→g≠s+1→g≠s+3→((W.setCell ⟨s+1,k*2,none⟩ (.slice l[k].al l[k].labs.length l[k].cl)).setCell ⟨s+3,k,none⟩ (.slice l[k].al l[k].labs.length l[k].cl)).heap[g]? = some o:=fun hg e1 e2 =>
  (kb.block _ (Nat.lt_of_lt_of_le (lt_of_block hg) ka.size) e2 e2).trans ((ka.block _ (lt_of_block hg) e1 e1).trans hg)
 refine ⟨Kp.nw (Kp.nw h.nw ka (by omega) (by omega)) kb (by omega) (by omega),hlo,old h.res (by omega) (by omega),old h.dat (by omega) (by omega),old h.box (by omega) (by omega),⟨cs.setIfInBounds (k*2) (.slice l[k].al l[k].labs.length l[k].cl),?_,by rw [Array.size_setIfInBounds];exact h2,fun j hj=>⟨?_,?_⟩⟩,⟨ds.setIfInBounds k (.slice l[k].al l[k].labs.length l[k].cl),?_,by rw [Array.size_setIfInBounds];exact h4,fun j hj=>?_⟩⟩
 ·have q:=set_at (k:=k*2) (.slice l[k].al l[k].labs.length l[k].cl) h1;exact (kb.block _ (lt_of_block q) (by omega) (by omega)).trans q
 ·by_cases e:j=k
  ·subst e;rw [Array.getElem?_setIfInBounds_self_of_lt (by omega),if_pos (by omega)]
  ·rw [Array.getElem?_setIfInBounds_ne (by omega),(h2' j hj).1];by_cases e2:j < k
   ·rw [if_pos e2,if_pos (by omega)]
   ·rw [if_neg e2,if_neg (by omega)]
 ·rw [Array.getElem?_setIfInBounds_ne (by omega)];exact (h2' j hj).2
 ·have q:=(ka.block _ (lt_of_block h3) (by omega) (by omega)).trans h3;exact set_at (k:=k) _ q
 ·by_cases e:j=k
  ·subst e;rw [Array.getElem?_setIfInBounds_self_of_lt (by omega),if_pos (by omega)]
  ·rw [Array.getElem?_setIfInBounds_ne (by omega),h4' j hj];by_cases e2:j < k
   ·rw [if_pos e2,if_pos (by omega)]
   ·rw [if_neg e2,if_neg (by omega)]
def SetI (W:World) (b:Nat) (l:List Ser):Prop:=∃ ds:Array Value,W.heap[b]? = some (.cells ds 48 (0,0))∧ds.size=l.length∧∀ j (h:j < l.length),ds[j]? = some (.slice l[j].al l[j].labs.length l[j].cl)
theorem FillI.sets {w W:World} {s:Nat} {l:List Ser} (h:FillI w W s l l.length):SetI W (s+3) l:=by
 obtain ⟨ds,h3,h4,h4'⟩:=h.set;refine ⟨ds,h3,h4,fun j hj=>?_⟩;rw [h4' j hj,if_pos hj]
theorem FillI.sec {w W:World} {s:Nat} {l:List Ser} (h:FillI w W s l l.length):SecI w W s (s+2) (s+1) l [] (fun _=>[]):=by
 have hlo:=h.lo;obtain ⟨cs,h1,h2,h2'⟩:=h.row;refine ⟨h.nw,by omega,by omega,by omega,h.box,⟨0,none,0,h.dat,Ow.nil _ _ _ _,.inl rfl⟩,⟨fun _=>(0,none,0),cs,h1,⟨h2,fun j hj=>?_⟩,⟨fun j hj=>⟨Ow.nil _ _ _ _,.inl rfl⟩,fun _ _ _ _ _=>.inl rfl⟩⟩⟩;have:=h2' j hj;rw [if_pos hj] at this;exact this
structure SecJ (w W:World) (s G:Nat) (l:List Ser) (ks:List (Nat × List Smpl)):Prop where
 sec:SecI w W s (s+2) (s+1) l (datK ks) (lsK ks)
 set:SetI W (s+3) l
 res:W.heap[w.heap.size]? = some (.cells #[.slice none 0 0,.slice none 0 0,.slice none 0 0,.slice none 0 0] 34 (0,0))
 add:W.heap[G]? = some (.cells #[.func (.func 28) #[] #[.pointer (some ⟨s,0,none⟩),.pointer (some ⟨s+2,0,none⟩)]] 61 (0,0))
 mem:∀ p∈ks,p∈chKeys (l.map valB)
theorem SetI.keep {W W':World} {b:Nat} {l:List Ser} (h:SetI W b l) {T:List TypeId} (hk:KtyC T W W') (hT:48 ∉ T):SetI W' b l:=by
 obtain ⟨ds,h1,h2⟩:=h;exact ⟨ds,hk _ _ _ _ h1 hT,h2⟩
theorem SecJ.keep {w W W':World} {s G:Nat} {l:List Ser} {ks:List (Nat × List Smpl)} (h:SecJ w W s G l ks) (hk:KeepC W W') (hN:Nw w W'):SecJ w W' s G l ks :=
 ⟨h.sec.keep hk hN,h.set.keep (T:=[]) (fun k cs e fr hh _=>hk.1 k cs e fr hh) (by simp),hk.1 _ _ _ _ h.res,hk.1 _ _ _ _ h.add,h.mem⟩
theorem SecJ.bides {w:World} {s G N0:Nat} {l:List Ser} {ks:List (Nat × List Smpl)} (h0:w.heap.size≤N0):BidesV N0 fun W=>SecJ w W s G l ks:=by
 rintro A B k h hk (hN | ⟨h1,o,h2,h3⟩)
 ·exact h.keep (KeepC.nw hN) (h.sec.nw.trans hN)
 ·exact h.keep (KeepC.turn hk h2 h3) (Kp.nw h.sec.nw hk (by omega) (by omega))
theorem ChV.bides {b:List BVal} {N0:Nat} (x:ChY):BidesV N0 (ChV b x):=by
 rintro A B k ⟨h1,h2,h3⟩ hk (hN | ⟨_,o,h4,h5⟩)
 ·exact ⟨h1,h2.nw hN,h3⟩
 ·exact ⟨h1,h2.turn hk h4 h5,h3⟩
theorem KeepE.trans' {T:List TypeId} {w0 A B C:World} (h:KeepE T w0 A B) (h':KeepE T w0 B C):KeepE T w0 A C:=⟨fun q=>h'.1 (h.1 q),h.2.1.trans h'.2.1,Nat.le_trans h.2.2 h'.2.2⟩
theorem KeepE.turn {T:List TypeId} {w0 A B:World} {k N0:Nat} {o:Obj} (h0:w0.heap.size≤N0) (h1:N0≤k) (h2:A.heap[k]? = some o) (h3:o.isCells=false) (hk:Kp k k A B):KeepE T w0 A B :=
 ⟨fun q=>Kp.nw q hk (by omega) (by omega),KtyC.turn hk h2 h3,hk.size⟩
abbrev nilS:Value:=.slice none 0 0
structure St3 (W0 W:World) (p:Nat) (v0 v1 v2 v3:Value):Prop where
 nw:Nw W0 W
 lo:W0.heap.size≤p
 s:W.heap[p]? = some (.cells #[v0,v1,v2,v3] 34 (0,0))
 e:W.heap[p+1]? = some (.cells #[.int .i64 0,.int .i64 0,.int .i64 0] 65 (0,0))
section
variable {W0 W W':World} {p:Nat} {v0 v1 v2 v3 u:Value}
theorem St3.call (h:St3 W0 W p v0 v1 v2 v3) (hN:Nw W W'):St3 W0 W' p v0 v1 v2 v3 :=
 ⟨h.nw.trans hN,h.lo,(hN.block _ (lt_of_block h.s)).trans h.s,(hN.block _ (lt_of_block h.e)).trans h.e⟩
theorem St3.start (hN:Nw W0 W):St3 W0 ((W.alloc (.cells #[nilS,nilS,nilS,nilS] 34)).alloc (.cells #[.int .i64 0,.int .i64 0,.int .i64 0] 65)) W.heap.size nilS nilS nilS nilS:=by
 have h1:=heap_alloc_new W (.cells #[nilS,nilS,nilS,nilS] 34);have h2:=heap_alloc_new (W.alloc (.cells #[nilS,nilS,nilS,nilS] 34)) (.cells #[.int .i64 0,.int .i64 0,.int .i64 0] 65);rw [World.size_alloc] at h2;exact ⟨(hN.alloc' _).alloc' _,hN.size,(heap_alloc_old _ _ (by simp)).trans h1,h2⟩
theorem St3.put (h:St3 W0 W p v0 v1 v2 v3) (k:Nat) (x:Value) {a0 a1 a2 a3:Value} (hv:(#[v0,v1,v2,v3]:Array Value).setIfInBounds k x=#[a0,a1,a2,a3]):St3 W0 (W.setCell ⟨p,k,none⟩ x) p a0 a1 a2 a3:=by
 have hk:Kp p p W (W.setCell ⟨p,k,none⟩ x):=(Kp.refl p p W).setCell' (p:=⟨p,k,none⟩) (.inl rfl) _;have:=set_at (k:=k) x h.s;rw [hv] at this;exact ⟨h.nw.setCell' h.lo _,h.lo,this,(hk.block _ (lt_of_block h.e) (by omega) (by omega)).trans h.e⟩
theorem St3.pute (h:St3 W0 W p v0 v1 v2 v3) (j:Nat) (hj:j < 3):St3 W0 (W.setCell ⟨p+1,j,none⟩ (.int .i64 0)) p v0 v1 v2 v3:=by
 have hk:Kp (p+1) (p+1) W (W.setCell ⟨p+1,j,none⟩ (.int .i64 0)):=(Kp.refl _ _ W).setCell' (p:=⟨p+1,j,none⟩) (.inl rfl) _;have:=set_at (k:=j) (.int .i64 0) h.e;have hv:(#[.int .i64 0,.int .i64 0,.int .i64 0]:Array Value).setIfInBounds j (.int .i64 0)=#[.int .i64 0,.int .i64 0,.int .i64 0]:=by
  have:j=0∨j=1∨j=2:=by omega
  rcases this with rfl | rfl | rfl<;>rfl
 rw [hv] at this;have hlo:=h.lo;exact ⟨h.nw.setCell' (show W0.heap.size≤p+1 by omega) _,h.lo,(hk.block _ (lt_of_block h.s) (by omega) (by omega)).trans h.s,this⟩
theorem St3.ow (h:St3 W0 W p v0 v1 v2 v3) {b n c k:Nat} {A:Option Addr} {xs:List Value} {x:Value} (hO:Ow W b 5 1 A n c xs):Ow (W.setCell ⟨p,k,none⟩ x) b 5 1 A n c xs:=by
 have hk:Kp p p W (W.setCell ⟨p,k,none⟩ x):=(Kp.refl p p W).setCell' (p:=⟨p,k,none⟩) (.inl rfl) _;exact hO.kty (hk.kty h.s) (by decide) hk.size
theorem St3.owe (h:St3 W0 W p v0 v1 v2 v3) {b n c k:Nat} {A:Option Addr} {xs:List Value} {x:Value} (hO:Ow W b 5 1 A n c xs):Ow (W.setCell ⟨p+1,k,none⟩ x) b 5 1 A n c xs:=by
 have hk:Kp (p+1) (p+1) W (W.setCell ⟨p+1,k,none⟩ x):=(Kp.refl _ _ W).setCell' (p:=⟨p+1,k,none⟩) (.inl rfl) _;exact hO.kty (hk.kty h.e) (by decide) hk.size
theorem St3.rd {b k:Nat} {A:Option Addr} {xs:List Value} {x:Value} (h:Rd W b A xs) (hb:b < p):Rd (W.setCell ⟨p,k,none⟩ x) b A xs∧Rd (W.setCell ⟨p+1,k,none⟩ x) b A xs :=
 ⟨h.kp ((Kp.refl p p W).setCell' (p:=⟨p,k,none⟩) (.inl rfl) _) (by omega) (by omega),h.kp ((Kp.refl (p+1) (p+1) W).setCell' (p:=⟨p+1,k,none⟩) (.inl rfl) _) (by omega) (by omega)⟩
theorem St3.cs (h:St3 W0 W p v0 v1 v2 v3):(W.cell? ⟨p,0,none⟩=some v0∧W.cell? ⟨p,1,none⟩=some v1∧W.cell? ⟨p,2,none⟩=some v2∧W.cell? ⟨p,3,none⟩=some v3)∧∀ k,W.frozen? ⟨p,k,none⟩=false :=
 ⟨⟨cell_at (k:=0) h.s,cell_at (k:=1) h.s,cell_at (k:=2) h.s,cell_at (k:=3) h.s⟩,fun _=>at_free h.s⟩
theorem St3.ce (h:St3 W0 W p v0 v1 v2 v3):(W.cell? ⟨p+1,0,none⟩=some (.int .i64 0)∧W.cell? ⟨p+1,1,none⟩=some (.int .i64 0)∧W.cell? ⟨p+1,2,none⟩=some (.int .i64 0))∧∀ k,W.frozen? ⟨p+1,k,none⟩=false :=
 ⟨⟨cell_at (k:=0) h.e,cell_at (k:=1) h.e,cell_at (k:=2) h.e⟩,fun _=>at_free h.e⟩
end
abbrev setOf (s:Ser):SetS:=⟨s.labs,s.bl,s.al,s.cl⟩
theorem SetI.rd {W:World} {b:Nat} {l:List Ser} (h:SetI W b l):Rd W b (some ⟨b,0,none⟩) (cSet (l.map setOf)):=by
 obtain ⟨ds,h1,h2,h3⟩:=h;refine .inr ⟨0,rfl,lt_of_block h1,fun j u hu=>?_⟩;unfold cSet at hu;rw [List.map_map,List.getElem?_map] at hu;obtain ⟨s,hs,rfl⟩:=Option.map_eq_some_iff.1 hu;obtain ⟨hj,rfl⟩:=List.getElem?_eq_some_iff.1 hs;simp only [Nat.zero_add,World.cell?,h1];exact h3 j hj
theorem Rd.low {W:World} {b g:Nat} {A:Option Addr} {xs:List Value} (h:Rd W b A xs) (hg:g < W.heap.size):∃ b',b' < W.heap.size∧Rd W b' A xs:=by
 rcases h with h | ⟨o,h1,h2,h3⟩
 ·exact ⟨g,hg,.inl h⟩
 ·exact ⟨b,h2,.inr ⟨o,h1,h2,h3⟩⟩
set_option maxRecDepth 100000 in
set_option maxHeartbeats 2000000 in
theorem SectionsE_ok (w:World) (b:Nat) (A:Option Addr) (n c:Nat) (l:List Ser) (hI:InSer w b A n c l) (hf:Fits l) (h0:blkE l=0) (hG:Gl w) :
  Calls Tryz.prog 14 #[.slice A n c] w fun e w'=>∃ v,e=.returned (.tuple #[v,.int .i64 0])∧SecV w' (l.map valB) v∧Nw w w':=by
 have hfl:=hf.1;have hfs:=hf.2.1;have hln:=hI.len;subst hln;have hL:=hf.2.2.1;have HI:=hid hI;have HF:=hid hf;have HG:=hid hG;have HC:Hid (∀ W,Nw w W→Calls Tryz.prog 27 #[.slice A l.length c] W fun e w'=>e=.returned (.int .i64 0)∧Nw W w'):=hid fun W hW=>by
  have:=Check_any W b A l.length c l (hI.nw hW) (by omega) (by omega) (fun s hs=>by
   have:=labs_le hs;omega)
  rw [h0] at this;exact this
 have HB:Hid (BlkV (l.map valB)):=hid (blkE_v h0 (fun s hs=>(hI.ok s hs).2.wf));have HFV:=hid (fits_few hf);have mkR:=fun W=>make_rec W l.length (by omega)
 have mkS:=fun W=>make_set W l.length (by omega)
 clear hI hf h0 hG;have hbx:=heap_alloc_new w (.cells #[.slice none 0 0,.slice none 0 0,.slice none 0 0,.slice none 0 0] 34);have hN1:Nw w (w.alloc (.cells #[.slice none 0 0,.slice none 0 0,.slice none 0 0,.slice none 0 0] 34)):=(Nw.refl w).alloc' _;have HBX:=hid hbx;have HN1:=hid hN1;clear hbx hN1;refine (callsIn_wide (n:=6)).1 ?_;refine callsIn_of_wp_marks Tryz.func14 rfl trivial ?_ rfl;simp only [Tryz.ntmps14,List.size_toArray,List.length_cons,List.length_nil,Nat.reduceAdd,Nat.reduceSub,Array.replicate_succ,Array.replicate_zero,List.push_toArray,List.append_toArray,List.nil_append,List.cons_append]
 gi_wp2_with fail
 refine ⟨trivial,?_⟩;refine (callsIn_wide.2 (HC.out _ HN1.out)).mono ?_;rintro e w2 ⟨rfl,hN2⟩;have e2:=(hN2.block _ (lt_of_block HBX.out)).trans HBX.out;have E2:=hid e2;have HN2:=hid (HN1.out.trans hN2);clear e2 hN2 HC HBX HN1
 gi_wp2_with fail
 have HF0:=hid (FillI.start (l:=l) HN2.out E2.out);obtain ⟨w3,hw3⟩:∃ w3,((((w2.alloc (.cells #[.slice none 0 0] 25)).alloc (.cells (madeCells #[.slice none 0 0,.slice none 0 0] (l.length*2)) 60)).alloc (.cells #[.slice (some ⟨w2.heap.size+1,0,none⟩) l.length l.length] 56)).alloc (.cells (madeCells #[.slice none 0 0] l.length) 48))=w3:=⟨_,rfl⟩;rw [hw3] at HF0 ⊢;rw [show w2.heap.size+1+1=w2.heap.size+2 from rfl,show w2.heap.size+2+1=w2.heap.size+3 from rfl];generalize w2.heap.size=s at *;clear hw3 mkR mkS HN2 E2
 gi_loopw [32] (fun v wr=>∃ k:Nat,k≤l.length∧v=.int .i64 (k:Int)∧Hid (FillI w wr s l k)) (fun v _=>l.length - (intOf v).toNat)
 case atStart=>exact ⟨0,by omega,rfl,HF0⟩
 case round =>
  clear HF0;obtain ⟨k,hk,rfl,HF⟩:=hrel;by_cases hlt:k < l.length
  ·have hltI:(k:Int) < (l.length:Int):=by omega
   obtain ⟨o,rfl,hbw,hc0,hc1⟩:=two_at (HI.out.rd.nw HF.out.nw) hlt;have hNa:Nw wr (wr.alloc (.cells #[.slice l[k].al l[k].labs.length l[k].cl,.slice l[k].as_ l[k].smps.length l[k].cs] 51)):=(Nw.refl wr).alloc' _;have hbx:=heap_alloc_new wr (.cells #[.slice l[k].al l[k].labs.length l[k].cl,.slice l[k].as_ l[k].smps.length l[k].cs] 51);have HF1:=hid ((HF.out.keep hNa).step hlt);have hF1:=HF.out.keep hNa;obtain ⟨cs,g1,g2,g3⟩:=hF1.row;obtain ⟨ds,g4,g5,g6⟩:=hF1.set;have g7:=(g3 k hlt).1;have g8:=g6 k hlt;rw [if_neg (Nat.lt_irrefl _)] at g7 g8;obtain ⟨wx,hwx⟩:∃ wx,wr.alloc (.cells #[.slice l[k].al l[k].labs.length l[k].cl,.slice l[k].as_ l[k].smps.length l[k].cs] 51)=wx:=⟨_,rfl⟩;rw [hwx] at g1 g4 hF1 hbx HF1;have q0:wx.cell? ⟨s+2,0,none⟩=some (.slice (some ⟨s+1,0,none⟩) l.length l.length):=cell_at (k:=0) hF1.box;have q1:wx.cell? ⟨wr.heap.size,0,none⟩=some (.slice l[k].al l[k].labs.length l[k].cl):=cell_at (k:=0) hbx;have q2:wx.cell? ⟨s+1,k*2,none⟩=some (.slice none 0 0):=by simp [World.cell?,g1,g7]
   have q3:wx.frozen? ⟨s+1,k*2,none⟩=false:=at_free g1;have q4:wx.cell? ⟨s+3,k,none⟩=some (.slice none 0 0):=by simp [World.cell?,g4,g8]
   have q5:wx.frozen? ⟨s+3,k,none⟩=false:=at_free g4;have b1:=lt_of_block g1;have b2:=lt_of_block g4;have b3:=lt_of_block hF1.box;have b4:s+3 < wr.heap.size:=by obtain ⟨_,h,_⟩:=HF.out.set;exact lt_of_block h
   clear hF1 g1 g2 g3 g4 g5 g6 g7 g8 HF hbx hNa;generalize l[k]=x at *;obtain ⟨labs,smps,bl,al,cl,bs,as_,cs⟩:=x;dsimp only at hc0 hc1 HF1 q1 hwx
   gi_wp2_with fail
   refine wpIn_wide.2 ?_;clear hwx;refine wp_norm fun QQ hQQ=>?_
   go_big_region
   all_goals
    show QQ _ _
    rw [hQQ.out];have HF2:Hid (FillI w ((wx.setCell ⟨s+1,k*2,none⟩ (.slice al labs.length cl)).setCell ⟨s+3,k,none⟩ (.slice al labs.length cl)).drew s l (k+1)):=hid (HF1.out.keep (Nw.drewO _));clear hQQ q0 q1 q2 q3 q4 q5 b1 b2 b3 b4 HF1 hc0 hc1
    gi_wp2_with fail
    go_roundw
    case rel=>exact ⟨k+1,by omega,by go_num,HF2⟩
    case measure=>simp [intOf];omega
  ·obtain rfl:k=l.length:=by omega
   have HRes:=hid HF.out.res;have HSec:=hid HF.out.sec;have HSet:=hid HF.out.sets;have HNr:=hid HF.out.nw;have hsw:w.heap.size≤wr.heap.size:=HF.out.nw.size;clear HF
   gi_wp2_with fail
   refine ⟨trivial,?_⟩;refine (callsIn_wide.2 (chunks_any _ A l.length c)).mono ?_;rintro e w5 ⟨rfl,hw5⟩;have hs4:(wr.alloc (.cells #[.func (.func 28) #[] #[.pointer (some ⟨s,0,none⟩),.pointer (some ⟨s+2,0,none⟩)]] 61)).heap.size=wr.heap.size+1:=by simp
   have hN4:Nw wr (wr.alloc (.cells #[.func (.func 28) #[] #[.pointer (some ⟨s,0,none⟩),.pointer (some ⟨s+2,0,none⟩)]] 61)):=(Nw.refl wr).alloc' _;have ha4:=heap_alloc_new wr (.cells #[.func (.func 28) #[] #[.pointer (some ⟨s,0,none⟩),.pointer (some ⟨s+2,0,none⟩)]] 61);generalize (wr.alloc (.cells #[.func (.func 28) #[] #[.pointer (some ⟨s,0,none⟩),.pointer (some ⟨s+2,0,none⟩)]] 61))=w4 at *;have hB5:=heap_alloc_new w4 (.cells #[.slice A l.length c] 22);have hN5:Nw w4 w5:=by rw [hw5];exact (Nw.refl w4).alloc' _
   rw [← hw5] at hB5;rw [hs4] at hB5 ⊢;have ha5:=(hN5.block _ (lt_of_block ha4)).trans ha4;have hJ0:SecJ w w5 s wr.heap.size l []:=⟨by
    exact HSec.out.keep (KeepC.nw (hN4.trans hN5)) (HNr.out.trans (hN4.trans hN5)),HSet.out.keep (T:=[]) (fun k cs e fr hh _=>(KeepC.nw (hN4.trans hN5)).1 k cs e fr hh) (by simp),(KeepC.nw (hN4.trans hN5)).1 _ _ _ _ HRes.out,ha5,by simp⟩
   have HJ0:=hid hJ0;have HN5:=hid (HNr.out.trans (hN4.trans hN5));have HB5:=hid hB5;have hw5s:w.heap.size≤w5.heap.size:=HN5.out.size;generalize wr.heap.size=G at *;clear hs4 hN4 ha4 hB5 hN5 ha5 hJ0 HRes HSec HSet HNr hw5
   gi_wp2_with fail
   refine rv_law (F:=Fence.wide) (n:=6) rfl (by omega) (gf:=67) (lb:=#[.pointer (some ⟨G+1,0,none⟩)]) rfl trivial (enters_of Tryz.func67 (by kernel_rfl) rfl)
    (chunks_seq 5 (by omega) w w5 (G+1) b l.length c A l HI.out HN5.out HB5.out HF.out HG.out) (fun _=>rfl) (fun _ _ _=>KeepE.trans') (fun A B k o h1 h2 h3 h4=>KeepE.turn hw5s h1 h2 h3 h4)
    (fun x=>ChV.bides x) (fun pre W=>SecJ w W s G l (pre.map ChY.key)) (fun pre=>SecJ.bides hw5s) HJ0.out ?a1 ?assign ?body ?done
   case assign =>
    intro lq x W K hK
    gi_wp2
    exact hK
   case body =>
    intro lq pre x W hI hv hlen;have hmem:=hv.1;obtain ⟨hib,hc1,hc2⟩:=chKeys_chunk HB.out hmem;rw [List.length_map] at hib;have hpl:pre.length≤3000:=by
     have h1:=chKeys_le (l.map valB);have h2:=HFV.out.smp;omega
    have hdl:(datK (pre.map ChY.key)).length≤10000*pre.length:=by
     have:=datK_len (l:=pre.map ChY.key) (fun p hp=>(chKeys_chunk HB.out (hI.mem p hp)).2.2)
     rwa [List.length_map] at this
    have hll:(lsK (pre.map ChY.key) x.i).length≤pre.length:=by
     have:=lsK_len (pre.map ChY.key) x.i
     rwa [List.length_map] at this
    have hadd:=hI.add;have HAdd:=hid fun W' (hN:Nw W W')=>add_any w W' s (s+2) (s+1) l (datK (pre.map ChY.key)) (lsK (pre.map ChY.key)) x.i (chunkB x.z) x.b x.A x.c hib ((hI.keep (KeepC.nw hN) (hI.sec.nw.trans hN)).sec) (hv.2.1.nw hN) hv.2.2 (by omega) hc2 (by omega)
    have HI2:=hid hI;have HM:=hid hmem;obtain ⟨i,z,bx,xA,xc⟩:=x;dsimp only at HAdd hc1 hc2 hib hll;have c10:W.cell? ⟨G,0,none⟩=some (.func (.func 28) #[] #[.pointer (some ⟨s,0,none⟩),.pointer (some ⟨s+2,0,none⟩)]):=cell_at (k:=0) hadd;clear hmem hI hv hlen hadd hc1 hc2 hpl hdl hll
    gi_wp2_with fail
    refine ⟨trivial,?_⟩;refine (CallsIn.inRound lq (callsIn_wide.2 (HAdd.out W (Nw.refl W)))).mono ?_;rintro e W2 ⟨rfl,hS2,hT2⟩;have HS2:=hid hS2;have HT2:=hid hT2;have hT2sz:W.heap.size≤W2.heap.size:=hT2.2;clear hS2 hT2 HAdd c10
    gi_wp2_with fail
    have hd:=datK_snoc (pre.map ChY.key) (i,z);have hl2:=lsK_snoc (pre.map ChY.key) (i,z);have hk:(pre++[(⟨i,z,bx,xA,xc⟩:ChY)]).map ChY.key=pre.map ChY.key++[(i,z)]:=by rw [List.map_append];rfl
    have hWs:W.heap.size≤W2.heap.size:=hT2sz;refine ⟨⟨hWs,fun k o _ hk ho=>HT2.out.non hk ho⟩,⟨fun _=>HS2.out.nw,HT2.out.toC,hWs⟩,?_⟩;show SecJ w W2 s G l ((pre++[(⟨i,z,bx,xA,xc⟩:ChY)]).map ChY.key)
    rw [hk];refine ⟨?_,HI2.out.set.keep HT2.out.toC (by decide),HT2.out.get HI2.out.res (by decide),HT2.out.get HI2.out.add (by decide),fun q hq=>?_⟩
    ·rw [hd,hl2];exact HS2.out
    ·rcases List.mem_append.1 hq with hq | hq
     ·exact HI2.out.mem q hq
     ·obtain rfl:=List.mem_singleton.1 hq;exact HM.out
   case done =>
    intro D xs W hD hS hI hK;rw [hS] at hI;have HJ:=hid hI;have HK:=hid hK;have hNW:=hI.sec.nw;have HY:Hid (∀ W',Nw W W'→Calls Tryz.prog 30 #[.slice A l.length c] W' fun e w'=>∃ g A' c',e=.returned (.slice A' (symT (labsOf l)).length c')∧Ow w' g 9 1 A' (symT (labsOf l)).length c' (cT (symT (labsOf l)))∧Nw W' w'):=hid fun W' hN=>by
     have:=Symbols_any W' b A l.length c l (HI.out.nw (hNW.trans hN)) (by omega) (by omega);rw [symT_cells,symT_len] at this;exact this
    have HTB:Hid (TblOk (symT (labsOf l))):=hid (by rw [← labsV_val];exact HB.out.tbl HFV.out);obtain ⟨recs,hrl,hrr,hri,hrv⟩:=hI.sec.recs (fun s hs=>HI.out.ok s hs) (fun j hj=>by
     have:=lsK_all (l.map valB) (j:=j) (by rw [List.length_map];exact hj);rw [this,List.getElem_map];rfl)
    have HS0:Hid (sec0 (l.map valB)=symEnc (symT (labsOf l))):=hid (by unfold sec0;rw [labsV_val]);have HS1:Hid (sec1 (l.map valB)=recEnc (symT (labsOf l)) (recs.map valR)):=hid (by unfold sec1;rw [labsV_val,hrv]);have HS3:Hid (sec3 (l.map valB)=posEnc (symT (labsOf l)) (posV (l.map valB))):=hid (by unfold sec3;rw [labsV_val]);have HRO:Hid (∀ r∈recs,RecOk (symT (labsOf l)) (valR r)):=hid fun r hr=>by
     have h1:valR r∈(l.map valB).map recV:=by rw [← hrv];exact List.mem_map.2 ⟨r,hr,rfl⟩
     obtain ⟨v,hv,e⟩:=List.mem_map.1 h1;rw [← e,← labsV_val];exact HB.out.rc HFV.out hv
    have HEO:Hid (∀ p∈posV (l.map valB),EntOk (symT (labsOf l)) p):=hid (by rw [← labsV_val];exact HB.out.ent HFV.out);have HRL:=hid hrl;have HRR:=hid hrr;have HRI:=hid hri;obtain ⟨bd,Ad,cd,hd1,hd2,hd3⟩:=hI.sec.dat;rw [datK_all] at hd1 hd2;have HD1:=hid hd1;have HD2:=hid hd2;have HBX:=hid hI.sec.box;have HRS:=hid hI.res;have HST:=hid hI.set;generalize hT:symT (labsOf l)=T at *;have hDW:=lt_of_block hK;clear hrl hI hK HJ0 HB5 HN5 hS hT hrr hri hrv hd1 hd2 hd3 HJ
    gi_wp2_with fail
    refine ⟨trivial,?_⟩;refine (callsIn_wide.2 (HY.out W (Nw.refl W))).mono ?_;rintro e W1 ⟨g,At,ct,rfl,hOt,hN1⟩;have HOt:=hid hOt;have HN1:=hid hN1;obtain ⟨bt,hbt,hrt⟩:=hOt.rd.low (Nat.lt_of_lt_of_le hDW hN1.size);have HRT:=hid hrt;have HSt:=hid (St3.start hN1);have hn12:Nw W1 ((W1.alloc (.cells #[nilS,nilS,nilS,nilS] 34)).alloc (.cells #[.int .i64 0,.int .i64 0,.int .i64 0] 65)):=((Nw.refl W1).alloc' _).alloc' _;have HN12:=hid hn12;have hbt2:=Nat.lt_of_lt_of_le hbt hn12.size;have hWp:W.heap.size≤W1.heap.size:=hN1.size;clear hOt hN1 HY hrt hn12 HOt
    gi_wp2_with fail
    generalize (W1.alloc (.cells #[nilS,nilS,nilS,nilS] 34)).alloc (.cells #[.int .i64 0,.int .i64 0,.int .i64 0] 65)=W2 at *;generalize W1.heap.size=p at *;refine ⟨trivial,?_⟩;refine (callsIn_wide.2 (SymEncode_any W2 bt At T.length ct T rfl (HRT.out.nw HN12.out) hbt2 HTB.out)).mono ?_;rintro e W3 ⟨b0,A0,c0,rfl,hO0,_,hN3⟩;have HO0:=hid hO0;have HSt3:=hid (HSt.out.call hN3);have HRT3:=hid ((HRT.out.nw HN12.out).nw hN3);obtain ⟨⟨s0,s1,s2,s3⟩,sf⟩:=HSt3.out.cs;obtain ⟨⟨e0,e1,e2⟩,ef⟩:=HSt3.out.ce;have sf0:=sf 0;have ef0:=ef 0;have hbs:=lt_of_block HBX.out;have k2:W3.cell? ⟨s+2,0,none⟩=some (.slice (some ⟨s+1,0,none⟩) l.length l.length):=cell_at (k:=0) ((HSt3.out.nw.block _ hbs).trans HBX.out);have x1:¬ s+2=p:=by omega
    have x2:¬ s+2=p+1:=by omega
    have x3:¬ p=s+2:=by omega
    have x4:¬ p+1=s+2:=by omega
    have x5:¬ p=p+1:=by omega
    have x6:¬ p+1=p:=by omega
    obtain ⟨L0,hL0⟩:∃ L,(symEnc T).length=L:=⟨_,rfl⟩;rw [hL0] at HO0 ⊢;have HL0:=hid hL0;have HSt4:=hid ((HSt3.out.put 0 (.slice A0 L0 c0) (a0:=.slice A0 L0 c0) (a1:=nilS) (a2:=nilS) (a3:=nilS) rfl).pute 0 (by omega));have HO4:=hid ((HSt3.out.put 0 (.slice A0 L0 c0) (a0:=.slice A0 L0 c0) (a1:=nilS) (a2:=nilS) (a3:=nilS) rfl).owe (x:=.int .i64 0) (k:=0) (HSt3.out.ow (x:=.slice A0 L0 c0) (k:=0) HO0.out));have HRT4:=hid ((St3.rd (x:=.int .i64 0) (k:=0) (St3.rd (x:=.slice A0 L0 c0) (k:=0) HRT3.out hbt).1 hbt).2);clear hO0 hN3 HSt HRT HN12 sf ef hL0 HRT3
    gi_wp2_with fail
    clear s0 s1 s2 s3 e0 e1 e2 sf0 ef0 k2;generalize (W3.setCell ⟨p,0,none⟩ (.slice A0 L0 c0)).setCell ⟨p+1,0,none⟩ (.int .i64 0)=W4 at *;refine ⟨trivial,?_⟩;refine (callsIn_wide.2 (RecEncode_any W4 (s+1) bt (some ⟨s+1,0,none⟩) At l.length l.length T.length ct T recs HRL.out (by omega) (HRR.out.nw HSt4.out.nw) rfl HRT4.out HTB.out (fun s hs=>(HRI.out s hs).nw HSt4.out.nw) HRO.out)).mono ?_;rintro e W5 ⟨b1,A1,c1,rfl,hO1,_,hN5⟩;have HO0:=hid (HO4.out.nw hN5);have HO1:=hid hO1;have HSt5:=hid (HSt4.out.call hN5);have HRT5:=hid (HRT4.out.nw hN5);obtain ⟨⟨s0,s1,s2,s3⟩,sf⟩:=HSt5.out.cs;obtain ⟨⟨e0,e1,e2⟩,ef⟩:=HSt5.out.ce;have sf1:=sf 1;have sf2:=sf 2;have ef1:=ef 1;obtain ⟨L1,hL1⟩:∃ L,(recEnc T (recs.map valR)).length=L:=⟨_,rfl⟩;obtain ⟨L2,hL2⟩:∃ L,(datS (l.map valB)).length=L:=⟨_,rfl⟩;rw [hL1] at HO1 ⊢;rw [hL2] at HD1 HD2;have HL1:=hid hL1;have HL2:=hid hL2;have k2:W5.cell? ⟨s,0,none⟩=some (.slice Ad L2 cd):=cell_at (k:=0) ((HSt5.out.nw.block _ (by omega)).trans HD1.out);have y1:¬ s=p:=by omega
    have y2:¬ s=p+1:=by omega
    have y3:¬ p=s:=by omega
    have y4:¬ p+1=s:=by omega
    have hb2:p+1 < W5.heap.size:=lt_of_block HSt5.out.e;have q1:=HSt5.out.put 1 (.slice A1 L1 c1) (a0:=.slice A0 L0 c0) (a1:=.slice A1 L1 c1) (a2:=nilS) (a3:=nilS) rfl;have q2:=q1.pute 1 (by omega);have q3:=q2.put 2 (.slice Ad L2 cd) (a0:=.slice A0 L0 c0) (a1:=.slice A1 L1 c1) (a2:=.slice Ad L2 cd) (a3:=nilS) rfl;have HSt6:=hid q3;have HO06:=hid (q2.ow (x:=.slice Ad L2 cd) (k:=2) (q1.owe (x:=.int .i64 0) (k:=1) (HSt5.out.ow (x:=.slice A1 L1 c1) (k:=1) HO0.out)));have HO16:=hid (q2.ow (x:=.slice Ad L2 cd) (k:=2) (q1.owe (x:=.int .i64 0) (k:=1) (HSt5.out.ow (x:=.slice A1 L1 c1) (k:=1) HO1.out)));have HRT6:=hid ((St3.rd (x:=.slice Ad L2 cd) (k:=2) (St3.rd (x:=.int .i64 0) (k:=1) (St3.rd (x:=.slice A1 L1 c1) (k:=1) HRT5.out hbt).1 hbt).2 hbt).1);clear hO1 hN5 sf ef hL1 hL2 q1 q2 q3 HRT4 HSt4 HO4 HRT5 HO0 HO1 HSt5
    gi_wp2_with fail
    clear s0 s1 s2 s3 e0 e1 e2 sf1 sf2 ef1 k2 y1 y2 y3 y4 x1 x2 x3 x4;generalize ((W5.setCell ⟨p,1,none⟩ (.slice A1 L1 c1)).setCell ⟨p+1,1,none⟩ (.int .i64 0)).setCell ⟨p,2,none⟩ (.slice Ad L2 cd)=W6 at *;refine ⟨trivial,?_⟩;have hlm:(l.map setOf).map (·.labs)=setsV (l.map valB):=by unfold setsV;rw [List.map_map,List.map_map];rfl
    have hdl:(doneOf (setsV (l.map valB))).length≤200:=by
     rw [doneOf_len];have h1:=HFV.out.lab;rw [labsV_len] at h1;unfold setsV;rw [List.map_map];exact h1
    refine (callsIn_wide.2 (PBuild_any W6 (s+3) (some ⟨s+3,0,none⟩) l.length l.length (l.map setOf) (by rw [List.length_map]) (by omega) (HST.out.rd.nw HSt6.out.nw) (fun x hx=>by
     obtain ⟨y,hy,rfl⟩:=List.mem_map.1 hx;have h1:=(HI.out.ok y hy).1;have h2:=labs_le hy;exact ⟨(h1.rd.nw hNW).nw HSt6.out.nw,by show y.labs.length≤1000;omega,fun z hz=>by have:=h1.small z hz;exact ⟨by simp only [maxLen];omega,by simp only [maxLen];omega⟩⟩) (by rw [hlm];omega))).mono ?_
    rintro e W7 ⟨bE,AE,cE,E,rfl,hIx,hRE,hRx,hN7⟩;rw [hlm] at hIx;have hEk:E.map keyG=posV (l.map valB):=IsIdx.one hIx (idxOf_isIdx _);have HEK:=hid hEk;have hEl:E.length≤1000:=by
     have:=hIx.len;rw [List.length_map] at this;omega
    have HRE:=hid hRE;have HRX:=hid hRx;have HSt7:=hid (HSt6.out.call hN7);have HRT7:=hid (HRT6.out.nw hN7);have HO07:=hid (HO06.out.nw hN7);have HO17:=hid (HO16.out.nw hN7);clear hlm hdl hIx hEk hRE hRx hN7 HSt6 HRT6 HO06 HO16
    gi_wp2_with fail
    refine ⟨trivial,?_⟩;refine (callsIn_wide.2 (PosEncode_any W7 bE bt AE At E.length cE T.length ct T E rfl hEl HRE.out rfl HRT7.out HTB.out HRX.out (fun x hx=>HEO.out _ (by rw [← HEK.out];exact List.mem_map.2 ⟨x,hx,rfl⟩)))).mono ?_;rintro e W8 ⟨b3,A3,c3,rfl,hO3,_,hN8⟩;have HO08:=hid (HO07.out.nw hN8);have HO18:=hid (HO17.out.nw hN8);have HSt8:=hid (HSt7.out.call hN8);rw [HEK.out] at hO3 ⊢;have HO38:=hid hO3;obtain ⟨⟨s0,s1,s2,s3⟩,sf⟩:=HSt8.out.cs;obtain ⟨⟨e0,e1,e2⟩,ef⟩:=HSt8.out.ce;have sf3:=sf 3;have ef2:=ef 2;obtain ⟨L3,hL3⟩:∃ L,(posEnc T (posV (l.map valB))).length=L:=⟨_,rfl⟩;rw [hL3] at HO38 ⊢;have HL3:=hid hL3;have hb2:p+1 < W8.heap.size:=lt_of_block HSt8.out.e;have q1:=HSt8.out.put 3 (.slice A3 L3 c3) (a0:=.slice A0 L0 c0) (a1:=.slice A1 L1 c1) (a2:=.slice Ad L2 cd) (a3:=.slice A3 L3 c3) rfl;have q2:=q1.pute 2 (by omega);have HSt9:=hid q2;have HO09:=hid (q1.owe (x:=.int .i64 0) (k:=2) (HSt8.out.ow (x:=.slice A3 L3 c3) (k:=3) HO08.out));have HO19:=hid (q1.owe (x:=.int .i64 0) (k:=2) (HSt8.out.ow (x:=.slice A3 L3 c3) (k:=3) HO18.out));have HO39:=hid (q1.owe (x:=.int .i64 0) (k:=2) (HSt8.out.ow (x:=.slice A3 L3 c3) (k:=3) HO38.out));clear hO3 hN8 sf ef hL3 q1 q2 HSt7 HRT7 HO07 HO17 HO08 HO18 HO38 HSt8
    gi_wp2_with fail
    generalize (W8.setCell ⟨p,3,none⟩ (.slice A3 L3 c3)).setCell ⟨p+1,2,none⟩ (.int .i64 0)=W9 at *;obtain ⟨⟨s0,s1,s2,s3⟩,_⟩:=HSt9.out.cs;have hr9:=(HSt9.out.nw.block _ (lt_of_block HRS.out)).trans HRS.out;have f0:W9.frozen? ⟨w.heap.size,0,none⟩=false:=at_free hr9;have f1:W9.frozen? ⟨w.heap.size,1,none⟩=false:=at_free hr9;have f2:W9.frozen? ⟨w.heap.size,2,none⟩=false:=at_free hr9;have f3:W9.frozen? ⟨w.heap.size,3,none⟩=false:=at_free hr9;have t0:W9.cell? ⟨w.heap.size,0,none⟩=some nilS:=cell_at (k:=0) hr9;have t1:W9.cell? ⟨w.heap.size,1,none⟩=some nilS:=cell_at (k:=1) hr9;have t2:W9.cell? ⟨w.heap.size,2,none⟩=some nilS:=cell_at (k:=2) hr9;have t3:W9.cell? ⟨w.heap.size,3,none⟩=some nilS:=cell_at (k:=3) hr9;have HR9:=hid hr9;have r0:∀ W,(Instr.index 65 (.agg #[.int .i64 0,.int .i64 0,.int .i64 0]) (.int .i64 0)).run Tryz.prog W=.ok (.int .i64 0) W:=fun _=>by kernel_rfl
    have r1:∀ W,(Instr.index 65 (.agg #[.int .i64 0,.int .i64 0,.int .i64 0]) (.int .i64 1)).run Tryz.prog W=.ok (.int .i64 0) W:=fun _=>by kernel_rfl
    have r2:∀ W,(Instr.index 65 (.agg #[.int .i64 0,.int .i64 0,.int .i64 0]) (.int .i64 2)).run Tryz.prog W=.ok (.int .i64 0) W:=fun _=>by kernel_rfl
    clear hr9 sf3 ef2 hb2 x5 x6 hbs
    gi_loopw [87] (fun v wr=>∃ k:Nat,k≤3∧v=.int .i64 (k:Int)∧W9=wr) (fun v _=>3 - (intOf v).toNat)
    case atStart=>exact ⟨0,by omega,rfl,by first | rfl | trivial⟩
    case round =>
     obtain ⟨k,hk,rfl,rfl⟩:=hrel;have hk4:k=0∨k=1∨k=2∨k=3:=by omega
     rcases hk4 with rfl | rfl | rfl | rfl
     ·gi_wp2_with fail
      go_roundw
      case rel=>exact ⟨1,by omega,by go_num,by first | rfl | trivial⟩
      case measure=>simp [intOf]
     ·gi_wp2_with fail
      go_roundw
      case rel=>exact ⟨2,by omega,by go_num,by first | rfl | trivial⟩
      case measure=>simp [intOf]
     ·gi_wp2_with fail
      go_roundw
      case rel=>exact ⟨3,by omega,by go_num,by first | rfl | trivial⟩
      case measure=>simp [intOf]
     ·gi_wp2_with fail
      have kq:=set4_kp W9 w.heap.size (.slice A0 L0 c0) (.slice A1 L1 c1) (.slice Ad L2 cd) (.slice A3 L3 c3);have hq:=set4_at HR9.out (.slice A0 L0 c0) (.slice A1 L1 c1) (.slice Ad L2 cd) (.slice A3 L3 c3);generalize (((W9.setCell ⟨w.heap.size,0,none⟩ (.slice A0 L0 c0)).setCell ⟨w.heap.size,1,none⟩ (.slice A1 L1 c1)).setCell ⟨w.heap.size,2,none⟩ (.slice Ad L2 cd)).setCell ⟨w.heap.size,3,none⟩ (.slice A3 L3 c3)=WA at *;have hDw:w.heap.size≠D:=fun e=>by
       have h1:=HRS.out;rw [e,HK.out] at h1;cases h1
      have hkA:=(kq.block D (Nat.lt_of_lt_of_le hDW HSt9.out.nw.size) (Ne.symm hDw) (Ne.symm hDw)).trans ((HSt9.out.nw.block D hDW).trans HK.out);have kd:=kp_putObj WA D (.deferred none);have hqD:=(kd.block _ (lt_of_block hq) hDw hDw).trans hq;have hNA:Nw w WA:=Kp.nw (hNW.trans HSt9.out.nw) kq (Nat.le_refl _) (Nat.le_refl _);have hND:Nw w (WA.putObj D (.deferred none)):=Kp.nw hNA kd (Nat.le_trans hw5s hD) (Nat.le_trans hw5s hD);have ow:∀ {bb nn cc:Nat} {AA:Option Addr} {xx:List Value},Ow W9 bb 5 1 AA nn cc xx→Rd (WA.putObj D (.deferred none)) bb AA xx:=fun h =>
       (h.kty (kq.kty HR9.out) (by decide) kq.size).rd.turn kd hkA rfl
      refine ⟨by simp,.inl ⟨_,_,rfl,run_takeDeferred hkA,?_⟩⟩;refine ⟨_,results_ct rfl _ _ ⟨w.heap.size,0,none⟩ rfl (run_load4 hqD),_,rfl,?_,hND⟩;refine ⟨b0,A0,c0,b1,A1,c1,bd,Ad,cd,b3,A3,c3,?_,?_,?_,ow (HD2.out.nw HSt9.out.nw),?_⟩
      ·rw [HS0.out,HS1.out,HS3.out,HL0.out,HL1.out,HL2.out,HL3.out]
      ·rw [HS0.out];exact ow HO09.out
      ·rw [HS1.out];exact ow HO19.out
      ·rw [HS3.out];exact ow HO39.out
end
section
open Go Go.RowKit Go.Sort
def gapB (d:List ByteArray) (k:Nat) (v:ByteArray):List ByteArray:=d.take k++v::d.drop k
theorem gapB_length (d:List ByteArray) (k:Nat) (v:ByteArray) (hk:k≤d.length):(gapB d k v).length=d.length+1:=by
 simp [gapB];omega
theorem gapB_prev (d:List ByteArray) (k:Nat) (v:ByteArray) (hk:k < d.length):(gapB d (k+1) v)[k]? = some d[k]:=by
 unfold gapB;rw [List.getElem?_append_left (by simp;omega),List.getElem?_take];simp [hk]
theorem gapB_shift (d:List ByteArray) (k:Nat) (v:ByteArray) (hk:k < d.length):(gapB d (k+1) v).set (k+1) d[k]=gapB d k d[k]:=by
 unfold gapB;rw [List.set_append_right _ _ (by simp;omega)];simp only [List.length_take];rw [show k+1 - min (k+1) d.length=0 from by omega,List.set_cons_zero,List.take_succ_eq_append_getElem hk,List.append_assoc];congr 1
 rw [List.singleton_append,← List.drop_eq_getElem_cons hk]
theorem gapB_fill (d:List ByteArray) (k:Nat) (v x:ByteArray) (hk:k≤d.length):(gapB d k v).set k x=gapB d k x:=by
 unfold gapB;rw [List.set_append_right _ _ (by simp;omega)];simp only [List.length_take];rw [show k - min k d.length=0 from by omega,List.set_cons_zero]
theorem cT_at {w:World} {b n c k:Nat} {e:TypeId} {A:Option Addr} {l:List ByteArray} (h:Ow w b e 1 A n c (cT l)) (hk:k < l.length):A=some ⟨b,0,none⟩∧b < w.heap.size∧w.cell? ⟨b,k,none⟩=some (.string l[k])∧w.frozen? ⟨b,k,none⟩=false:=by
 have hl:=h.len;rw [List.length_map] at hl;obtain ⟨h1,h2,h3,h4⟩:=h.at_ (j:=k) (by omega);rw [List.getElem?_map,List.getElem?_eq_getElem hk] at h3;exact ⟨h1,h2,h3,h4⟩
set_option maxRecDepth 100000 in
set_option maxHeartbeats 4000000 in
theorem RTable_any (w:World) (b:Nat) (A:Option Addr) (n c:Nat) (l:List ByteArray) (hn:n=l.length) (hm:n≤1000000) (hr:Rd w b A (cT l)) :
  Calls Tryz.prog 54 #[.slice A n c] w fun e w'=>∃ g A' c',e=.returned (.slice A' (tbl l).length c')∧Ow w' g 9 1 A' (tbl l).length c' ((tbl l).map encStr)∧Nw w w':=by
 subst hn;have HR:=hid hr;have hbw:l=[]∨b < w.heap.size:=by
  rcases hr with h | ⟨_,_,h,_⟩
  ·left
   have:=congrArg List.length h;rw [List.length_map] at this;exact List.eq_nil_of_length_eq_zero this
  ·exact .inr h
 clear hr;go_enter Tryz.func54,Tryz.ntmps54
 go_wp2;go_loopw [3,4] (fun s i wr=>∃ k:Nat,k≤l.length∧i=.int .i64 k∧∃ (out:List ByteArray) (bk:Nat) (Ak:Option Addr) (ck:Nat),s=.slice Ak out.length ck∧out.length≤k∧Hid (out.Pairwise LtB)∧Hid (∀ y,y∈out↔y∈l.take k) ∧
  Hid (Ow wr bk 9 1 Ak out.length ck (cT out))∧w.heap.size≤bk∧Hid (Nw w wr)) (fun _ i _=>l.length - (intOf i).toNat)
 case atStart=>exact ⟨0,by omega,rfl,[],w.heap.size,none,0,rfl,Nat.le_refl _,hid List.Pairwise.nil,hid (by simp),hid (Ow.nil _ _ _ _),Nat.le_refl _,hid (Nw.refl _)⟩
 case round =>
  obtain ⟨k,hk,rfl,out,bk,Ak,ck,rfl,hol,HS,HM,HO,hbk,HN⟩:=hrel;by_cases hlt:k < l.length
  ·have hltI:(k:Int) < (l.length:Int):=by omega
   obtain ⟨o,rfl,hbr,hc⟩:=(HR.out.nw HN.out).get (k:=k) (by simpa using hlt);rw [List.getElem_map] at hc;have HT:=hid (show ∀ y,y∈l.take (k+1)↔y∈l.take k∨y=l[k] from fun y=>by rw [List.take_succ_eq_append_getElem hlt,List.mem_append,List.mem_singleton]);have hbw':b < w.heap.size:=by
    rcases hbw with h | h
    ·subst h;simp at hlt
    ·exact h
   obtain ⟨x,hxx⟩:∃ x,l[k]=x:=⟨_,rfl⟩;rw [hxx] at hc HT;have HXX:=hid hxx;clear hxx;obtain ⟨p,hp,hpl,hpr⟩:=place out x;have HPL:=hid hpl;have HPR:=hid hpr;have HCX:=hid fun W (hN:Nw wr W)=>cell_old hN hbr hc
   obtain ⟨M,hM⟩:∃ M,out.length=M:=⟨_,rfl⟩;have HMM:=hid hM;rw [hM] at hol hp HO ⊢;have hMl:M≤1000000:=by omega
   clear hpl hpr hc hM;by_cases hpM:p < M
   ·by_cases heq:∀ (h:p < out.length),out[p].toList=x.toList
    ·have HEQ:=hid heq;clear heq;go_wp2;go_loopw [5] (fun v wq=>∃ j:Nat,j≤p∧v=.int .i64 j∧Hid (Gr wr wq)) (fun v _=>M - (intOf v).toNat)
     case atStart=>exact ⟨0,Nat.zero_le _,rfl,hid (Gr.refl _)⟩
     case round =>
      obtain ⟨j,hj,rfl,HG⟩:=hrel;by_cases hjp:j < p
      ·have hjM:j < M:=by omega
       have hjI:(j:Int) < (M:Int):=by omega
       have hjd:decide ((j:Int) < (M:Int))=true:=by rw [decide_eq_true_iff];omega
       have hjn:decide (j < M)=true:=by rw [decide_eq_true_iff];omega
       have hjo:j < out.length:=by have:=HMM.out;omega
       obtain ⟨rfl,hbk2,hcj,_⟩:=cT_at (HO.out.nw HG.out.nw) hjo;have hB:Op.bytesLess out[j].toList x.toList=true:=HPL.out out[j] (by rw [List.mem_take_iff_getElem];exact ⟨j,by omega,rfl⟩);generalize out[j]=z at *;have q0:∀ p':Gp,(grow (wr.drewN p'.n) p'.os).cell? ⟨bk,j,none⟩=some (.string z):=cell_gr hbk2 hcj;have q1:∀ p':Gp,(grow (wr.drewN p'.n) p'.os).cell? ⟨b,o+k,none⟩=some (.string x):=cell_gr (Nat.lt_of_lt_of_le hbr HG.out.size) (HCX.out _ HG.out.nw);clear hcj;go_wp2_with fail;refine wp_region_gr (by kernel_rfl) (by kernel_rfl) ?_
       repeat (go_big_quiet_step (first | fail))
       refine wpQuiet_nil ?_;rintro _ ⟨p',rfl⟩;have HGz:=hid (HG.out.trans (⟨p',rfl⟩:Gr wr _));go_wp2_with fail;go_roundw
       case rel=>exact ⟨j+1,by omega,by go_num,HGz⟩
       case measure=>simp [intOf];omega
      ·obtain rfl:j=p:=by omega
       have Hwr:=HG;have hjI:(j:Int) < (M:Int):=by omega
       have hjd:decide ((j:Int) < (M:Int))=true:=by rw [decide_eq_true_iff];omega
       have hjn:decide (j < M)=true:=by rw [decide_eq_true_iff];omega
       have hjo:j < out.length:=by have:=HMM.out;omega
       obtain ⟨rfl,hbk1,hcj,_⟩:=cT_at HO.out hjo;have HCZ:=hid fun W (hN:Nw _ W)=>cell_old hN hbk1 hcj
       have hB:Op.bytesLess out[j].toList x.toList=false:=by rw [Bool.eq_false_iff];exact HPR.out hjo
       have hE:(out[j].toList == x.toList)=true:=by rw [beq_iff_eq];exact HEQ.out hjo
       have HIN:=hid (show x∈out from by have h:=bytes_ext (HEQ.out hjo);rw [← h];exact List.getElem_mem hjo);generalize out[j]=z at *;clear hcj;have q0:∀ p':Gp,(grow (wr.drewN p'.n) p'.os).cell? ⟨bk,j,none⟩=some (.string z):=cell_gr (Nat.lt_of_lt_of_le hbk1 Hwr.out.size) (HCZ.out _ Hwr.out.nw);have q1:∀ p':Gp,(grow (wr.drewN p'.n) p'.os).cell? ⟨b,o+k,none⟩=some (.string x):=cell_gr (Nat.lt_of_lt_of_le hbr Hwr.out.size) (HCX.out _ Hwr.out.nw);go_wp2_with fail;refine wp_region_gr (by kernel_rfl) (by kernel_rfl) ?_
       repeat (go_big_quiet_step (first | fail))
       refine wpQuiet_nil ?_;rintro _ ⟨p',rfl⟩;have Hwz:=hid (Hwr.out.trans (⟨p',rfl⟩:Gr wr _));generalize grow (wr.drewN p'.n) p'.os=wz at *;clear q0 q1;have q0:∀ p':Gp,(grow (wz.drewN p'.n) p'.os).cell? ⟨bk,j,none⟩=some (.string z):=cell_gr (Nat.lt_of_lt_of_le hbk1 Hwz.out.size) (HCZ.out _ Hwz.out.nw);have q1:∀ p':Gp,(grow (wz.drewN p'.n) p'.os).cell? ⟨b,o+k,none⟩=some (.string x):=cell_gr (Nat.lt_of_lt_of_le hbr Hwz.out.size) (HCX.out _ Hwz.out.nw);go_wp2_with fail;refine wp_region_gr (by kernel_rfl) (by kernel_rfl) ?_
       repeat (go_big_quiet_step (first | fail))
       refine wpQuiet_nil ?_;rintro _ ⟨p',rfl⟩;have Hwy:=hid (Hwz.out.trans (⟨p',rfl⟩:Gr wz _));generalize grow (wz.drewN p'.n) p'.os=wy at *;go_wp2_with fail;go_roundw
       case rel =>
        refine ⟨k+1,by omega,by go_num,out,bk,_,ck,by rw [HMM.out],by have:=HMM.out;omega,HS,hid fun y=>?_,hid (by rw [HMM.out];exact HO.out.nw Hwy.out.nw),hbk,hid (HN.out.trans Hwy.out.nw)⟩;rw [HT.out y,← HM.out y];exact ⟨.inl,fun h=>by rcases h with h | rfl;exact h;exact HIN.out⟩
       case measure=>simp [intOf];omega
    ·have HNE:=hid (show ∀ (h:p < out.length),¬ out[p].toList=x.toList from fun h h2=>heq fun _=>h2);clear heq;go_wp2;go_loopw [5] (fun v wq=>∃ j:Nat,j≤p∧v=.int .i64 j∧Hid (Gr wr wq)) (fun v _=>M - (intOf v).toNat)
     case atStart=>exact ⟨0,Nat.zero_le _,rfl,hid (Gr.refl _)⟩
     case round =>
      obtain ⟨j,hj,rfl,HG⟩:=hrel;by_cases hjp:j < p
      ·have hjM:j < M:=by omega
       have hjI:(j:Int) < (M:Int):=by omega
       have hjd:decide ((j:Int) < (M:Int))=true:=by rw [decide_eq_true_iff];omega
       have hjn:decide (j < M)=true:=by rw [decide_eq_true_iff];omega
       have hjo:j < out.length:=by have:=HMM.out;omega
       obtain ⟨rfl,hbk2,hcj,_⟩:=cT_at (HO.out.nw HG.out.nw) hjo;have hB:Op.bytesLess out[j].toList x.toList=true:=HPL.out out[j] (by rw [List.mem_take_iff_getElem];exact ⟨j,by omega,rfl⟩);generalize out[j]=z at *;have q0:∀ p':Gp,(grow (wr.drewN p'.n) p'.os).cell? ⟨bk,j,none⟩=some (.string z):=cell_gr hbk2 hcj;have q1:∀ p':Gp,(grow (wr.drewN p'.n) p'.os).cell? ⟨b,o+k,none⟩=some (.string x):=cell_gr (Nat.lt_of_lt_of_le hbr HG.out.size) (HCX.out _ HG.out.nw);clear hcj;go_wp2_with fail;refine wp_region_gr (by kernel_rfl) (by kernel_rfl) ?_
       repeat (go_big_quiet_step (first | fail))
       refine wpQuiet_nil ?_;rintro _ ⟨p',rfl⟩;have HGz:=hid (HG.out.trans (⟨p',rfl⟩:Gr wr _));go_wp2_with fail;go_roundw
       case rel=>exact ⟨j+1,by omega,by go_num,HGz⟩
       case measure=>simp [intOf];omega
      ·obtain rfl:j=p:=by omega
       have Hwr:=HG;have hjI:(j:Int) < (M:Int):=by omega
       have hjd:decide ((j:Int) < (M:Int))=true:=by rw [decide_eq_true_iff];omega
       have hjn:decide (j < M)=true:=by rw [decide_eq_true_iff];omega
       have hjo:j < out.length:=by have:=HMM.out;omega
       obtain ⟨rfl,hbk1,hcj,_⟩:=cT_at HO.out hjo;have HCZ:=hid fun W (hN:Nw _ W)=>cell_old hN hbk1 hcj
       have hB:Op.bytesLess out[j].toList x.toList=false:=by rw [Bool.eq_false_iff];exact HPR.out hjo
       have hE:(out[j].toList == x.toList)=false:=by rw [beq_eq_false_iff_ne];exact HNE.out hjo
       generalize out[j]=z at *;clear hcj;have q0:∀ p':Gp,(grow (wr.drewN p'.n) p'.os).cell? ⟨bk,j,none⟩=some (.string z):=cell_gr (Nat.lt_of_lt_of_le hbk1 Hwr.out.size) (HCZ.out _ Hwr.out.nw);have q1:∀ p':Gp,(grow (wr.drewN p'.n) p'.os).cell? ⟨b,o+k,none⟩=some (.string x):=cell_gr (Nat.lt_of_lt_of_le hbr Hwr.out.size) (HCX.out _ Hwr.out.nw);go_wp2_with fail;refine wp_region_gr (by kernel_rfl) (by kernel_rfl) ?_
       repeat (go_big_quiet_step (first | fail))
       refine wpQuiet_nil ?_;rintro _ ⟨p',rfl⟩;have Hwz:=hid (Hwr.out.trans (⟨p',rfl⟩:Gr wr _));generalize grow (wr.drewN p'.n) p'.os=wz at *;clear q0 q1;have q0:∀ p':Gp,(grow (wz.drewN p'.n) p'.os).cell? ⟨bk,j,none⟩=some (.string z):=cell_gr (Nat.lt_of_lt_of_le hbk1 Hwz.out.size) (HCZ.out _ Hwz.out.nw);have q1:∀ p':Gp,(grow (wz.drewN p'.n) p'.os).cell? ⟨b,o+k,none⟩=some (.string x):=cell_gr (Nat.lt_of_lt_of_le hbr Hwz.out.size) (HCX.out _ Hwz.out.nw);go_wp2_with fail;refine wp_region_gr (by kernel_rfl) (by kernel_rfl) ?_
       repeat (go_big_quiet_step (first | fail))
       refine wpQuiet_nil ?_;rintro _ ⟨p',rfl⟩;have Hwy:=hid (Hwz.out.trans (⟨p',rfl⟩:Gr wz _));generalize grow (wz.drewN p'.n) p'.os=wy at *;clear q0 q1;have HOz:=hid (HO.out.nw Hwy.out.nw);have HNz:=hid (HN.out.trans Hwy.out.nw);clear HO;go_wp2_with (at_builtin;refine wpList_app1 E_str rfl (.tmp 45) (.tmp 46) rfl rfl HOz.out rfl rfl (by omega) (by omega) ?_;intro b3 A3 c3 w3 r1 r2 r3 r4;have R1:=hid r1;have R2:=hid r2;have R3:=hid r3;clear r1 r2 r3 r4)
       have hN3:Nw w w3:=Kp.nw HNz.out R3.out hbk hbk;have hb3:w.heap.size≤b3:=by
        rcases R2.out with h | h
        ·omega
        ·have:=HNz.out.size;omega
       have hO3:Ow w3 b3 9 1 A3 (M+1) c3 (cT (gapB out M .empty)):=by
        have h:=R1.out;have e:gapB out M .empty=out++[.empty]:=by unfold gapB;rw [List.take_of_length_le (by have:=HMM.out;omega),List.drop_eq_nil_of_le (by have:=HMM.out;omega)]
        rw [e];unfold cT at h ⊢;rw [List.map_append];exact h
       have HO3:=hid hO3;have HN3:=hid hN3;obtain ⟨rfl,_,_,_⟩:=hO3.at_ (j:=0) (by omega);clear hO3 hN3 R1 R2 R3 HOz HNz;go_loopw [6] (fun v w4=>∃ (m:Nat) (z:ByteArray),j≤m∧m≤M∧v=.int .i64 m∧Hid (Ow w4 b3 9 1 (some ⟨b3,0,none⟩) (M+1) c3 (cT (gapB out m z)))∧Hid (Nw w w4)) (fun v _=>(intOf v).toNat)
       case atStart=>exact ⟨M,.empty,by omega,by omega,by go_num,HO3,HN3⟩
       case round =>
        obtain ⟨m,z,hjm,hmM,rfl,HO4,HN4⟩:=hrel;have hgl:=gapB_length out m z (by have:=HMM.out;omega);rw [HMM.out] at hgl;by_cases hmj:j < m
        ·obtain ⟨i,rfl⟩:∃ i,m=i+1:=⟨m - 1,by omega⟩;have hio:i < out.length:=by have:=HMM.out;omega
         obtain ⟨_,hb4,f0,_⟩:=cT_at (k:=i) HO4.out (by omega);obtain ⟨_,_,f9,f2⟩:=cT_at (k:=i+1) HO4.out (by omega);have e0:(gapB out (i+1) z)[i]'(by omega)=out[i]:=Option.some.inj (by rw [← List.getElem?_eq_getElem,gapB_prev out i z hio]);rw [e0] at f0;have HSH:=hid (gapB_shift out i z hio);generalize out[i]=y at *;obtain ⟨u1,f1⟩:∃ u,wr.cell? ⟨b3,i+1,none⟩=some u:=⟨_,f9⟩;rw [show ((i+1:Nat):Int)=(i:Int)+1 from by push_cast;rfl];have i0:(j:Int) < (i:Int)+1:=by omega
         have i1:IntKind.i64.wrap (i:Int)=(i:Int):=IntWalk.i64_in _ (by omega);have i2:(i:Int) < (M:Int)+1:=by omega
         have i3:(0:Int)≤(i:Int)+1:=by omega
         have i4:(i:Int)+1 < (M:Int)+1:=by omega
         have i5:((i:Int)+1).toNat=i+1:=by omega
         clear f9;clear e0 hgl;go_wp2;go_roundw
         case rel =>
          refine ⟨i,y,by omega,by omega,by go_num,hid ?_,hid (HN4.out.setCell' (by exact hb3) _)⟩;have h:=HO4.out.set_ (i+1) (.string y);rw [← HSH.out];unfold cT at h ⊢;rw [List.map_set];exact h
         case measure=>first | (simp [intOf];done) | (simp [intOf];omega)
        ·obtain rfl:m=j:=by omega
         obtain ⟨_,hb4,f9,f2⟩:=cT_at (k:=m) HO4.out (by omega);obtain ⟨u1,f1⟩:∃ u,wr.cell? ⟨b3,m,none⟩=some u:=⟨_,f9⟩;clear f9;have i0:¬ (m:Int) < (m:Int):=by omega
         have i1:(m:Int) < (M:Int)+1:=by omega
         obtain ⟨o9,e9,_,hcx⟩:=(HR.out.nw HN4.out).get (k:=k) (by simpa using hlt);obtain rfl:o9=o:=by injection e9 with e9;injection e9 with _ e9 _;exact e9.symm
         rw [List.getElem_map,HXX.out] at hcx;clear hgl;go_wp2;go_roundw
         case rel =>
          have hgl:=gapB_length out m x (by have:=HMM.out;omega);rw [HMM.out] at hgl;refine ⟨k+1,by omega,by go_num,gapB out m x,b3,some ⟨b3,0,none⟩,c3,by rw [hgl],by omega,hid ?_,hid fun y=>?_,hid ?_,hb3,hid (HN4.out.setCell' (by exact hb3) _)⟩
          ·exact asc_ins HS.out HPL.out (fun h=>⟨HPR.out h,HNE.out h⟩)
          ·rw [HT.out y,← HM.out y];exact mem_ins
          ·rw [hgl];have h:=HO4.out.set_ m (.string x);rw [← gapB_fill out m z x (by have:=HMM.out;omega)];unfold cT at h ⊢;rw [List.map_set];exact h
         case measure=>simp [intOf];omega
   ·obtain rfl:p=M:=by omega
    have HNE:=hid (show ∀ (h:p < out.length),¬ out[p].toList=x.toList from fun h=>by have:=HMM.out;omega);obtain ⟨M,hM2⟩:∃ M,M=p:=⟨_,rfl⟩;rw [← hM2] at HMM hol HO hMl;have hpp:p≤M:=by omega
    have hpm:M≤p:=by omega
    rw [show (Value.slice Ak p ck)=.slice Ak M ck from by rw [hM2]];clear hM2 hp hpM;go_wp2;go_loopw [5] (fun v wq=>∃ j:Nat,j≤p∧v=.int .i64 j∧Hid (Gr wr wq)) (fun v _=>M - (intOf v).toNat)
    case atStart=>exact ⟨0,Nat.zero_le _,rfl,hid (Gr.refl _)⟩
    case round =>
     obtain ⟨j,hj,rfl,HG⟩:=hrel;by_cases hjp:j < p
     ·have hjM:j < M:=by omega
      have hjI:(j:Int) < (M:Int):=by omega
      have hjd:decide ((j:Int) < (M:Int))=true:=by rw [decide_eq_true_iff];omega
      have hjn:decide (j < M)=true:=by rw [decide_eq_true_iff];omega
      have hjo:j < out.length:=by have:=HMM.out;omega
      obtain ⟨rfl,hbk2,hcj,_⟩:=cT_at (HO.out.nw HG.out.nw) hjo;have hB:Op.bytesLess out[j].toList x.toList=true:=HPL.out out[j] (by rw [List.mem_take_iff_getElem];exact ⟨j,by omega,rfl⟩);generalize out[j]=z at *;have q0:∀ p':Gp,(grow (wr.drewN p'.n) p'.os).cell? ⟨bk,j,none⟩=some (.string z):=cell_gr hbk2 hcj;have q1:∀ p':Gp,(grow (wr.drewN p'.n) p'.os).cell? ⟨b,o+k,none⟩=some (.string x):=cell_gr (Nat.lt_of_lt_of_le hbr HG.out.size) (HCX.out _ HG.out.nw);clear hcj;go_wp2_with fail;refine wp_region_gr (by kernel_rfl) (by kernel_rfl) ?_
      repeat (go_big_quiet_step (first | fail))
      refine wpQuiet_nil ?_;rintro _ ⟨p',rfl⟩;have HGz:=hid (HG.out.trans (⟨p',rfl⟩:Gr wr _));go_wp2_with fail;go_roundw
      case rel=>exact ⟨j+1,by omega,by go_num,HGz⟩
      case measure=>simp [intOf];omega
     ·obtain rfl:j=p:=by omega
      have Hwr:=HG;have hjI:¬ (j:Int) < (M:Int):=by omega
      have hjd:decide ((j:Int) < (M:Int))=false:=by rw [decide_eq_false_iff_not];omega
      have hjn:decide (j < M)=false:=by rw [decide_eq_false_iff_not];omega
      go_wp2_with fail;refine wp_region_gr (by kernel_rfl) (by kernel_rfl) ?_
      repeat (go_big_quiet_step (first | fail))
      refine wpQuiet_nil ?_;rintro _ ⟨p',rfl⟩;have Hwz:=hid (Hwr.out.trans (⟨p',rfl⟩:Gr wr _));generalize grow (wr.drewN p'.n) p'.os=wz at *;go_wp2_with fail;refine wp_region_gr (by kernel_rfl) (by kernel_rfl) ?_
      repeat (go_big_quiet_step (first | fail))
      refine wpQuiet_nil ?_;rintro _ ⟨p',rfl⟩;have Hwy:=hid (Hwz.out.trans (⟨p',rfl⟩:Gr wz _));generalize grow (wz.drewN p'.n) p'.os=wy at *;have HOz:=hid (HO.out.nw Hwy.out.nw);have HNz:=hid (HN.out.trans Hwy.out.nw);clear HO;go_wp2_with (at_builtin;refine wpList_app1 E_str rfl (.tmp 45) (.tmp 46) rfl rfl HOz.out rfl rfl (by omega) (by omega) ?_;intro b3 A3 c3 w3 r1 r2 r3 r4;have R1:=hid r1;have R2:=hid r2;have R3:=hid r3;clear r1 r2 r3 r4)
      have hN3:Nw w w3:=Kp.nw HNz.out R3.out hbk hbk;have hb3:w.heap.size≤b3:=by
       rcases R2.out with h | h
       ·omega
       ·have:=HNz.out.size;omega
      have hO3:Ow w3 b3 9 1 A3 (M+1) c3 (cT (gapB out M .empty)):=by
       have h:=R1.out;have e:gapB out M .empty=out++[.empty]:=by unfold gapB;rw [List.take_of_length_le (by have:=HMM.out;omega),List.drop_eq_nil_of_le (by have:=HMM.out;omega)]
       rw [e];unfold cT at h ⊢;rw [List.map_append];exact h
      have HO3:=hid hO3;have HN3:=hid hN3;obtain ⟨rfl,_,_,_⟩:=hO3.at_ (j:=0) (by omega);clear hO3 hN3 R1 R2 R3 HOz HNz;go_loopw [6] (fun v w4=>∃ (m:Nat) (z:ByteArray),j≤m∧m≤M∧v=.int .i64 m∧Hid (Ow w4 b3 9 1 (some ⟨b3,0,none⟩) (M+1) c3 (cT (gapB out m z)))∧Hid (Nw w w4)) (fun v _=>(intOf v).toNat)
      case atStart=>exact ⟨M,.empty,by omega,by omega,by go_num,HO3,HN3⟩
      case round =>
       obtain ⟨m,z,hjm,hmM,rfl,HO4,HN4⟩:=hrel;have hgl:=gapB_length out m z (by have:=HMM.out;omega);rw [HMM.out] at hgl;by_cases hmj:j < m
       ·omega
       ·obtain rfl:m=j:=by omega
        obtain ⟨_,hb4,f9,f2⟩:=cT_at (k:=m) HO4.out (by omega);obtain ⟨u1,f1⟩:∃ u,wr.cell? ⟨b3,m,none⟩=some u:=⟨_,f9⟩;clear f9;have i0:¬ (m:Int) < (m:Int):=by omega
        have i1:(m:Int) < (M:Int)+1:=by omega
        obtain ⟨o9,e9,_,hcx⟩:=(HR.out.nw HN4.out).get (k:=k) (by simpa using hlt);obtain rfl:o9=o:=by injection e9 with e9;injection e9 with _ e9 _;exact e9.symm
        rw [List.getElem_map,HXX.out] at hcx;clear hgl;go_wp2;go_roundw
        case rel =>
         have hgl:=gapB_length out m x (by have:=HMM.out;omega);rw [HMM.out] at hgl;refine ⟨k+1,by omega,by go_num,gapB out m x,b3,some ⟨b3,0,none⟩,c3,by rw [hgl],by omega,hid ?_,hid fun y=>?_,hid ?_,hb3,hid (HN4.out.setCell' (by exact hb3) _)⟩
         ·exact asc_ins HS.out HPL.out (fun h=>⟨HPR.out h,HNE.out h⟩)
         ·rw [HT.out y,← HM.out y];exact mem_ins
         ·rw [hgl];have h:=HO4.out.set_ m (.string x);rw [← gapB_fill out m z x (by have:=HMM.out;omega)];unfold cT at h ⊢;rw [List.map_set];exact h
        case measure=>simp [intOf];omega
  ·obtain rfl:k=l.length:=by omega
   have hM:=HM.out;rw [List.take_length] at hM;have HTB:=hid (tbl_one HS.out hM);have hl:out.length=(tbl l).length:=by rw [← HTB.out,List.length_map]
   have HL:=hid hl;clear hM hl;go_wp2;go_ret;refine ⟨bk,Ak,ck,by rw [HL.out];rfl,?_,HN.out⟩;rw [← HL.out,← HTB.out,enc_bys];exact HO.out
end
section
open Go Go.RowKit Go.Sort Go.Shelf Go.Lib
set_option maxRecDepth 100000 in
set_option maxHeartbeats 1600000 in
theorem RSymbols_any (w:World) (b:Nat) (A:Option Addr) (n c:Nat) (l:List Ser) (hI:InSer w b A n c l) (hs:(labsOf l).length≤100000) (hn:n≤100000) :
  Calls Tryz.prog 21 #[.slice A n c] w fun e w'=>∃ g A' c',e=.returned (.slice A' (tbl (strsOf (labsOf l))).length c')∧Ow w' g 9 1 A' (tbl (strsOf (labsOf l))).length c' ((tbl (strsOf (labsOf l))).map encStr)∧Nw w w':=by
 have hl:=hI.len;subst hl;have HR:=hid hI.rd;have HOK:=hid hI.ok;clear hI;obtain ⟨T,hT⟩:∃ T,tbl (strsOf (labsOf l))=T:=⟨_,rfl⟩;rw [hT];have HT:=hid hT;have HLE:=hid fun k=>labsOf_le l k
 clear hT;go_enter Tryz.func21,Tryz.ntmps21
 go_wp2;go_loopw [3,4] (fun s i wr=>∃ k:Nat,k≤l.length∧i=.int .i64 k∧∃ (M bk:Nat) (Ak:Option Addr) (ck:Nat),s=.slice Ak (2*M) ck∧M≤100000∧Hid (M=(labsOf (l.take k)).length) ∧
  Hid (Ow wr bk 9 1 Ak (2*M) ck (cT (strsOf (labsOf (l.take k)))))∧w.heap.size≤bk∧Hid (Nw w wr)) (fun _ i _=>l.length - (intOf i).toNat)
 case atStart=>exact ⟨0,by omega,rfl,0,w.heap.size,none,0,rfl,by omega,hid rfl,hid (Ow.nil _ _ _ _),Nat.le_refl _,hid (Nw.refl _)⟩
 case round =>
  obtain ⟨k,hk,rfl,M,bk,Ak,ck,rfl,hM,HM,HO,hbk,HN⟩:=hrel;by_cases hlt:k < l.length
  ·have hltI:(k:Int) < (l.length:Int):=by omega
   obtain ⟨o,rfl,hbw,hc0,hc1⟩:=two_at (HR.out.nw HN.out) hlt;have HTk:=hid (labsOf_snoc hlt);have hle:=HLE.out (k+1);rw [HTk.out,List.length_append,← HM.out] at hle;have HOx:=hid (HOK.out l[k] (List.getElem_mem hlt));generalize l[k]=x at *;have HS:=hid (RStrings_any wr x.bl x.al x.labs.length x.cl x.labs rfl (by omega) (HOx.out.1.rd.nw HN.out));go_wp2_with (first
    | (go_at_call 53;refine HS.out.mono ?_;rintro e w2 ⟨b2,A2,c2',rfl,hO2,hb2,hN2⟩;have HO2:=hid hO2;have HOk:=hid (HO.out.nw hN2);have hnil2:=hO2.nil_cap;clear hO2)
    | (at_builtin;refine wpList_app E_str rfl (.tmp 11) (.tmp 17) rfl rfl HOk.out rfl HO2.out.rd (by rw [List.length_map,strsOf_length];omega) hnil2 (oc_T _) (by simp only [maxLen];omega) (by omega) ?_;intro b3 A3 c3 w3 q1 q2 q3 q4;have Q1:=hid q1;have Q2:=hid q2;have Q3:=hid q3;clear q1 q2 q3 q4))
   go_roundw
   case rel =>
    refine ⟨k+1,by omega,by go_num,M+x.labs.length,b3,A3,c3,by rw [Nat.mul_add],by omega,hid (by rw [HTk.out,List.length_append,HM.out]),hid ?_,?_,hid (Kp.nw (HN.out.trans hN2) Q3.out hbk hbk)⟩
    ·have h:=Q1.out;rw [HTk.out,strsOf_append,Nat.mul_add];unfold cT at h ⊢;rw [List.map_append];exact h
    ·rcases Q2.out with h | h
     ·omega
     ·have:=(HN.out.trans hN2).size;omega
   case measure=>simp [intOf];omega
  ·obtain rfl:k=l.length:=by omega
   have hO:=HO.out;rw [List.take_length] at hO;have hM2:=HM.out;rw [List.take_length] at hM2;have hTb:=RTable_any wr bk Ak (2*M) ck (strsOf (labsOf l)) (by rw [strsOf_length,hM2]) (by omega) hO.rd;rw [HT.out] at hTb;have HTb:=hid hTb;clear hTb hO hM2;go_wp2_with (go_at_call 54;refine HTb.out.mono ?_;rintro e w2 ⟨g,A',c',rfl,hO2,hN2⟩)
   go_ret;exact ⟨g,A',c',rfl,hO2,HN.out.trans hN2⟩
end
section
open Go Go.RowKit
def AppT (w:World) (b:Nat) (A:Option Addr) (m:Nat) (bs X:List Bool) (e:Ending) (w':World):Prop :=
 ∃ b' A' c',e=.returned (.tuple #[.slice A' (m+X.length) c',.bool true])∧Ow w' b' 4 1 A' (m+X.length) c' (cB (bs++X))∧(b'=b∨w.heap.size≤b')∧Kp b b w w'∧(A=none→Nw w w'∧(w.heap.size≤b'∨A'=none))
set_option maxRecDepth 100000 in
theorem RVPut_any (w:World) (b bl:Nat) (A Al:Option Addr) (m c n cl tag:Nat) (bs:List Bool) (l:List Nat) (htag:1≤tag∧tag≤3) (h3:tag=3→(dict l).length≤128) (hO:Ow w b 4 1 A m c (cB bs)) (hn:n=l.length) (hm:n≤10000) (hb:m≤1000000000) (hbw:b < w.heap.size) (hne:bl≠b)
  (hr:Rd w bl Al (cN .u64 l)) (hx:∀ x∈l,x < 18446744073709551616) :
  Calls Tryz.prog 86 #[.slice A m c,.int .i64 (tag:Int),.slice Al n cl] w (AppT w b A m bs (vput tag l)):=by
 have hc:tag=1∨tag=2∨tag=3:=by omega
 rcases hc with rfl | rfl | rfl
 ·have HP:=hid (RXPut_any w b bl A Al m c n cl bs l hO hn hm hb hne hr hx);have HE:=hid (show vput 1 l=xput l from rfl);rw [HE.out];clear hO hr hx h3 hn;go_enter Tryz.func86,Tryz.ntmps86
  go_wp2_with (go_at_call 130;refine HP.out.mono ?_;rintro e w1 ⟨b',A',c',rfl,h1,h2,h3,h4⟩;have H1:=hid h1;have H4:=hid h4;clear h1 h4)
  go_ret2;exact ⟨b',A',c',rfl,H1.out,h2,h3,H4.out⟩
 ·have HP:=hid (RRPut_any w b bl A Al m c n cl bs l hO hn hm hb hbw hr hx);have HE:=hid (show vput 2 l=rput l from rfl);rw [HE.out];clear hO hr hx h3 hn;go_enter Tryz.func86,Tryz.ntmps86
  go_wp2_with (go_at_call 131;refine HP.out.mono ?_;rintro e w1 ⟨b',A',c',rfl,h1,h2,h3,h4⟩;have H1:=hid h1;have H4:=hid h4;clear h1 h4)
  go_ret2;exact ⟨b',A',c',rfl,H1.out,h2,h3,H4.out⟩
 ·have HE:=hid (show vput 3 l=putBits l from rfl);rw [HE.out];have HP:Hid (Calls Tryz.prog 132 #[.slice A m c,.slice Al n cl] w (AppT w b A m bs (putBits l))):=by
   refine hid ?_;by_cases hl:l=[]
   ·subst hl hn;refine (RPut_empty w A Al m c cl).mono ?_;rintro e w' ⟨rfl,hN⟩;exact ⟨b,A,c,rfl,by simpa [putBits] using hO.nw hN,.inl rfl,hN.kp _ _,fun e=>⟨hN,.inr e⟩⟩
   ·exact RPut_ok w b bl A Al m c n cl bs l hO hn (by omega) hb hbw hne hr hx (h3 rfl) hl
  clear hO hr hx h3 hn;go_enter Tryz.func86,Tryz.ntmps86
  go_wp2_with (go_at_call 132;refine HP.out.mono ?_;rintro e w1 ⟨b',A',c',rfl,h1,h2,h3,h4⟩;have H1:=hid h1;have H4:=hid h4;clear h1 h4)
  go_ret2;exact ⟨b',A',c',rfl,H1.out,h2,h3,H4.out⟩
set_option maxRecDepth 100000 in
theorem RVPut_limit (w:World) (bl:Nat) (A Al:Option Addr) (m c n cl:Nat) (l:List Nat) (h3:128 < (dict l).length) (hn:n=l.length) (hm:n≤10000) (hr:Rd w bl Al (cN .u64 l)) :
  Calls Tryz.prog 86 #[.slice A m c,.int .i64 3,.slice Al n cl] w fun e w'=>e=.returned (.tuple #[.slice A m c,.bool false])∧Nw w w':=by
 have HP:=hid (RPut_limit w bl A Al m c n cl l hn (by omega) hr h3);clear hr h3 hn;go_enter Tryz.func86,Tryz.ntmps86
 go_wp2_with (go_at_call 132;refine HP.out.mono ?_;rintro e w1 ⟨rfl,hN⟩)
 go_ret2;exact ⟨rfl,hN⟩
def sizeT (tag:Nat) (l:List Nat):Int:=if tag=3 then szOf l else ((vput tag l).length:Int)
set_option maxRecDepth 100000 in
theorem RSize_any (w:World) (bl:Nat) (Al:Option Addr) (n cl tag:Nat) (l:List Nat) (htag:1≤tag∧tag≤3) (hlt:∃ b,b < w.heap.size∧bl≠b) (hn:n=l.length) (hm:n≤10000) (hr:Rd w bl Al (cN .u64 l)) (hx:∀ x∈l,x < 18446744073709551616) :
  Calls Tryz.prog 129 #[.int .i64 (tag:Int),.slice Al n cl] w fun e w'=>e=.returned (.int .i64 (sizeT tag l))∧Nw w w':=by
 by_cases h3:tag=3∧128 < (dict l).length
 ·obtain ⟨rfl,hd⟩:=h3;have HP:=hid (RVPut_limit w bl none Al 0 0 n cl l hd hn hm hr);have hs:sizeT 3 l = -1:=szOf_limit l hd;rw [hs];clear hd hn hr hx hlt hs;go_enter Tryz.func129,Tryz.ntmps129
  go_wp2_with (go_at_call 86;refine HP.out.mono ?_;rintro e w1 ⟨rfl,hN⟩)
  go_ret;exact ⟨rfl,hN⟩
 ·obtain ⟨b,hbw,hne⟩:=hlt;have h3':tag=3→(dict l).length≤128:=fun e=>by
   by_cases h:(dict l).length≤128
   ·exact h
   ·exact absurd ⟨e,by omega⟩ h3
  have HP:=hid (RVPut_any w b bl none Al 0 0 n cl tag [] l htag h3' (Ow.nil _ _ _ _) hn hm (by omega) hbw hne hr hx);have hs:sizeT tag l=((vput tag l).length:Int):=by
   unfold sizeT;split
   ·rename_i e
    subst e;exact szOf_put l (h3' rfl)
   ·rfl
  rw [hs];generalize vput tag l=X at *;clear h3' h3 hn hr hx hs hbw hne;go_enter Tryz.func129,Tryz.ntmps129
  go_wp2_with (go_at_call 86;refine HP.out.mono ?_;rintro e w1 ⟨b',A',c',rfl,h1,h2,h3,h4⟩;have H4:=hid (h4 rfl).1;clear h1 h2 h3 h4)
  go_ret;exact ⟨by simp,H4.out⟩
theorem rchoose_walk (w:World) (A:Option Addr) (n c:Nat) (s1 s2 s3:Int) (t:Nat) (hS1:∀ W,Nw w W→Calls Tryz.prog 129 #[.int .i64 1,.slice A n c] W fun e w'=>e=.returned (.int .i64 s1)∧Nw W w')
  (hS2:∀ W,Nw w W→Calls Tryz.prog 129 #[.int .i64 2,.slice A n c] W fun e w'=>e=.returned (.int .i64 s2)∧Nw W w')
  (hS3:∀ W,Nw w W→Calls Tryz.prog 129 #[.int .i64 3,.slice A n c] W fun e w'=>e=.returned (.int .i64 s3)∧Nw W w')
  (h2:0≤s2) (ht:pick3 s1 s2 s3=t) :
  Calls Tryz.prog 85 #[.slice A n c] w fun e w'=>e=.returned (.int .i64 (t:Int))∧Nw w w':=by
 have H1:=hid hS1;have H2:=hid hS2;have H3:=hid hS3;have HT:=hid ht;clear hS1 hS2 hS3 ht;by_cases c3:0≤s3<;>by_cases c21:s2 < s1<;>by_cases c31:s3 < s1<;>by_cases c32:s3 < s2
 all_goals
  first
  | (exfalso;omega)
  | (have hp:t=pick3 s1 s2 s3:=HT.out.symm
     unfold pick3 at hp;simp only [c3,c21,c31,c32,h2,and_self,and_true,and_false,if_true,if_false] at hp;subst hp;clear HT;go_enter Tryz.func85,Tryz.ntmps85
     go_wp2_with (go_at_call 129;refine (H1.out _ (Nw.refl _)).mono ?_;rintro e w1 ⟨rfl,hN1⟩)
     refine wp_loop_rounds 3 ?_;rw [rounds_succ];go_wp2_with (go_at_call 129;refine (H2.out _ hN1).mono ?_;rintro e w2 ⟨rfl,hN2⟩)
     rw [rounds_succ];go_wp2_with (go_at_call 129;refine (H3.out _ (hN1.trans hN2)).mono ?_;rintro e w3 ⟨rfl,hN3⟩)
     rw [rounds_succ];go_wp2_with fail;go_ret;exact ⟨rfl,(hN1.trans hN2).trans hN3⟩)
theorem RChoose_any (w:World) (b:Nat) (A:Option Addr) (n c:Nat) (l:List Nat) (hlt:∃ g,g < w.heap.size∧b≠g) (hn:n=l.length) (hm:n≤10000) (hr:Rd w b A (cN .u64 l)) (hx:∀ x∈l,x < 18446744073709551616) :
  Calls Tryz.prog 85 #[.slice A n c] w fun e w'=>e=.returned (.int .i64 (tagOf l:Int))∧Nw w w':=by
 have hlt':∀ W,Nw w W→∃ g,g < W.heap.size∧b≠g:=fun W hN=>by
  obtain ⟨g,h1,h2⟩:=hlt;exact ⟨g,Nat.lt_of_lt_of_le h1 hN.size,h2⟩
 exact rchoose_walk w A n c _ _ _ _ (fun W hN=>RSize_any W b A n c 1 l ⟨by omega,by omega⟩ (hlt' W hN) hn hm (hr.nw hN) hx) (fun W hN=>RSize_any W b A n c 2 l ⟨by omega,by omega⟩ (hlt' W hN) hn hm (hr.nw hN) hx)
  (fun W hN=>RSize_any W b A n c 3 l ⟨by omega,by omega⟩ (hlt' W hN) hn hm (hr.nw hN) hx) (by show (0:Int)≤((rput l).length:Int);omega) rfl
end
section
open Go Go.RowKit Go.Sort
theorem form_any (w:World) (x:Int):Calls Tryz.prog 134 #[.int .i64 x] w fun e w'=>e=.returned (.int .i64 (tform x:Int))∧w=w':=by
 by_cases h0:x=0
 ·subst h0;go_enter Tryz.func134,Tryz.ntmps134
  go_wp2;go_ret;exact ⟨rfl,rfl⟩
 have e0:(x == 0)=false:=by rw [beq_eq_false_iff_ne];exact h0
 by_cases h1:-64≤x∧x≤63
 ·have ht:tform x=1:=by unfold tform;rw [if_neg h0,if_pos h1]
  rw [ht];obtain ⟨a,b⟩:=h1;go_enter Tryz.func134,Tryz.ntmps134
  go_wp2;go_ret;exact ⟨rfl,rfl⟩
 by_cases h2:-2048≤x∧x≤2047
 ·have ht:tform x=2:=by unfold tform;rw [if_neg h0,if_neg h1,if_pos h2]
  rw [ht];obtain ⟨a,b⟩:=h2;by_cases c:-64≤x
  ·have c2:¬ x≤63:=fun h=>h1 ⟨c,h⟩
   go_enter Tryz.func134,Tryz.ntmps134
   go_wp2;go_ret;exact ⟨rfl,rfl⟩
  ·go_enter Tryz.func134,Tryz.ntmps134
   go_wp2;go_ret;exact ⟨rfl,rfl⟩
 by_cases h3:-2147483648≤x∧x≤2147483647
 ·have ht:tform x=3:=by unfold tform;rw [if_neg h0,if_neg h1,if_neg h2,if_pos h3]
  rw [ht];obtain ⟨a,b⟩:=h3;by_cases c:-64≤x
  ·have c2:¬ x≤63:=fun h=>h1 ⟨c,h⟩
   have c3:-2048≤x:=by omega
   have c4:¬ x≤2047:=fun h=>h2 ⟨c3,h⟩
   go_enter Tryz.func134,Tryz.ntmps134
   go_wp2;go_ret;exact ⟨rfl,rfl⟩
  ·have c3:¬ -2048≤x:=by omega
   go_enter Tryz.func134,Tryz.ntmps134
   go_wp2;go_ret;exact ⟨rfl,rfl⟩
 ·have ht:tform x=4:=by unfold tform;rw [if_neg h0,if_neg h1,if_neg h2,if_neg h3]
  rw [ht];by_cases c:-64≤x
  ·have c2:¬ x≤63:=fun h=>h1 ⟨c,h⟩
   have c3:-2048≤x:=by omega
   have c4:¬ x≤2047:=fun h=>h2 ⟨c3,h⟩
   have c5:-2147483648≤x:=by omega
   have c6:¬ x≤2147483647:=fun h=>h3 ⟨c5,h⟩
   go_enter Tryz.func134,Tryz.ntmps134
   go_wp2;go_ret;exact ⟨rfl,rfl⟩
  ·have c3:¬ -2048≤x:=by omega
   have c5:¬ -2147483648≤x:=by omega
   go_enter Tryz.func134,Tryz.ntmps134
   go_wp2;go_ret;exact ⟨rfl,rfl⟩
def TRel (l:List Int) (k:Nat) (pre:List Bool) (d:Int):Prop :=
 pre.length≤68*k∧((k=0∧pre=[]∧d=0)∨∃ last,0 < k∧l[k - 1]? = some last∧tput l=pre++(chgF last d (l.drop k)).flatMap tbits)
theorem tbits_len (x:Int):(tbits x).length≤68:=by
 unfold tbits;have h:=tform_le x;generalize tform x=k at *;have:k=0∨k=1∨k=2∨k=3∨k=4:=by omega
 rcases this with rfl | rfl | rfl | rfl | rfl<;>simp [bitsOf_length,tlen,twid]
theorem TRel.start (l:List Int):TRel l 0 [] 0:=⟨by simp,.inl ⟨rfl,rfl,rfl⟩⟩
theorem TRel.first {l:List Int} {v d:Int} {pre:List Bool} (h:TRel l 0 pre d) (hv:l[0]? = some v):TRel l 1 (pre++bitsOf (uw v) 64) d:=by
 obtain ⟨h2,h3⟩:=h;rcases h3 with ⟨_,rfl,rfl⟩ | ⟨_,h,_⟩
 ·refine ⟨by simp [bitsOf_length],.inr ⟨v,by omega,hv,?_⟩⟩;cases l with
  | nil=>simp at hv
  | cons x l =>
   obtain rfl:x=v:=by simpa using hv
   rfl
 ·omega
theorem TRel.next {l:List Int} {k:Nat} {v last d:Int} {pre:List Bool} (h:TRel l k pre d) (hk:0 < k) (hv:l[k]? = some v) (hl:l[k - 1]? = some last) :
  TRel l (k+1) (pre++tbits (wrap64 (wrap64 (v - last) - d))) (wrap64 (v - last)):=by
 obtain ⟨h2,h3⟩:=h;have hlen:=tbits_len (wrap64 (wrap64 (v - last) - d));rcases h3 with ⟨h,_⟩ | ⟨last',_,h4,h5⟩
 ·omega
 ·obtain rfl:last'=last:=by rw [hl] at h4;exact (Option.some.inj h4).symm
  refine ⟨by rw [List.length_append];omega,.inr ⟨v,by omega,by simpa using hv,?_⟩⟩;obtain ⟨hlt,e⟩:=List.getElem?_eq_some_iff.1 hv;rw [h5,List.append_assoc];congr 1
  rw [List.drop_eq_getElem_cons hlt,e];rfl
theorem TRel.done {l:List Int} {pre:List Bool} {d:Int} (h:TRel l l.length pre d):tput l=pre:=by
 obtain ⟨_,h3⟩:=h;rcases h3 with ⟨h0,rfl,_⟩ | ⟨last,_,_,h5⟩
 ·rw [List.eq_nil_of_length_eq_zero h0];rfl
 ·rw [h5,List.drop_length];simp [chgF]
theorem uw_wrap (x:Int):IntKind.u64.wrap x=(uw x:Int):=by
 rw [IntKind.wrap_u64];unfold uw;omega
def Tabs (W:World) (g0 g1 g2:Nat):Prop :=
 W.heap[g0]? = some (.cells #[.int .u64 0,.int .u64 2,.int .u64 6,.int .u64 14,.int .u64 15] 203 (0,0)) ∧
 W.heap[g1]? = some (.cells #[.int .i64 1,.int .i64 2,.int .i64 3,.int .i64 4,.int .i64 4] 99 (0,0)) ∧
 W.heap[g2]? = some (.cells #[.int .i64 0,.int .i64 7,.int .i64 12,.int .i64 32,.int .i64 64] 99 (0,0))
theorem Tabs.kp {W W':World} {g0 g1 g2 h h':Nat} (T:Tabs W g0 g1 g2) (hk:Kp h h' W W') (e0:g0≠h∧g0≠h') (e1:g1≠h∧g1≠h') (e2:g2≠h∧g2≠h'):Tabs W' g0 g1 g2:=by
 obtain ⟨h1,h2,h3⟩:=T;exact ⟨(hk.block _ (lt_of_block h1) e0.1 e0.2).trans h1,(hk.block _ (lt_of_block h2) e1.1 e1.2).trans h2,(hk.block _ (lt_of_block h3) e2.1 e2.2).trans h3⟩
theorem Tabs.at_ {W:World} {g0 g1 g2 k:Nat} (T:Tabs W g0 g1 g2) (hk:k≤4):W.cell? ⟨g0,k,none⟩=some (.int .u64 (tpre k:Int))∧W.cell? ⟨g1,k,none⟩=some (.int .i64 (tlen k:Int))∧W.cell? ⟨g2,k,none⟩=some (.int .i64 (twid k:Int)):=by
 obtain ⟨h1,h2,h3⟩:=T;have:k=0∨k=1∨k=2∨k=3∨k=4:=by omega
 rcases this with rfl | rfl | rfl | rfl | rfl<;>exact ⟨by simp [World.cell?,h1,tpre],by simp [World.cell?,h2,tlen],by simp [World.cell?,h3,twid]⟩
theorem tab_le {k:Nat} (hk:k≤4):tpre k≤15∧tlen k≤4∧twid k≤64:=by
 have:k=0∨k=1∨k=2∨k=3∨k=4:=by omega
 rcases this with rfl | rfl | rfl | rfl | rfl<;>simp [tpre,tlen,twid]
set_option maxRecDepth 100000 in
set_option maxHeartbeats 1600000 in
theorem RTPut_any (w:World) (b bl:Nat) (A Al:Option Addr) (m c n cl:Nat) (bs:List Bool) (l:List Int) (hO:Ow w b 4 1 A m c (cB bs)) (hn:n=l.length) (hm:n≤10000) (hb:m≤1000000000) (hbw:b < w.heap.size) (hne:bl≠b)
  (hr:Rd w bl Al (cI .i64 l)) :
  Calls Tryz.prog 87 #[.slice A m c,.slice Al n cl] w (AppR w b A m bs (tput l)):=by
 subst hn;have HO:=hid hO;have HR:=hid hr;clear hO hr;go_enter Tryz.func87,Tryz.ntmps87
 go_wp2_with fail;have HT:Hid (Tabs (((w.alloc (.cells #[.int .u64 0,.int .u64 2,.int .u64 6,.int .u64 14,.int .u64 15] 203)).alloc (.cells #[.int .i64 1,.int .i64 2,.int .i64 3,.int .i64 4,.int .i64 4] 99)).alloc (.cells #[.int .i64 0,.int .i64 7,.int .i64 12,.int .i64 32,.int .i64 64] 99)) w.heap.size (w.heap.size+1) (w.heap.size+1+1)):=by
  refine hid ⟨?_,?_,?_⟩
  ·rw [heap_alloc_old _ _ (by simp<;>omega),heap_alloc_old _ _ (by simp)];exact heap_alloc_new _ _
  ·rw [heap_alloc_old _ _ (by simp)];simpa using heap_alloc_new (w.alloc _) _
  ·simpa using heap_alloc_new ((w.alloc _).alloc _) _
 have hN:Nw w (((w.alloc (.cells #[.int .u64 0,.int .u64 2,.int .u64 6,.int .u64 14,.int .u64 15] 203)).alloc (.cells #[.int .i64 1,.int .i64 2,.int .i64 3,.int .i64 4,.int .i64 4] 99)).alloc (.cells #[.int .i64 0,.int .i64 7,.int .i64 12,.int .i64 32,.int .i64 64] 99)):=(((Nw.refl w).alloc' _).alloc' _).alloc' _;generalize ((w.alloc (.cells #[.int .u64 0,.int .u64 2,.int .u64 6,.int .u64 14,.int .u64 15] 203)).alloc (.cells #[.int .i64 1,.int .i64 2,.int .i64 3,.int .i64 4,.int .i64 4] 99)).alloc (.cells #[.int .i64 0,.int .i64 7,.int .i64 12,.int .i64 32,.int .i64 64] 99)=w1 at *;obtain ⟨g0,hg0⟩:∃ g,g=w.heap.size:=⟨_,rfl⟩;obtain ⟨g1,hg1⟩:∃ g,g=w.heap.size+1:=⟨_,rfl⟩;obtain ⟨g2,hg2⟩:∃ g,g=w.heap.size+1+1:=⟨_,rfl⟩;rw [← hg2,← hg1,← hg0] at HT ⊢;have hge:w.heap.size≤g0∧w.heap.size≤g1∧w.heap.size≤g2:=by omega
 have HGE:=hid hge;have HN:=hid hN;clear hg0 hg1 hg2 hge hN;go_loopw [0,8,9] (fun s vd i wr=>∃ k:Nat,k≤l.length∧i=.int .i64 k∧∃ (pre:List Bool) (d:Int) (M bk:Nat) (Ak:Option Addr) (ck:Nat),s=.slice Ak M ck∧vd=.int .i64 d ∧
   Hid (Bst w1 b A m bs wr bk Ak M ck pre)∧Hid (TRel l k pre d)) (fun _ _ i _=>l.length - (intOf i).toNat)
 case atStart=>exact ⟨0,by omega,rfl,[],0,m,b,A,c,rfl,rfl,hid (Bst.start (HO.out.nw HN.out)),hid (TRel.start l)⟩
 case round =>
  obtain ⟨k,hk,rfl,pre,d,M,bk,Ak,ck,rfl,rfl,HS,hrel⟩:=hrel;have hK:=HS.out.kp;have hsk:=hK.size;have hs1:=HN.out.size;have hpl:pre.length≤680000:=by have:=hrel.out.1;omega
  have hMb:M≤m+680000:=by have:=HS.out.len;omega
  clear hpl;by_cases hlt:k < l.length
  ·have hRl:Rd wr bl Al (cI .i64 l):=(HR.out.nw HN.out).kp hK hne hne;have HRL:=hid hRl;obtain ⟨o,rfl,_,hc⟩:=hRl.get (k:=k) (by simpa using hlt);rw [List.getElem_map] at hc;have HV:=hid (List.getElem?_eq_getElem hlt);generalize l[k]=v at *;by_cases hk0:k=0
   ·subst hk0;rw [Nat.add_zero] at hc;have i0:(0:Int) < (l.length:Int):=by omega
    have e1:=uw_wrap v;have hul:=uw_lt v;clear hRl hK;go_wp2_with (go_at_call 133;refine (HS.out.write _ _ (uw v) 64 rfl rfl (by omega) hul (by omega)).mono ?_;rintro e w3 ⟨b3,A3,c3,rfl,h4⟩;have H4:=hid h4;clear h4)
    go_roundw
    case rel=>exact ⟨1,by omega,by go_num,_,d,_,b3,A3,c3,rfl,rfl,H4,hid (hrel.out.first HV.out)⟩
    case measure=>simp [intOf];omega
   ·obtain ⟨o',e',_,hcl⟩:=HRL.out.get (k:=k - 1) (by simp;omega);obtain rfl:o'=o:=by injection e' with e';injection e' with _ e' _;exact e'.symm
    rw [List.getElem_map] at hcl;have HL:=hid (List.getElem?_eq_getElem (l:=l) (i:=k - 1) (by omega));generalize l[k - 1]=last at *;have HNX:=hid (hrel.out.next (by omega) HV.out HL.out);have i0:(0:Int)≤(k:Int) - 1:=by omega
    have i1:(k:Int) - 1 < (l.length:Int):=by omega
    have i2:((k:Int) - 1).toNat=k - 1:=by omega
    have hk0':((k:Int) == 0)=false:=by rw [beq_eq_false_iff_ne];omega
    clear hRl hK;go_wp2_with fail;go_quiet (fail)
    go_wp2_with fail;go_quiet (fail)
    generalize hwq:World.drewN _ _=wq;have hNq:Nw wr wq:=by rw [← hwq];exact (Nw.drewN _ _).trans (Nw.drewN _ _)
    have HSq:=hid (HS.out.nw hNq);clear hwq hc hcl HS HRL hNq;generalize hx:wrap64 (wrap64 (v - last) - d)=x at *;generalize hd':wrap64 (v - last)=d' at *;have HF:=hid fun W=>form_any W x
    have hf:=tform_le x;have HB:=hid (show tbits x=bitsOf (tpre (tform x)) (tlen (tform x))++bitsOf (uw x) (twid (tform x)) from rfl);generalize tform x=f at *;obtain ⟨t1,t2,t3⟩:=tab_le hf;have e1:=uw_wrap x;have hul:=uw_lt x;go_wp2_with (go_at_call 134;refine (HF.out _).mono ?_;rintro e w2 ⟨rfl,hw2⟩;subst hw2)
    obtain ⟨ge0,ge1,ge2⟩:=HGE.out;have HTq:=hid (HT.out.kp HSq.out.kp (by omega) (by omega) (by omega));have HTK:=hid fun W (h:Kp b b w1 W)=>((HT.out.kp h (by omega) (by omega) (by omega)).at_ hf).2.2
    have hl0:=lt_of_block HTq.out.1;have hl1:=lt_of_block HTq.out.2.1;have q0:∀ p:Gp,(grow (wq.drewN p.n) p.os).cell? ⟨g0,f,none⟩=some (.int .u64 (tpre f:Int)):=cell_gr hl0 (HTq.out.at_ hf).1;have q1:∀ p:Gp,(grow (wq.drewN p.n) p.os).cell? ⟨g1,f,none⟩=some (.int .i64 (tlen f:Int)):=cell_gr hl1 (HTq.out.at_ hf).2.1;have f5:(f:Int) < 5:=by omega
    refine wp_region_gr_tail 7 (by kernel_rfl) (by kernel_rfl) ?_;simp only [List.take_succ_cons,List.take_zero,List.drop_succ_cons,List.drop_zero]
    repeat (quiet_step (fail))
    refine wpQuiet_nil ?_;rintro _ ⟨p,rfl⟩;generalize hw4:grow (wq.drewN p.n) p.os=w4;have hn4:Nw wq w4:=by rw [← hw4];exact Gr.nw ⟨p,rfl⟩
    have HS4:=hid (HSq.out.nw hn4);clear q0 q1 hw4 hn4 HTq hl0 hl1;have hn:=HNX.out;rw [HB.out,← List.append_assoc] at hn;have HN2:=hid hn;clear hn HNX HB;go_wp2_with (first
     | (go_at_call 133;refine (HS5.out.write _ _ (uw x) (twid f) rfl rfl (by omega) hul (by omega)).mono ?_;rintro e w6 ⟨b6,A6,c6,rfl,h6⟩;have HS6:=hid h6;clear h6)
     | (go_at_call 133;refine (HS4.out.write _ _ (tpre f) (tlen f) rfl rfl (by omega) (by omega) (by omega)).mono ?_;rintro e w5 ⟨b5,A5,c5,rfl,h5⟩;have HS5:=hid h5;have q2:=HTK.out _ h5.kp;clear h5))
    go_roundw
    case rel=>exact ⟨k+1,by omega,by go_num,_,d',_,b6,A6,c6,rfl,rfl,HS6,HN2⟩
    case measure=>simp [intOf];omega
  ·obtain rfl:k=l.length:=by omega
   have hp:=hrel.out.done;go_wp2;go_ret;rw [hp];obtain ⟨b',A',c',h1,h2,h3,h4,h5⟩:=HS.out.done;exact ⟨b',A',c',h1,h2,by omega,(HN.out.kp b b).trans h4 (.inl rfl) (.inl rfl),fun e=>⟨HN.out.trans (h5 e).1,by rcases (h5 e).2 with h | h;exact .inl (by omega);exact .inr h⟩⟩
end
section
open Go Go.RowKit Go.Sort
def PartS (w wr:World) (zs:List (Int × Nat)) (k b1:Nat) (A1:Option Addr) (c1 b2:Nat) (A2:Option Addr) (c2:Nat):Prop :=
 Ow wr b1 2 1 A1 k c1 (cI .i64 (tsOf (zs.take k)))∧Ow wr b2 92 1 A2 k c2 (cN .u64 (vsOf (zs.take k)))∧(k=0→A1=none∧c1=0∧A2=none∧c2=0)∧(0 < k→w.heap.size≤b1∧w.heap.size≤b2∧b1≠b2)∧Nw w wr
set_option maxRecDepth 100000 in
set_option maxHeartbeats 1600000 in
theorem parts_any (w:World) (b:Nat) (A:Option Addr) (n c:Nat) (zs:List (Int × Nat)) (hn:n=zs.length) (hm:n≤10000) (hr:Rd w b A (cS zs)) :
  Calls Tryz.prog 84 #[.slice A n c] w fun e w'=>∃ b1 A1 c1 b2 A2 c2,e=.returned (.tuple #[.slice A1 n c1,.slice A2 n c2])∧PartS w w' zs n b1 A1 c1 b2 A2 c2:=by
 subst hn;have HR:=hid hr;clear hr;go_enter Tryz.func84,Tryz.ntmps84
 go_wp2;go_loopw [4,5,6] (fun s u i wr=>∃ k:Nat,k≤zs.length∧i=.int .i64 k∧∃ (b1:Nat) (A1:Option Addr) (c1 b2:Nat) (A2:Option Addr) (c2:Nat),s=.slice A1 k c1∧u=.slice A2 k c2∧PartS w wr zs k b1 A1 c1 b2 A2 c2) (fun _ _ i _=>zs.length - (intOf i).toNat)
 case atStart=>exact ⟨0,by omega,rfl,w.heap.size,none,0,w.heap.size,none,0,rfl,rfl,⟨Ow.nil _ _ _ _,Ow.nil _ _ _ _,fun _=>⟨rfl,rfl,rfl,rfl⟩,by simp,Nw.refl w⟩⟩
 case round =>
  obtain ⟨k,hk,rfl,b1,A1,c1,b2,A2,c2,rfl,rfl,hS⟩:=hrel;by_cases hlt:k < zs.length
  ·obtain ⟨hO1,hO2,hnil,hb12,hN⟩:=hS;have hsz:=hN.size;obtain ⟨o,rfl,hbw,hc1,hc2⟩:=smp_at HR.out hlt;have HT:=hid (show zs.take (k+1)=zs.take k++[zs[k]] from List.take_succ_eq_append_getElem hlt);generalize zs[k]=z at *;obtain ⟨t,v⟩:=z;simp only [] at hc1 hc2;have hd1:=cell_old hN (by exact hbw) hc1;have HD2:=hid fun W (hN:Nw w W)=>cell_old hN (by exact hbw) hc2
   clear hc1 hc2;by_cases hk0:k=0
   ·subst hk0;obtain ⟨rfl,rfl,rfl,rfl⟩:=hnil rfl;have HT1:=hid (show tsOf (zs.take 1)=[t]∧vsOf (zs.take 1)=[v] from by have:=HT.out;simp at this;rw [this];exact ⟨rfl,rfl⟩);simp only [Nat.zero_mul,Nat.add_zero] at hd1;have i0:(0:Int) < (zs.length:Int):=by omega
    clear hO1 hO2 hb12 HT;go_wp2_with (first
     | (at_builtin;refine wpList_app1 E_i64 rfl (.tmp 13) (.tmp 19) rfl rfl (Ow.nil wr wr.heap.size _ _) rfl rfl (by omega) (by omega) ?_;intro b3 A3 c3 w3 h1 h2 h3 h4;have hN3:=hN.trans (h4 rfl).1;have hd2:=HD2.out _ hN3;simp only [Nat.zero_mul,Nat.add_zero] at hd2)
     | (at_builtin;refine wpList_app1 E_u64 rfl (.tmp 21) (.tmp 27) rfl rfl (Ow.nil w3 w3.heap.size _ _) rfl rfl (by omega) (by omega) ?_;intro b4 A4 c4 w4 h5 h6 h7 h8))
    go_roundw
    case rel =>
     have hn4:=(h8 rfl).1;have hl3:b3 < w3.heap.size:=h1.lt (by omega);have:=(h4 rfl).2;have:=(h8 rfl).2;have:=(h4 rfl).1.size;exact ⟨1,by omega,by go_num,b3,A3,c3,b4,A4,c4,rfl,rfl,⟨by rw [HT1.out.1];exact h1.nw hn4,by rw [HT1.out.2];exact h5,by simp,fun _=>⟨by omega,by omega,by omega⟩,hN3.trans hn4⟩⟩
    case measure=>simp [intOf];omega
   ·obtain ⟨hb1,hb2,hbb⟩:=hb12 (by omega);have HT1:=hid (show tsOf (zs.take (k+1))=tsOf (zs.take k)++[t]∧vsOf (zs.take (k+1))=vsOf (zs.take k)++[v] from by rw [HT.out];simp);have HW1:=hid hO1;have HW2:=hid hO2;have hb1w:=hO1.lt (by omega);have hb2w:=hO2.lt (by omega);clear hO1 hO2 hb12 HT hnil;go_wp2_with (first
     | (at_builtin;refine wpList_app1 E_i64 rfl (.tmp 13) (.tmp 19) rfl rfl HW1.out rfl rfl (by omega) (by omega) ?_;intro b3 A3 c3 w3 h1 h2 h3 h4;have hN3:=Kp.nw hN h3 hb1 hb1;have hd2:=HD2.out _ hN3;have HW3:=hid (HW2.out.kp h3 (Ne.symm hbb) (Ne.symm hbb)))
     | (at_builtin;refine wpList_app1 E_u64 rfl (.tmp 21) (.tmp 27) rfl rfl HW3.out rfl rfl (by omega) (by omega) ?_;intro b4 A4 c4 w4 h5 h6 h7 h8))
    go_roundw
    case rel =>
     have hl3:b3 < w3.heap.size:=h1.lt (by omega);have hs3:=h3.size;refine ⟨k+1,by omega,by go_num,b3,A3,c3,b4,A4,c4,rfl,rfl,⟨?_,?_,by simp,fun _=>⟨by omega,by omega,by omega⟩,Kp.nw hN3 h7 hb2 hb2⟩⟩
     ·rw [HT1.out.1];simpa using h1.kp h7 (by omega) (by omega)
     ·rw [HT1.out.2];simpa using h5
    case measure=>simp [intOf];omega
  ·obtain rfl:k=zs.length:=by omega
   go_wp2;go_ret2;exact ⟨b1,A1,c1,b2,A2,c2,rfl,hS⟩
theorem tput_pos {ts:List Int} (h:ts≠[]):64≤(tput ts).length:=by
 cases ts with
 | nil=>exact (h rfl).elim
 | cons t r=>simp only [tput,List.length_append,bitsOf_length];omega
set_option maxRecDepth 100000 in
set_option maxHeartbeats 1600000 in
theorem REncode_ok (w:World) (b:Nat) (A:Option Addr) (n c:Nat) (zs:List (Int × Nat)) (hn:n=zs.length) (h1:1≤n) (h120:n≤120) (hr:Rd w b A (cS zs)) (hx:InS zs) :
  Calls Tryz.prog 39 #[.slice A n c] w fun e w'=>∃ b' A' c',e=.returned (.tuple #[.slice A' (pk (cbits (tsOf zs) (vsOf zs))).length c',.int .i64 0]) ∧
   Ow w' b' 5 1 A' (pk (cbits (tsOf zs) (vsOf zs))).length c' (cN .u8 (pk (cbits (tsOf zs) (vsOf zs))))∧w.heap.size≤b'∧Nw w w':=by
 have hvl:(vsOf zs).length=n:=by simp [hn]
 have htl:(tsOf zs).length=n:=by simp [hn]
 have HP:=hid (parts_any w b A n c zs hn (by omega) hr);have HC:=hid (cbits_pk (tsOf zs) (vsOf zs) (by omega));have hTP:=tput_pos (ts:=tsOf zs) (by rintro e;rw [e] at htl;simp at htl;omega);have hTL:=tput_length_le (tsOf zs);have hVL:=vput_small (vsOf zs) (by omega) hx.v;have htg:=tagOf_in (vsOf zs);have HTD:=hid (tagOf_dict (vsOf zs));have HXV:=hid hx.v;have HZ:Hid (zs.take n=zs):=hid (by rw [hn,List.take_length]);have n0:((n:Int) == 0)=false:=by rw [beq_eq_false_iff_ne];omega
 have HVL:=hid hvl;have HTL:=hid htl;generalize hvs:vsOf zs=vs at *;generalize hts:tsOf zs=ts at *;have HVS:=hid hvs;have HTS:=hid hts;clear hn hr hx hvs hts hvl;rw [htl] at hTL;clear htl;go_enter Tryz.func39,Tryz.ntmps39
 go_wp2_with fail;refine HP.out.mono ?_;rintro e w1 ⟨b1,A1,c1,b2,A2,c2,rfl,hO1,hO2,_,hb12,hN1⟩;rw [HZ.out,HTS.out] at hO1;rw [HZ.out,HVS.out] at hO2;obtain ⟨hb1,hb2,hbb⟩:=hb12 (by omega);have hb1w:=hO1.lt (by omega);have hb2w:=hO2.lt (by omega);have HO1:=hid hO1;have HO2:=hid hO2;have HCh:=hid (RChoose_any w1 b2 A2 n c2 vs ⟨b1,hb1w,Ne.symm hbb⟩ HVL.out.symm (by omega) hO2.rd HXV.out);clear hO1 hO2 hb12 HP;generalize hT:tagOf vs=T at *;have HHT:=hid hT;clear hT;go_wp2_with fail;refine HCh.out.mono ?_;rintro e w2 ⟨rfl,hN2⟩;have hs2:=hN2.size;have HP2:=hid (RTPut_any w2 b2 b1 none A1 0 0 n c1 [] ts (Ow.nil _ _ _ _) HTL.out.symm (by omega) (by omega) (by omega) hbb (HO1.out.rd.nw hN2));go_wp2_with fail;refine HP2.out.mono ?_;rintro e w3 ⟨b3,A3,c3,rfl,hO3,_,_,hn3⟩;obtain ⟨hN3,h3⟩:=hn3 rfl;have hb3:w2.heap.size≤b3∧b3 < w3.heap.size:=by
  rcases h3 with h3 | rfl
  ·exact ⟨h3,hO3.lt (by omega)⟩
  ·rcases hO3 with ⟨_,h,_⟩ | ⟨h,_⟩
   ·omega
   ·cases h
 clear h3 hn3 HCh HP2;rw [List.nil_append] at hO3;rw [Nat.zero_add] at hO3 ⊢;have HV:=hid (RVPut_any w3 b3 b2 A3 A2 _ c3 n c2 T (tput ts) vs htg HTD.out hO3 HVL.out.symm (by omega) (by omega) hb3.2 (by omega) ((HO2.out.rd.nw hN2).nw hN3) HXV.out);have HN3:=hid ((hN1.trans hN2).trans hN3);clear hO3;generalize htb:tput ts=tb at *;generalize hvb:vput T vs=vb at *;go_wp2_with fail;refine HV.out.mono ?_;rintro e w4 ⟨b4,A4,c4,rfl,hO4,hb4,hK4,_⟩;have hs1:=hN1.size;have hN4:=Kp.nw HN3.out hK4 (by omega) (by omega);have HO4:=hid hO4;have HN4:=hid hN4;have hlen:tb.length+vb.length=(tb++vb).length:=by simp
 have hc2:(tb++vb).length≤100000:=by simp;omega
 have hC:=HC.out;rw [HVL.out] at hC;generalize tb++vb=cb at *;have hpl:(pk cb).length≤100000:=by rw [pk_length];omega
 have e1:((T:Int) % 256)=(T:Int):=by omega
 have e2:((n:Int) - 1) % 256=((n - 1:Nat):Int):=by omega
 have HPk:=hid fun W (hN:Nw w4 W)=>Pack_any W b4 A4 (tb.length+vb.length) c4 cb hlen (by omega) (HO4.out.nw hN).rd
 have HCC:=hid hC;clear hO4 hK4 HV hC HC hlen;generalize tb.length+vb.length=L at *;go_wp2_with fail;have hLit:=Ow.lit w4 5 1 2 #[.int .u8 (T:Int),.int .u8 ((n:Int) - 1)] rfl (by omega);have hNl:Nw w4 (w4.alloc (.cells #[.int .u8 (T:Int),.int .u8 ((n:Int) - 1)] 5)):=(Nw.refl _).alloc' _;have hs4:=HN4.out.size;obtain ⟨g5,hg5⟩:∃ g,g=w4.heap.size:=⟨_,rfl⟩;rw [← hg5] at hLit ⊢;have hge5:w.heap.size≤g5:=by omega
 clear hg5;generalize w4.alloc (.cells #[.int .u8 (T:Int),.int .u8 ((n:Int) - 1)] 5)=w5 at *;have HLit:=hid hLit;have HNL:=hid (HN4.out.trans hNl);refine (HPk.out _ hNl).mono ?_;clear hLit hNl HPk;rintro e w6 ⟨b6,A6,c6,rfl,hO6,hb6,hN6⟩;have HO6:=hid hO6;have HA6:Hid (A6=none→c6=0):=hid (by
  intro e;rcases HO6.out with ⟨_,_,h,_⟩ | ⟨h,_⟩
  ·exact h
  ·rw [e] at h;cases h)
 have HN6:=hid hN6;clear hO6 hN6;generalize hpc:pk cb=pc at *;clear hpc;go_wp2_with (at_builtin;refine wpList_app E_u8 rfl (.tmp 36) (.tmp 38) rfl rfl (HLit.out.nw HN6.out) rfl HO6.out.rd (by simp) HA6.out (oc_N _ _) (by simp only [maxLen];omega) (by omega) ?_;intro b7 A7 c7 w7 g1 g2 g3 g4;have G1:=hid g1;clear g1 g4)
 go_ret2;rw [HCC.out];have hs7:=HNL.out.size;have hs6:=HN6.out.size;have hN7:=Kp.nw (HNL.out.trans HN6.out) g3 hge5 hge5;refine ⟨b7,A7,c7,?_,?_,by omega,hN7⟩
 ·rw [show (T::(n - 1)::pc).length=2+pc.length from by simp;omega];rfl
 ·rw [show (T::(n - 1)::pc).length=2+pc.length from by simp;omega];have g1:=G1.out;have e:cN .u8 (T::(n - 1)::pc)=#[Value.int .u8 (T:Int),.int .u8 ((n:Int) - 1)].toList++cN .u8 pc:=by
   rw [show ((n:Int) - 1)=((n - 1:Nat):Int) from by omega];rfl
  rw [e];exact g1
end
end Go.Proofs.YtobfpajapgakdaaGreatDoor
