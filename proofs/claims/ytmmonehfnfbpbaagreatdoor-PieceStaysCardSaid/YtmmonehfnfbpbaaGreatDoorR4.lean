/- Laws that the last text builds on. -/
import Derived.Test.YtmmonehfnfbpbaaGreatDoorR3
namespace Go.Proofs.YtmmonehfnfbpbaaGreatDoor
open Go.Lib(hid)
section
open Go Go.RowKit Go.Lib Go.Sort Go.Shelf
open Go.ChangeMaps (setBlock)
open Go.MapKept (heap_set)
attribute [local go_sem] Oper.semAt_some
def WK (l:List (Lab × Value)) (W:World) (r b:Nat) (js:List Nat):Prop :=
 W.heap[b]? = some (.map (entsE l) l.length)∧W.heap[r]? = some (.mapIter (some b) l.length js.toArray l.length)∧js.Nodup∧∀ j∈js,j < l.length
theorem entsE_mem {l:List (Lab × Value)} {e:MapEntry} (he:e∈(entsE l).toList):∃ j,∃ hj:j < l.length,e=entE j l[j]:=by
 obtain ⟨j,hj⟩:=List.getElem?_of_mem he;rw [entsE_get] at hj;obtain ⟨p,hp,rfl⟩:=Option.map_eq_some_iff.1 hj;obtain ⟨hl,rfl⟩:=List.getElem?_eq_some_iff.1 hp;exact ⟨j,hl,rfl⟩
theorem entsE_born (l:List (Lab × Value)):(entsE l).toList.map (·.born)=List.range l.length:=by
 apply List.ext_getElem?
 intro i;rw [List.getElem?_map,entsE_get];by_cases hi:i < l.length
 ·simp [hi,entE]
 ·simp [hi]
theorem walk_next {l:List (Lab × Value)} {W:World} {r b:Nat} {js:List Nat} (h:WK l W r b js) (ty:TypeId) :
  ((∀ j < l.length,j∈js)∧(Instr.next (.pointer (some ⟨r,0,none⟩)) false ty).run Tryz.prog W=.ok (.tuple #[.bool false]) W) ∨
  ∃ (j:Nat) (hj:j < l.length) (W':World),j ∉ js∧(Instr.next (.pointer (some ⟨r,0,none⟩)) false ty).run Tryz.prog W=.ok (.tuple #[.bool true,labKey l[j].1,l[j].2]) W'∧WK l W' r b (js++[j])∧W.grownBy W' (some r)∧W'.heap.size=W.heap.size ∧
   (Instr.entry (.pointer (some ⟨r,0,none⟩))).run Tryz.prog W'=.ok (.tuple #[labKey l[j].1,l[j].2]) W':=by
 obtain ⟨hb,hr,hd,hlt⟩:=h;have hne:r≠b:=fun e=>by rw [e,hb] at hr;cases hr
 rcases run_next_at (P:=Tryz.prog) W ty r b l.length l.length js.toArray (entsE l) l.length hr hb (fun x hx=>by obtain ⟨j,hj,rfl⟩:=entsE_mem hx;exact hj) (Nat.le_refl _) with ⟨h0,hrun⟩ | ⟨e,he,w1,hal,hrun⟩
 ·refine .inl ⟨fun j hj=>?_,hrun⟩;have:=all_seen _ _ h0 (entE j l[j]) (List.mem_of_getElem? (i:=j) (by rw [entsE_get];simp [hj]));simpa [entE] using this
 ·obtain ⟨hem,hes⟩:=mem_left he;obtain ⟨j,hj,rfl⟩:=entsE_mem hem;have hr1:w1.heap[r]? = some (.mapIter (some b) l.length js.toArray l.length):=by rcases hal with rfl | rfl<;>exact hr
  have hb1:w1.heap[b]? = some (.map (entsE l) l.length):=by rcases hal with rfl | rfl<;>exact hb
  have hset:=heap_set (o':=.mapIter (some b) l.length (js.toArray.push j) l.length) hr1;have hb':(setBlock w1 r (.mapIter (some b) l.length (js.toArray.push j) l.length)).heap[b]? = some (.map (entsE l) l.length):=(hset.2 b (fun e1=>hne e1.symm)).trans hb1;have hnj:j ∉ js:=by simpa [entE] using hes
  refine .inr ⟨j,hj,_,hnj,hrun,⟨hb',?_,?_,?_⟩,?_,?_,run_entry_at _ r b l.length js.toArray (entsE l) l.length (entE j l[j]) hset.1 hb' hem (by rw [entsE_born];exact List.nodup_range)⟩
  ·rw [show (js++[j]).toArray=js.toArray.push j from by simp];exact hset.1
  ·refine List.nodup_append.2 ⟨hd,by simp,fun a ha c hc e1=>?_⟩;simp only [List.mem_singleton] at hc;subst hc;exact hnj (e1 ▸ ha)
  ·intro i hi;rcases List.mem_append.1 hi with h | h
   ·exact hlt i h
   ·simp only [List.mem_singleton] at h;omega
  ·rcases hal with rfl | rfl<;>exact ⟨rfl,rfl,rfl,by simp [setBlock],fun i _ hi=>hset.2 i (fun e1=>hi (by rw [e1]))⟩
  ·rcases hal with rfl | rfl<;>simp [setBlock]
theorem nodup_lt_len {js:List Nat} {n:Nat} (hd:js.Nodup) (hlt:∀ j∈js,j < n):js.length≤n:=by
 have hp:js.Perm ((List.range n).filter (fun i=>decide (i∈js))):=(List.perm_ext_iff_of_nodup hd (List.nodup_range.filter _)).2 (fun j=>by
  simp only [List.mem_filter,List.mem_range,decide_eq_true_eq];exact ⟨fun h=>⟨hlt j h,h⟩,fun h=>h.2⟩)
 rw [hp.length_eq];have:=List.length_filter_le (fun i=>decide (i∈js)) (List.range n);simpa using this
theorem perm_of_all {l:List (Lab × Value)} {js:List Nat} (hd:js.Nodup) (hlt:∀ j∈js,j < l.length) (hall:∀ j < l.length,j∈js) (f:Nat→Lab) (hf:∀ j (h:j < l.length),f j=l[j].1):(js.map f).Perm (l.map (·.1)):=by
 have hp:js.Perm (List.range l.length):=(List.perm_ext_iff_of_nodup hd List.nodup_range).2 (fun j=>by rw [List.mem_range];exact ⟨hlt j,hall j⟩);have:(List.range l.length).map f=l.map (·.1):=by
  apply List.ext_getElem
  ·simp
  ·intro i h1 h2;rw [List.getElem_map,List.getElem_range,List.getElem_map,hf i (by simpa using h2)]
 rw [← this];exact hp.map f
section
variable {F:Fence} {n:Nat} {P:Program} {ops:Array Oper} {rest:List Oper} {o:Oper} {a:Act} {Q:Exit→Act→World→Prop} {w:World}
theorem wpListIn_rangeM (hg:o.guard=none) (m:Operand) (t k e:TypeId) (hop:o.op=Op.range t m) (ht:P.underlying t=some (.map k e)) (b:Nat) (es:Array MapEntry) (clock:Nat) (hm:a.eval m=.map (some b)) (hb:w.heap[b]? = some (.map es clock))
  (hK:wpListIn F n P ops Q rest (a.put o.dst (.pointer (some ⟨w.heap.size,0,none⟩))) (w.alloc (.mapIter (some b) clock #[] clock))):wpListIn F n P ops Q (o::rest) a w:=by
 refine wpListIn_plain hg fun K' hK'=>?_
 unfold Oper.wpIn;refine ⟨by simp [Oper.about,hop],?_⟩;rw [Oper.semAt_plain F _ _ (by rw [hop];intro c hc';cases hc')];simp [execOp,hop,hm,run_range_map w t k e b es clock ht hb,Result.andThen];exact hK' _ _ hK
theorem wpListIn_nextM {ops:Array Oper} {rest:List Oper} {o:Oper} {a:Act} (hg:o.guard=none) (it:Operand) (hop:o.op=Op.next it false) {l:List (Lab × Value)} {r b:Nat} {js:List Nat} (hit:a.eval it=.pointer (some ⟨r,0,none⟩)) (h:WK l w r b js)
  (hDone:(∀ j < l.length,j∈js)→wpListIn F n Tryz.prog ops Q rest (a.put o.dst (.tuple #[.bool false])) w)
  (hMore:∀ (j:Nat) (hj:j < l.length) (w':World),j ∉ js→WK l w' r b (js++[j])→w.grownBy w' (some r)→w'.heap.size=w.heap.size→(Instr.entry (.pointer (some ⟨r,0,none⟩))).run Tryz.prog w'=.ok (.tuple #[labKey l[j].1,l[j].2]) w'→wpListIn F n Tryz.prog ops Q rest (a.put o.dst (.tuple #[.bool true,labKey l[j].1,l[j].2])) w') :
  wpListIn F n Tryz.prog ops Q (o::rest) a w:=by
 refine wpListIn_plain hg fun K' hK'=>?_
 unfold Oper.wpIn;refine ⟨by simp [Oper.about,hop],?_⟩;rw [Oper.semAt_plain F _ _ (by rw [hop];intro c hc';cases hc')];rcases walk_next h o.type with ⟨h0,hrun⟩ | ⟨j,hj,w',hn,hrun,h1,h2,h3,h4⟩
 ·simp [execOp,hop,hit,hrun,Result.andThen];exact hK' _ _ (hDone h0)
 ·simp [execOp,hop,hit,hrun,Result.andThen];exact hK' _ _ (hMore j hj w' hn h1 h2 h3 h4)
end
def KpM (B:Nat) (W W':World):Prop:=W'.heap[B]? = W.heap[B]?∧(∀ (k:Nat) (o:Obj),W.heap[k]? = some o→o.isWalk=true→W'.heap[k]? = some o)∧W.heap.size≤W'.heap.size
theorem KpM.trans {B:Nat} {X Y Z:World} (h:KpM B X Y) (k:KpM B Y Z):KpM B X Z:=⟨k.1.trans h.1,fun i o hi ho=>k.2.1 i o (h.2.1 i o hi ho) ho,Nat.le_trans h.2.2 k.2.2⟩
theorem Keys_any (w:World) (mb:Option Nat):Calls Tryz.prog 126 #[.map mb] w fun e w'=>e=.returned (.func (.func 194) #[] #[.pointer (some ⟨w.heap.size,0,none⟩)])∧w'=w.alloc (.cells #[.map mb] 206):=by
 go_enter Tryz.func126,Tryz.ntmps126
 go_wp2;go_ret;exact ⟨rfl,rfl⟩
set_option maxRecDepth 100000 in
theorem keys_stops (n:Nat) (hn:1≤n) (w:World) (B b:Nat) (l:List (Lab × Value)) (hB:w.heap[B]? = some (.cells #[.map (some b)] 206 (0,0))) (hb:w.heap[b]? = some (.map (entsE l) l.length)) :
  SeqStopsK Fence.wide n Tryz.prog 194 #[.pointer (some ⟨B,0,none⟩)] (fun x:Lab=>#[labKey x]) (KpM B) (fun xs=>xs.Perm (l.map (·.1))) (fun _=>True) l.length w:=by
 intro lp J Jx W hW hJ hJx hY h0;have hBW:=(hW.block B (lt_of_block hB)).trans hB;have hbW:=(hW.block b (lt_of_block hb)).trans hb;have hBc:W.cell? ⟨B,0,none⟩=some (.map (some b)):=by simp [World.cell?,hBW]
 have HY:=hid hY;have HJ:=hid hJ;have HB:=hid hBW;obtain ⟨f,hf⟩:∃ f:Nat→Lab,∀ j (h:j < l.length),f j=l[j].1:=⟨fun j=>if h:j < l.length then l[j].1 else (.empty,.empty),fun j h=>by simp [h]⟩;have HF:=hid hf;have HW0:Hid (WK l (W.alloc (.mapIter (some b) l.length #[] l.length)) W.heap.size b []):=hid ⟨(heap_alloc_old _ _ (lt_of_block hbW)).trans hbW,heap_alloc_new _ _,List.nodup_nil,by simp⟩;have HJ0:Hid (J [] (W.alloc (.mapIter (some b) l.length #[] l.length))):=hid (hJ [] W _ none h0 (World.grownBy_alloc W _ none) (fun r e=>by cases e));have HK0:Hid ((W.alloc (.mapIter (some b) l.length #[] l.length)).heap[B]? = W.heap[B]?):=hid (heap_alloc_old _ _ (lt_of_block hBW));clear hY hJ hBW hB hb hf h0;refine callsIn_of_wp Tryz.func194 rfl trivial ?_ rfl;simp only [Tryz.ntmps194,List.size_toArray,List.length_cons,List.length_nil,Nat.reduceAdd,Nat.reduceSub,Array.replicate_succ,Array.replicate_zero,List.push_toArray,List.append_toArray,List.nil_append,List.cons_append]
 gi_wp2_with (first
  | (gi_at_range;refine wpListIn_rangeM rfl (.tmp 4) 206 _ _ rfl map_und b _ _ rfl hbW ?_)
  | gi_in)
 generalize hR0:W.heap.size=r0 at HW0;have hr0:W.heap.size≤r0:=by omega
 gi_loopw [3] (fun _ wr=>∃ js:List Nat,Hid (WK l wr r0 b js)∧Hid (J (js.map f) wr)∧Hid (wr.heap[B]? = W.heap[B]?)) (fun _ wr=>match wr.heap[r0]? with | some (.mapIter _ _ seen _)=>l.length - seen.size | _=>0)
 case atStart=>exact ⟨[],HW0,HJ0,HK0⟩
 case round =>
  obtain ⟨js,HWK,HJs,HKM⟩:=hrel
  gi_wp2_with (first
   | (gi_at_next;refine wpListIn_nextM rfl (.tmp 5) rfl rfl HWK.out ?_ ?_)
   | gi_in)
  ·intro hall
   gi_wp2
   go_end0
   exact ⟨⟨_,rfl⟩,.inl ⟨_,perm_of_all HWK.out.2.2.1 HWK.out.2.2.2 hall f HF.out,HJs.out⟩⟩
  ·intro j hj w2 hnj hwk hg2 hs2 hen;have hfj:=HF.out j hj;have hpl:(js.map f).length < l.length:=by
    rw [List.length_map];have hq:=hwk.2.2.1;have hq2:=hwk.2.2.2;have:=nodup_lt_len hq hq2;simp at this;omega
   have HM:=hid (show (js++[j]).map f=js.map f++[f j] from by simp);have hJ1:J (js.map f) w2:=HJ.out _ wr _ (some r0) HJs.out hg2 (fun r e=>by cases e;exact ⟨hr0,_,HWK.out.2.1,rfl⟩);have hrB:B≠r0:=fun e=>by
    have:=HKM.out.trans HB.out;rw [e,HWK.out.2.1] at this;cases this
   have hBl:=lt_of_block (HKM.out.trans HB.out);have hK1:w2.heap[B]? = W.heap[B]?:=(hg2.block B hBl (by simp [hrB])).trans HKM.out;have hm2:(match w2.heap[r0]? with | some (.mapIter _ _ seen _)=>l.length - seen.size | _=>0) < (match wr.heap[r0]? with | some (.mapIter _ _ seen _)=>l.length - seen.size | _=>0):=by
    rw [hwk.2.1,HWK.out.2.1];simp at hpl ⊢;omega
   rw [← hfj] at hen ⊢;generalize l[j]=p at *;generalize f j=x at *;obtain ⟨a,d⟩:=x;have hJ2:J (js.map f) (w2.alloc (.cells #[.string a,.string d] 96)):=HJ.out _ w2 _ none hJ1 (World.grownBy_alloc _ _ none) (fun r e=>by cases e);obtain ⟨fn,tmps,assign,body,hy,hR⟩:=HY.out _ (a,d) _ hJ2 hpl;have HR:=hid hR;have HWK2:=hid hwk;have HEN:=hid hen;have HK1:=hid hK1;have HM2:=hid hm2;have hBl2:B < w2.heap.size:=by omega
   clear hR hJ1 hJ2 hpl hwk hfj hg2 hs2 hK1 hm2
   gi_wp2
   refine HR.out.mono ?_;rintro e W3 (⟨rfl,hJ3,hk3⟩ | ⟨rfl,hJx3⟩)
   ·have HJ3:=hid hJ3;have hb2:=HWK2.out.1;have hr2:=HWK2.out.2.1;have hwk3:WK l W3 r0 b (js++[j]):=⟨hk3.2.1 b _ ((heap_alloc_old _ _ (lt_of_block hb2)).trans hb2) rfl,hk3.2.1 r0 _ ((heap_alloc_old _ _ (lt_of_block hr2)).trans hr2) rfl,HWK2.out.2.2⟩;have HWK3:=hid hwk3;have HK3:=hid (hk3.1.trans ((heap_alloc_old _ _ hBl2).trans HK1.out));have HM3:=hid (show (match W3.heap[r0]? with | some (.mapIter _ _ seen _)=>l.length - seen.size | _=>0) < (match wr.heap[r0]? with | some (.mapIter _ _ seen _)=>l.length - seen.size | _=>0) from by
     have:=HM2.out;rw [hr2] at this;rw [hwk3.2.1];exact this)
    clear hJ3 hk3 hb2 hr2 hwk3
    gi_wp2
    go_roundw
    case rel=>exact ⟨js++[j],HWK3,by rw [HM.out];exact HJ3,HK3⟩
    case measure=>exact HM3.out
   ·gi_wp2
    refine bodyPost_ret (results_none rfl _ _ _) rfl ?_;exact ⟨⟨_,rfl⟩,.inr ⟨_,trivial,hJx3⟩⟩
end
section
open Go.Sort
abbrev ltN:Nat→Nat→Bool:=fun x y=>decide (x < y)
theorem swo_ltN:SWO ltN:=⟨fun x=>by simp,fun x y z h1 h2=>by simp at *;omega,fun x y z h1 h2=>by simp at *;omega⟩
structure St (x y:Nat) (d:Array Nat) (a b:Nat) (e:Array Nat):Prop where
 hx:x≤a
 hab:a≤b
 hy:b≤y
 hyd:y≤d.size
 size:e.size=d.size
 perm:PermIn x y d e
 below:Below ltN a b e
 glue:∀ f,PermIn a b e f→SortedIn ltN a b f→SortedIn ltN x y f
theorem St.start {x y:Nat} {d:Array Nat} (h:x≤y) (hy:y≤d.size) (hb:Below ltN x y d):St x y d x y d :=
 ⟨Nat.le_refl _,h,Nat.le_refl _,hy,rfl,permIn_refl _ _ _,hb,fun _ _ h=>h⟩
theorem St.step {x y a b:Nat} {d e f:Array Nat} (h:St x y d a b e) (hp:PermIn a b e f):St x y d a b f:=by
 have hb:b≤e.size:=by rw [h.size];exact Nat.le_trans h.hy h.hyd
 have hf:f.size=e.size:=hp.1;have hy2:y≤f.size:=by rw [hf,h.size];exact h.hyd
 exact ⟨h.hx,h.hab,h.hy,h.hyd,by rw [hf,h.size],permIn_trans _ _ _ _ _ h.perm (permIn_mono _ _ _ _ _ _ h.hx h.hy (by rw [h.size];exact h.hyd) hp),h.below.perm hb hp,
  fun g hg hs=>h.glue g (permIn_trans _ _ _ _ _ hp hg) hs⟩
theorem St.done {x y a b:Nat} {d e f:Array Nat} (h:St x y d a b e) (hp:PermIn a b e f) (hs:SortedIn ltN a b f):f.size=d.size∧PermIn x y d f∧SortedIn ltN x y f :=
 ⟨(h.step hp).size,(h.step hp).perm,h.glue f hp hs⟩
theorem St.eq {x y a b m p:Nat} {d e f:Array Nat} (h:St x y d a b e) (ha:0 < a) (hpe:p≤e[a - 1]!) (hm:a < m) (hmb:m≤b) (hp:PermIn a b e f) (h1:∀ t,a≤t→t < m→f[t]!≤p) (h2:∀ t,m≤t→t < b→p < f[t]!):St x y d m b f:=by
 have hb:b≤e.size:=by rw [h.size];exact Nat.le_trans h.hy h.hyd
 have hS:=h.step hp;have hf:f.size=e.size:=hp.1;refine ⟨by have:=h.hx;omega,hmb,h.hy,h.hyd,hS.size,hS.perm,.inr fun t ht ht'=>?_,fun g hg hs=>?_⟩
 ·have:=h1 (m - 1) (by omega) (by omega);have:=h2 t ht ht';simp only [decide_eq_false_iff_not];omega
 ·have hpg:PermIn a b e g:=permIn_trans _ _ _ _ _ hp (permIn_mono _ _ _ _ _ _ (by omega) (Nat.le_refl _) (by omega) hg);refine h.glue g hpg (sorted_glue_eq swo_ltN p hs ?_ ?_ ?_)
  ·intro t ht ht';rw [hg.2.1 t (.inl ht')];have:=h1 t ht ht';simp only [decide_eq_false_iff_not];omega
  ·intro t ht ht';rw [hg.2.1 t (.inl ht')];rcases hS.below with h0 | h0
   ·omega
   ·have h3:=h0 t ht (by omega);rw [hp.2.1 (a - 1) (.inl (by omega))] at h3;simp only [decide_eq_false_iff_not] at h3 ⊢;omega
  ·intro t ht ht';have:=permIn_all f g m b (fun z=>p < z) (by omega) hg (fun i hi hi'=>h2 i hi hi') t ht ht';simp only [decide_eq_true_eq];exact this
theorem St.left {x y a b m:Nat} {d e f g:Array Nat} (h:St x y d a b e) (hm:a≤m) (hmb:m < b) (hp:PermIn a b e f) (h1:∀ t,a≤t→t < m→f[t]! < f[m]!) (h2:∀ t,m < t→t < b→f[m]!≤f[t]!)
  (hg:PermIn a m f g) (hs:SortedIn ltN a m g):St x y d (m+1) b g:=by
 have hb:b≤e.size:=by rw [h.size];exact Nat.le_trans h.hy h.hyd
 have hf:f.size=e.size:=hp.1;have hgs:g.size=f.size:=hg.1;have hpg:PermIn a b e g:=permIn_trans _ _ _ _ _ hp (permIn_mono _ _ _ _ _ _ (Nat.le_refl _) (by omega) (by omega) hg);have hS:=h.step hpg;have hgm:g[m]! = f[m]!:=hg.2.1 m (.inr (Nat.le_refl _));have hlo:∀ t,a≤t→t < m→g[t]! < f[m]!:=permIn_all f g a m (fun z=>z < f[m]!) (by omega) hg h1;have hhi:∀ t,m < t→t < b→f[m]!≤g[t]!:=fun t ht ht'=>by rw [hg.2.1 t (.inr (by omega))];exact h2 t ht ht'
 refine ⟨by have:=h.hx;omega,by omega,h.hy,h.hyd,hS.size,hS.perm,.inr fun t ht ht'=>?_,fun k hk hks=>?_⟩
 ·rw [Nat.add_sub_cancel,hgm];have:=hhi t (by omega) ht';simp only [decide_eq_false_iff_not];omega
 ·have hkm:∀ t,t≤m→k[t]! = g[t]!:=fun t ht=>hk.2.1 t (.inl (by omega))
  refine h.glue k (permIn_trans _ _ _ _ _ hpg (permIn_mono _ _ _ _ _ _ (by omega) (Nat.le_refl _) (by omega) hk)) (sorted_glue swo_ltN (hs.congr fun t _ ht=>hkm t (by omega)) hks ?_ ?_)
  ·intro t ht ht';rw [hkm t (by omega),hkm m (Nat.le_refl _),hgm];simp only [decide_eq_true_eq];exact hlo t ht ht'
  ·intro t ht ht';rw [hkm m (Nat.le_refl _),hgm];have:=permIn_all g k (m+1) b (fun z=>f[m]!≤z) (by omega) hk (fun i hi hi'=>hhi i (by omega) hi') t (by omega) ht';simp only [decide_eq_false_iff_not];omega
theorem St.right {x y a b m:Nat} {d e f g:Array Nat} (h:St x y d a b e) (hm:a≤m) (hmb:m < b) (hp:PermIn a b e f) (h1:∀ t,a≤t→t < m→f[t]! < f[m]!) (h2:∀ t,m < t→t < b→f[m]!≤f[t]!)
  (hg:PermIn (m+1) b f g) (hs:SortedIn ltN (m+1) b g):St x y d a m g:=by
 have hb:b≤e.size:=by rw [h.size];exact Nat.le_trans h.hy h.hyd
 have hf:f.size=e.size:=hp.1;have hgs:g.size=f.size:=hg.1;have hpg:PermIn a b e g:=permIn_trans _ _ _ _ _ hp (permIn_mono _ _ _ _ _ _ (by omega) (Nat.le_refl _) (by omega) hg);have hS:=h.step hpg;have hgm:∀ t,t≤m→g[t]! = f[t]!:=fun t ht=>hg.2.1 t (.inl (by omega))
 have hhi:∀ t,m < t→t < b→f[m]!≤g[t]!:=fun t ht ht'=>permIn_all f g (m+1) b (fun z=>f[m]!≤z) (by omega) hg (fun i hi hi'=>h2 i (by omega) hi') t (by omega) ht'
 refine ⟨h.hx,hm,by have:=h.hy;omega,h.hyd,hS.size,hS.perm,hS.below.mono (by omega),fun k hk hks=>?_⟩;have hkm:∀ t,m≤t→k[t]! = g[t]!:=fun t ht=>hk.2.1 t (.inr ht)
 refine h.glue k (permIn_trans _ _ _ _ _ hpg (permIn_mono _ _ _ _ _ _ (Nat.le_refl _) (by omega) (by omega) hk)) (sorted_glue swo_ltN hks (hs.congr fun t ht _=>hkm t (by omega)) ?_ ?_)
 ·intro t ht ht';rw [hkm m (Nat.le_refl _),hgm m (Nat.le_refl _)];have:=permIn_all g k a m (fun z=>z < f[m]!) (by omega) hk (fun i hi hi'=>by rw [hgm i (by omega)];exact h1 i hi hi') t ht ht';simp only [decide_eq_true_eq];exact this
 ·intro t ht ht';rw [hkm m (Nat.le_refl _),hkm t (by omega),hgm m (Nat.le_refl _)];have:=hhi t ht ht';simp only [decide_eq_false_iff_not];omega
theorem St.belowL {x y a b m:Nat} {d e f:Array Nat} (h:St x y d a b e) (hmb:m < b) (hp:PermIn a b e f):Below ltN a m f:=(h.step hp).below.mono (by omega)
theorem belowR {b m:Nat} {f:Array Nat} (h2:∀ t,m < t→t < b→f[m]!≤f[t]!):Below ltN (m+1) b f:=.inr fun t ht ht'=>by
 rw [Nat.add_sub_cancel];have:=h2 t (by omega) ht';simp only [decide_eq_false_iff_not];omega
end
section
open Go
def wd (c:Nat):Nat:=if c=0 then 0 else Lib.bitLen (c - 1)
theorem bitLenAux_spec:∀ (f x:Nat),x < 2 ^ f→x < 2 ^ Lib.bitLenAux f x∧(x≠0→2 ^ (Lib.bitLenAux f x - 1)≤x∧0 < Lib.bitLenAux f x):=by
 intro f;induction f with
 | zero=>intro x h;simp [Lib.bitLenAux];omega
 | succ f ih =>
  intro x h;rw [Nat.pow_succ] at h;unfold Lib.bitLenAux;by_cases h0:x=0
  ·simp [h0]
  ·rw [if_neg h0];obtain ⟨h1,h2⟩:=ih (x / 2) (by omega);rw [Nat.add_comm 1,Nat.pow_succ,Nat.add_sub_cancel];refine ⟨by omega,fun _=>⟨?_,by omega⟩⟩;by_cases h3:x / 2=0
   ·have:Lib.bitLenAux f (x / 2)=0:=by rw [h3];cases f<;>simp [Lib.bitLenAux]
    rw [this];simp;omega
   ·obtain ⟨h4,h5⟩:=h2 h3;have e:2 ^ Lib.bitLenAux f (x / 2)=2 ^ (Lib.bitLenAux f (x / 2) - 1)*2:=by rw [← Nat.pow_succ];congr 1;omega
    omega
theorem wd_spec (c:Nat) (h:c≤18446744073709551616):c≤2 ^ wd c∧∀ n,c≤2 ^ n→wd c≤n:=by
 unfold wd;by_cases h0:c=0
 ·simp [h0]
 ·rw [if_neg h0];have h64:(2:Nat) ^ 64=18446744073709551616:=by decide
  obtain ⟨h1,h2⟩:=bitLenAux_spec 64 (c - 1) (by omega);refine ⟨by unfold Lib.bitLen;omega,fun n hn=>?_⟩;by_cases h3:c - 1=0
  ·have:Lib.bitLen (c - 1)=0:=by rw [h3];decide
   omega
  ·obtain ⟨h4,h5⟩:=h2 h3;unfold Lib.bitLen;rcases Nat.lt_or_ge n (Lib.bitLenAux 64 (c - 1)) with hlt | hge
   ·have:=Nat.pow_le_pow_right (n:=2) (by omega) (show n≤Lib.bitLenAux 64 (c - 1) - 1 from by omega);omega
   ·exact hge
theorem wd_le (c:Nat) (h:c≤128):wd c≤7:=(wd_spec c (by omega)).2 7 (by simpa using h)
theorem wd_le64 (c:Nat) (h:c≤18446744073709551616):wd c≤64:=(wd_spec c h).2 64 (by simpa using h)
theorem asc_ext:∀ (a b:List Nat),a.Pairwise (· < ·)→b.Pairwise (· < ·)→(∀ x,x∈a↔x∈b)→a=b:=by
 intro a;induction a with
 | nil =>
  intro b _ _ h;cases b with
  | nil=>rfl
  | cons y l=>exact absurd ((h y).2 (by simp)) (by simp)
 | cons x l ih =>
  intro b ha hb h;cases b with
  | nil=>exact absurd ((h x).1 (by simp)) (by simp)
  | cons y m =>
   rw [List.pairwise_cons] at ha hb;have e:x=y:=by
    have h1:=(h x).1 (by simp);have h2:=(h y).2 (by simp);rw [List.mem_cons] at h1 h2;rcases h1 with h1 | h1
    ·exact h1
    ·rcases h2 with h2 | h2
     ·exact h2.symm
     ·have:=ha.1 y h2;have:=hb.1 x h1;omega
   subst e;congr 1
   refine ih m ha.2 hb.2 fun z=>?_
   have hz:=h z;rw [List.mem_cons,List.mem_cons] at hz;constructor
   ·intro hl;rcases hz.1 (.inr hl) with e | e
    ·have:=ha.1 z hl;omega
    ·exact e
   ·intro hl;rcases hz.2 (.inr hl) with e | e
    ·have:=hb.1 z hl;omega
    ·exact e
def ins (x:Nat):List Nat→List Nat
 | []=>[x]
 | y::l=>if x < y then x::y::l else if x=y then y::l else y::ins x l
def dict (l:List Nat):List Nat:=l.foldl (fun d x=>ins x d) []
theorem ins_mem (x z:Nat) (d:List Nat):z∈ins x d↔z=x∨z∈d:=by
 induction d with
 | nil=>simp [ins]
 | cons y l ih =>
  unfold ins;split
  ·simp
  ·split
   ·rename_i h;subst h;simp
   ·simp only [List.mem_cons,ih];constructor
    ·rintro (h | h | h)<;>simp [h]
    ·rintro (h | h | h)<;>simp [h]
theorem ins_asc (x:Nat) (d:List Nat) (h:d.Pairwise (· < ·)):(ins x d).Pairwise (· < ·):=by
 induction d with
 | nil=>simp [ins]
 | cons y l ih =>
  rw [List.pairwise_cons] at h;unfold ins;split
  ·rename_i hxy
   rw [List.pairwise_cons,List.pairwise_cons];refine ⟨fun z hz=>?_,h.1,h.2⟩;rw [List.mem_cons] at hz;rcases hz with rfl | hz
   ·exact hxy
   ·have:=h.1 z hz;omega
  ·split
   ·rw [List.pairwise_cons];exact h
   ·rw [List.pairwise_cons];refine ⟨fun z hz=>?_,ih h.2⟩;rcases (ins_mem x z l).1 hz with rfl | hz
    ·omega
    ·exact h.1 z hz
theorem foldl_ins (l:List Nat):∀ d:List Nat,d.Pairwise (· < ·)→(l.foldl (fun d x=>ins x d) d).Pairwise (· < ·)∧∀ z,z∈l.foldl (fun d x=>ins x d) d↔z∈l∨z∈d:=by
 induction l with
 | nil=>intro d h;exact ⟨h,fun z=>by simp⟩
 | cons x l ih =>
  intro d h;obtain ⟨h1,h2⟩:=ih (ins x d) (ins_asc x d h);refine ⟨h1,fun z=>?_⟩;rw [List.foldl_cons,h2 z,ins_mem,List.mem_cons];constructor
  ·rintro (h | h | h)<;>simp [h]
  ·rintro ((h | h) | h)<;>simp [h]
theorem dict_asc (l:List Nat):(dict l).Pairwise (· < ·):=(foldl_ins l [] List.Pairwise.nil).1
theorem dict_mem (l:List Nat) (x:Nat):x∈dict l↔x∈l:=by
 have:=(foldl_ins l [] List.Pairwise.nil).2 x;simpa [dict] using this
theorem dict_eq (l d:List Nat) (h1:d.Pairwise (· < ·)) (h2:∀ x,x∈d↔x∈l):d=dict l :=
 asc_ext _ _ h1 (dict_asc l) fun x=>by rw [h2,dict_mem]
theorem dict_snoc (l:List Nat) (x:Nat):dict (l++[x])=ins x (dict l):=by simp [dict]
theorem ins_length (x:Nat) (d:List Nat):(ins x d).length≤d.length+1:=by
 induction d with
 | nil=>simp [ins]
 | cons y l ih =>
  unfold ins;split
  ·simp
  ·split
   ·simp
   ·simp;omega
theorem dict_length (l:List Nat):(dict l).length≤l.length:=by
 have:∀ (l d:List Nat),(l.foldl (fun d x=>ins x d) d).length≤d.length+l.length:=by
  intro l;induction l with
  | nil=>intro d;simp
  | cons x l ih =>
   intro d;have:=ih (ins x d);have:=ins_length x d;rw [List.foldl_cons,List.length_cons];omega
 simpa [dict] using this l []
def putBits (l:List Nat):List Bool :=
 if l=[] then [] else bitsOf ((dict l).length - 1) 7++(dict l).flatMap (bitsOf · 64)++l.flatMap (fun x=>bitsOf ((dict l).idxOf x) (wd (dict l).length))
def badNext (d:List Nat) (x:Nat):Bool:=match d.getLast? with | some y=>decide (x≤y) | none=>false
def gdict:Nat→List Nat→List Bool→List Nat × Nat × List Bool
 | 0,d,r=>(d,0,r)
 | m+1,d,r=>if r.length < 64 then ([],3,r) else if badNext d (bv (r.take 64)) then ([],8,r.drop 64) else gdict m (d++[bv (r.take 64)]) (r.drop 64)
def gidx (k:Nat):Nat→List Nat→List Bool→List Nat × Nat × List Bool
 | 0,l,r=>(l,0,r)
 | m+1,l,r=>if r.length < wd k then ([],3,r) else if k≤bv (r.take (wd k)) then ([],8,r.drop (wd k)) else gidx k m (l++[bv (r.take (wd k))]) (r.drop (wd k))
def unused (k:Nat) (l:List Nat):Bool:=(List.range k).any fun j=>!l.contains j
def getVals (n:Nat) (r:List Bool):List Nat × Nat × List Bool :=
 if n=0 then ([],0,r) else if r.length < 7 then ([],3,r) else
  let D:=gdict (bv (r.take 7)+1) [] (r.drop 7)
  if D.2.1≠0 then ([],D.2.1,D.2.2) else
   let I:=gidx D.1.length n [] D.2.2
   if I.2.1≠0 then ([],I.2.1,I.2.2) else if unused D.1.length I.1 then ([],8,I.2.2) else (I.1.map (D.1.getD · 0),0,I.2.2)
end
section
open Go Go.RowKit
theorem Width_any (w:World) (x:Int) (h0:-9223372036854775808≤x) (h1:x≤9223372036854775807) :
  Calls Tryz.prog 268 #[.int .i64 x] w fun e w'=>e=.returned (.int .i64 (wd x.toNat:Nat))∧w=w':=by
 by_cases hx:x < 1
 ·have HX:=hid hx;go_enter Tryz.func268,Tryz.ntmps268
  go_wp2_with fail;go_ret;have e:x.toNat=0:=by have:=HX.out;omega
  exact ⟨ret_int (by rw [e];rfl),rfl⟩
 ·have HX:=hid hx;have hlo:1≤x:=by omega
  clear hx;go_enter Tryz.func268,Tryz.ntmps268
  have e1:IntKind.u64.wrap (x - 1)=x - 1:=IntWalk.u64_in _ (by omega);go_wp2_with (go_at_call 254;refine (Tryz.bits_Len (x - 1) w (by omega) (by omega)).mono ?_;rintro e w' ⟨rfl,rfl⟩)
  go_ret;exact ⟨ret_int (by unfold wd;rw [if_neg (by omega)]),rfl⟩
theorem ins_of_mem (d:List Nat) (x:Nat) (hd:d.Pairwise (· < ·)) (h:x∈d):ins x d=d :=
 asc_ext _ _ (ins_asc x d hd) hd fun z=>by rw [ins_mem];exact ⟨fun h'=>h'.elim (fun e=>e ▸ h) id,.inr⟩
end
end Go.Proofs.YtmmonehfnfbpbaaGreatDoor
