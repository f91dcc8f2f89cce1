/- Laws that the last text builds on. -/
import Init
import Derived.Lib.BitFns
import Derived.Lib.ItoaNum
import Derived.WalkKit
import Derived.Deep.Draws
import Derived.Maps.AppendAt
import Derived.Lib.Hide
import Derived.WalkSpells
import Derived.WalkLawsBesides
import Derived.Laws.AppendOwnNone
import Derived.Shelf.Small.Bits
import Derived.Shelf.Strconv.Itoa0
import Derived.Shelf.Sort.Plain
import Derived.Shelf.Slices.Equal
import Derived.Shelf.Slices.CompactS
import Derived.Shelf.Slices.Cells
import Derived.Shelf.Slices.In.SortNone
import Derived.Shelf.Slices.Empties2
import Derived.Shelf.Bytes.SlSearch0
import Derived.Shelf.Bytes.SlClone
import Derived.Shelf.SlicesE.Equal
import Derived.Shelf.Bytes.SlEqualAll
import Derived.Shelf.Bytes.Small
import Derived.Deep.SlicePairs
import Derived.ProofKit
import Derived.OpenShut
import Derived.ShutString
import Derived.ChangeOld
import Derived.Below
import Derived.LaidMore
import Derived.LaidOnce
import Derived.Lib.LaidTab
import Derived.Deep.Strs
import Derived.RangeFuncWrites
import Derived.RangeFuncCalls
import Derived.RangeFuncLeaves
import Derived.Shelf.Abstract
import Derived.OwnWalkIn
import Derived.TacticsInMore
import Derived.LoopNIn
import Derived.LoopIn
import Derived.Deep.AppendLies
import Derived.RangeFuncBox
import Derived.BigQuiet
import Derived.Outline
import Derived.IntWalk
import Derived.Laws.BitsAllLaws
import Derived.Deep.QuietTactic
import Derived.Lib.AppendStr
import Derived.ArgAppend
import Derived.Laws.BytesArg
import Derived.Deep.RegionHeld3
import Derived.Lib.SlBytesConst
import Derived.Sort.Grow
import Derived.StillTail
import Derived.Laws.Cover1
import Derived.Laws.ResultCell
import Derived.Laws.EntriesVeiled
import Derived.OrdersIn
import Derived.WalkMore
import Derived.Laws.StructEq
import Derived.Laws.CopyOwn
import Derived.Laws.CopyRow
import Derived.Sort.Walk0
import Derived.RowKit
import Derived.RangeFuncNested
import Derived.RangeFuncBound
import Derived.StillTailTactics
import Derived.Shelf.Spec.SearchS
import Derived.Ground.Names2Prog
import Derived.DeepKeys4
import Derived.WideKeyEntry
import Derived.Maps.RangeRun
import Derived.Sort.MapsRangeIn
import Derived.Sort.LotD2
import Derived.Sort.LotA
import Derived.Sort.LotB
import Derived.Sort.Lot0
import Derived.Laws.MathBits
import Derived.Sort.WalkA
import Derived.Sort.WalkB2
import Derived.Sort.WalkB3
import Derived.BigRegion
import Derived.CellFam
import Derived.Sort.LotD7
import Derived.Sort.LotC
import Derived.Deep.DeepCutAuto
import Derived.Deep.CutBlock
import Derived.Sort.WalkA6
import Derived.Maps.RangeWalk
import Derived.Maps.OwnSet
import Derived.Shelf.SlSortCmp.WholeK
import Derived.Shelf.SlicesE.Clone
import Derived.Ground.SlsfProg
import Derived.Ground.SlgnProg
import Derived.Shelf.SlSortCmp.NoneTotal
import Derived.Deep.Cut
import Derived.Deep.CutRange
import Derived.Test.YtmmonehfnfbpbaaGreatDoorProg
import Derived.Test.YtmmonehfnfbpbaaGreatDoorRows
import Derived.Test.YtmmonehfnfbpbaaGreatDoorChecked
namespace Go.Proofs.YtmmonehfnfbpbaaGreatDoor
open Go.Lib(hid)
section
def bitsOf (x n:Nat):List Bool:=(List.range n).map fun i=>decide (x / 2 ^ (n - 1 - i) % 2=1)
def up (l:List Nat):List Bool:=l.flatMap (bitsOf · 8)
end
section
open Go
def lz (x:Nat):Nat:=64 - Lib.bitLen x
def tzF:Nat→Nat→Nat
 | 0,_=>0
 | f+1,x=>if x % 2=1 then 0 else 1+tzF f (x / 2)
def tz (x:Nat):Nat:=tzF 64 x
abbrev Win:=Option (Nat × Nat)
def fits (win:Win) (x:Nat):Prop :=
 match win with
 | none=>False
 | some (a,b)=>a≤lz x∧b≤tz x
instance (win:Win) (x:Nat):Decidable (fits win x):=by unfold fits;split<;>infer_instance
end
section
def bstep (s:Nat):Nat:=if s % 2=1 then (s / 2) ^^^ 3988292384 else s / 2
def bstep4 (s:Nat):Nat:=bstep (bstep (bstep (bstep s)))
def cstep (s c:Nat):Nat:=bstep4 (bstep4 (s ^^^ c))
def crcU (s:Nat) (l:List Nat):Nat:=l.foldl cstep s
def crc (l:List Nat):Nat:=4294967295 - crcU 4294967295 l
def sum4 (s:Nat):List Nat:=[s % 256,s / 256 % 256,s / 65536 % 256,s / 16777216 % 256]
def addCrc (l:List Nat):List Nat:=l++sum4 (crc l)
theorem crcU_snoc (s:Nat) (l:List Nat) (c:Nat):crcU s (l++[c])=cstep (crcU s l) c:=by simp [crcU]
theorem bstep_odd (s:Nat):bstep s=(s / 2) ^^^ (if s.testBit 0 then 3988292384 else 0):=by
 unfold bstep;rw [Nat.testBit_zero];by_cases h:s % 2=1
 ·rw [if_pos h];simp [h]
 ·rw [if_neg h];simp [h]
theorem xor_half (a b:Nat):(a ^^^ b) / 2=(a / 2) ^^^ (b / 2):=by
 apply Nat.eq_of_testBit_eq
 intro i;rw [Nat.testBit_div_two,Nat.testBit_xor,Nat.testBit_xor,Nat.testBit_div_two,Nat.testBit_div_two]
theorem xor4 (a b c d:Nat):(a ^^^ b) ^^^ (c ^^^ d)=(a ^^^ c) ^^^ (b ^^^ d):=by
 rw [Nat.xor_assoc,Nat.xor_assoc,← Nat.xor_assoc b c d,Nat.xor_comm b c,Nat.xor_assoc c b d]
theorem bstep_xor (a b:Nat):bstep (a ^^^ b)=bstep a ^^^ bstep b:=by
 rw [bstep_odd,bstep_odd,bstep_odd,xor_half,Nat.testBit_xor,xor4];congr 1
 cases a.testBit 0<;>cases b.testBit 0<;>simp
theorem bstep4_xor (a b:Nat):bstep4 (a ^^^ b)=bstep4 a ^^^ bstep4 b:=by unfold bstep4;simp only [bstep_xor]
theorem bstep_two (m:Nat):bstep (2*m)=m:=by unfold bstep;rw [if_neg (by omega)];omega
theorem bstep4_16 (q:Nat):bstep4 (16*q)=q:=by
 unfold bstep4;rw [show 16*q=2*(2*(2*(2*q))) by omega,bstep_two,bstep_two,bstep_two,bstep_two]
theorem split16 (s:Nat):s=(16*(s / 16)) ^^^ (s % 16):=by
 apply Nat.eq_of_testBit_eq
 intro i;rw [Nat.testBit_xor];have h1:=Nat.testBit_two_pow_mul_add (s / 16) (b:=s % 16) (i:=4) (by omega) i;have h2:=Nat.testBit_two_pow_mul_add (s / 16) (b:=0) (i:=4) (by omega) i;rw [show 2 ^ 4*(s / 16)+s % 16=s by omega] at h1;rw [show 2 ^ 4*(s / 16)+0=16*(s / 16) by omega] at h2;rw [h1,h2];by_cases h:i < 4
 ·rw [if_pos h,if_pos h];simp
 ·rw [if_neg h,if_neg h];have:(s % 16).testBit i=false:=Nat.testBit_lt_two_pow (Nat.lt_of_lt_of_le (show s % 16 < 2 ^ 4 by omega) (Nat.pow_le_pow_right (by omega) (by omega)));rw [this];simp
theorem bstep4_tab (s:Nat):bstep4 s=bstep4 (s % 16) ^^^ (s / 16):=by
 conv=>lhs;rw [split16 s,bstep4_xor,bstep4_16]
 rw [Nat.xor_comm]
theorem xor_lt32 {a b:Nat} (ha:a < 4294967296) (hb:b < 4294967296):a ^^^ b < 4294967296:=Nat.xor_lt_two_pow (n:=32) ha hb
theorem bstep_lt {s:Nat} (h:s < 4294967296):bstep s < 4294967296:=by
 unfold bstep;split
 ·exact xor_lt32 (by omega) (by omega)
 ·omega
theorem bstep4_lt {s:Nat} (h:s < 4294967296):bstep4 s < 4294967296:=bstep_lt (bstep_lt (bstep_lt (bstep_lt h)))
theorem cstep_lt {s c:Nat} (h:s < 4294967296) (hc:c < 256):cstep s c < 4294967296:=bstep4_lt (bstep4_lt (xor_lt32 h (by omega)))
theorem crcU_lt:∀ (l:List Nat) (s:Nat),s < 4294967296→(∀ c∈l,c < 256)→crcU s l < 4294967296:=by
 intro l;induction l with
 | nil=>intro s h _;exact h
 | cons c l ih=>intro s h hb;exact ih _ (cstep_lt h (hb c (List.mem_cons_self ..))) (fun d hd=>hb d (List.mem_cons_of_mem _ hd))
theorem crc_lt (l:List Nat):crc l < 4294967296:=by unfold crc;omega
theorem sum4_lt (s:Nat):∀ c∈sum4 s,c < 256:=by intro c hc;simp [sum4] at hc;omega
theorem addCrc_lt (l:List Nat) (h:∀ c∈l,c < 256):∀ c∈addCrc l,c < 256:=by
 intro c hc;rcases List.mem_append.1 hc with hc | hc
 ·exact h c hc
 ·exact sum4_lt _ c hc
theorem xor_ones {s:Nat} (h:s < 4294967296):s ^^^ 4294967295=4294967295 - s:=by
 have e:4294967295=2 ^ 32 - 1:=by omega
 apply Nat.eq_of_testBit_eq
 intro i;rw [Nat.testBit_xor,show (4294967295 - s:Nat)=2 ^ 32 - (s+1) by omega,Nat.testBit_two_pow_sub_succ (by omega),e,Nat.testBit_two_pow_sub_one];by_cases hi:i < 32
 ·simp [hi]
 ·have:s.testBit i=false:=Nat.testBit_lt_two_pow (Nat.lt_of_lt_of_le (show s < 2 ^ 32 by omega) (Nat.pow_le_pow_right (by omega) (by omega)));simp [hi,this]
def ctab:List Nat:=[0,498536548,997073096,651767980,1994146192,1802195444,1303535960,1342533948,3988292384,4027552580,3604390888,3412177804,2607071920,2262029012,2685067896,3183342108]
theorem ctab_eq:∀ t,t < 16→bstep4 t=ctab.getD t 0:=by decide
end
section
open Go Go.RowKit
def Rd (w:World) (b:Nat) (A:Option Addr) (xs:List Value):Prop :=
 xs=[]∨∃ o,A=some ⟨b,o,none⟩∧b < w.heap.size∧∀ j u,xs[j]? = some u→w.cell? ⟨b,o+j,none⟩=some u
theorem add_lit' (b o n:Nat):(⟨b,o,none⟩:Addr).add n=⟨b,o+n,none⟩:=by unfold Addr.add;split<;>simp_all
structure Kp (g g':Nat) (w w':World):Prop where
 os:w'.os=w.os
 tape:w'.tape=w.tape
 output:w'.output=w.output
 size:w.heap.size≤w'.heap.size
 block:∀ k,k < w.heap.size→k≠g→k≠g'→w'.heap[k]? = w.heap[k]?
abbrev Nw (w w':World):Prop:=Below w.heap.size w w'
theorem Nw.refl (w:World):Nw w w:=Below.refl _ _
theorem Nw.trans {a b c:World} (h:Nw a b) (k:Nw b c):Nw a c:=Below.trans h (Below.mono k h.size)
theorem Nw.drewN (w:World) (n:Nat):Nw w (w.drewN n):=⟨rfl,rfl,rfl,Nat.le_refl _,fun _ _=>rfl⟩
theorem Nw.drewN' {a w:World} (h:Nw a w) (n:Nat):Nw a (w.drewN n):=Nw.trans h (Nw.drewN w n)
theorem Nw.alloc' {a w:World} (h:Nw a w) (o:Obj):Nw a (w.alloc o):=Below.alloc h h.size o
theorem Nw.kp {w w':World} (h:Nw w w') (g g':Nat):Kp g g' w w':=⟨h.os,h.tape,h.output,h.size,fun k hk _ _=>h.block k hk⟩
theorem Nw.setCell' {a w:World} (h:Nw a w) {p:Addr} (hp:a.heap.size≤p.block) (u:Value):Nw a (w.setCell p u):=Below.setCell h hp u
theorem Kp.refl (g g':Nat) (w:World):Kp g g' w w:=(Nw.refl w).kp g g'
theorem Kp.trans {g g' h h':Nat} {a b c:World} (x:Kp g g' a b) (y:Kp h h' b c) (e:h=g∨h=g'∨a.heap.size≤h) (e':h'=g∨h'=g'∨a.heap.size≤h'):Kp g g' a c :=
 ⟨y.os.trans x.os,y.tape.trans x.tape,y.output.trans x.output,Nat.le_trans x.size y.size,fun k hk h1 h2 =>
  (y.block k (Nat.lt_of_lt_of_le hk x.size) (by rcases e with e | e | e<;>omega) (by rcases e' with e' | e' | e'<;>omega)).trans (x.block k hk h1 h2)⟩
theorem Kp.nw {g g':Nat} {a b c:World} (x:Nw a b) (y:Kp g g' b c) (e:a.heap.size≤g) (e':a.heap.size≤g'):Nw a c :=
 ⟨y.os.trans x.os,y.tape.trans x.tape,y.output.trans x.output,Nat.le_trans x.size y.size,fun k hk =>
  (y.block k (Nat.lt_of_lt_of_le hk x.size) (by omega) (by omega)).trans (x.block k hk)⟩
theorem Kp.nw' {g g':Nat} {a b c:World} (x:Kp g g' a b) (y:Nw b c):Kp g g' a c:=x.trans (y.kp g g') (.inl rfl) (.inr (.inl rfl))
theorem Kp.setCell' {g g':Nat} {a w:World} (h:Kp g g' a w) {p:Addr} (hp:p.block=g∨p.block=g'∨a.heap.size≤p.block) (u:Value):Kp g g' a (w.setCell p u) :=
 ⟨h.os,h.tape,h.output,by simpa [World.setCell] using h.size,fun k hk h1 h2 =>
  (Below.heap_setCell w p u k (by rintro rfl;rcases hp with hp | hp | hp<;>omega)).trans (h.block k hk h1 h2)⟩
theorem Kp.alloc' {g g':Nat} {a w:World} (h:Kp g g' a w) (o:Obj):Kp g g' a (w.alloc o):=h.nw' (Nw.alloc' (Nw.refl w) o)
theorem Kp.grown {g g':Nat} {a w w':World} {row:Option Nat} (h:Kp g g' a w) (hg:w.grownBy w' row) (hr:∀ k,row=some k→k=g∨k=g'∨a.heap.size≤k):Kp g g' a w' :=
 ⟨hg.os.trans h.os,hg.tape.trans h.tape,hg.output.trans h.output,Nat.le_trans h.size hg.size,fun k hk h1 h2 =>
  (hg.block k (Nat.lt_of_lt_of_le hk h.size) (fun e=>by rcases hr k e.symm with x | x | x<;>omega)).trans (h.block k hk h1 h2)⟩
theorem Nw.grown' {a w w':World} {row:Option Nat} (h:Nw a w) (hg:w.grownBy w' row) (hr:∀ k,row=some k→a.heap.size≤k):Nw a w':=Below.grown h hg h.size hr
section
variable {w w':World} {b g g':Nat} {A:Option Addr} {xs:List Value}
theorem Rd.nil (w:World) (b:Nat) (A:Option Addr):Rd w b A []:=.inl rfl
theorem Rd.get {k:Nat} (h:Rd w b A xs) (hk:k < xs.length):∃ o,A=some ⟨b,o,none⟩∧b < w.heap.size∧w.cell? ⟨b,o+k,none⟩=some xs[k]:=by
 rcases h with rfl | ⟨o,e,hlt,hc⟩
 ·simp at hk
 ·exact ⟨o,e,hlt,hc k _ (List.getElem?_eq_getElem hk)⟩
theorem Rd.kp (h:Rd w b A xs) (hk:Kp g g' w w') (h1:b≠g) (h2:b≠g'):Rd w' b A xs:=by
 rcases h with rfl | ⟨o,e,hlt,hc⟩
 ·exact .inl rfl
 ·exact .inr ⟨o,e,Nat.lt_of_lt_of_le hlt hk.size,fun j u hu=>(World.cell?_of_block (hk.block b hlt h1 h2)).trans (hc j u hu)⟩
theorem Rd.nw (h:Rd w b A xs) (hk:Nw w w'):Rd w' b A xs:=by
 rcases h with rfl | ⟨o,e,hlt,hc⟩
 ·exact .inl rfl
 ·exact .inr ⟨o,e,Nat.lt_of_lt_of_le hlt hk.size,fun j u hu=>(World.cell?_of_block (hk.block b hlt)).trans (hc j u hu)⟩
theorem Rd.drewN (h:Rd w b A xs) (n:Nat):Rd (w.drewN n) b A xs:=h.nw (Nw.drewN w n)
theorem Rd.take (h:Rd w b A xs) (k:Nat):Rd w b A (xs.take k):=by
 rcases h with rfl | ⟨o,e,hlt,hc⟩
 ·exact .inl (by simp)
 ·exact .inr ⟨o,e,hlt,fun j u hu=>hc j u (by rw [List.getElem?_take] at hu;split at hu<;>simp_all)⟩
theorem Rd.cut {k cap size:Nat} (h:Rd w b A xs) (hk:xs.length≤cap*size):Rd w b (if cap=k then A else A.map (·.add (k*size))) (xs.drop (k*size)):=by
 rcases h with rfl | ⟨o,rfl,hlt,hc⟩
 ·exact .inl (by simp)
 ·by_cases e:cap=k
  ·subst e;exact .inl (by rw [List.drop_eq_nil_iff];exact hk)
  ·rw [if_neg e];refine .inr ⟨o+k*size,by simp [add_lit'],hlt,fun j u hu=>?_⟩;rw [Nat.add_assoc];exact hc _ u (by rw [← hu,List.getElem?_drop])
theorem Rd.of_own {base:Nat} {e:TypeId} {size n c:Nat} (h:w.ownsRow base e size (.slice A n c) n xs):Rd w ((A.map (·.block)).getD 0) A xs:=by
 have h':=h;obtain ⟨hl,h2⟩:=h;rcases h2 with ⟨hv,rfl⟩ | ⟨g,cap,cur,hv,hbg,hh,_⟩
 ·exact .inl (List.eq_nil_of_length_eq_zero (by simpa using hl))
 ·obtain ⟨rfl,_,_⟩:A=some ⟨g,0,none⟩∧n=n∧c=cap:=by injection hv with h1 h2 h3;exact ⟨h1,rfl,h3⟩
  exact .inr ⟨0,rfl,lt_of_block hh,fun j u hu=>by have:=h'.cells (g:=g) rfl j u hu;rwa [add_lit'] at this⟩
end
def Dr (w w':World):Prop:=∃ q,w'=w.drewN q
theorem Dr.refl (w:World):Dr w w:=⟨0,rfl⟩
theorem Dr.nw {a b:World} (h:Dr a b):Nw a b:=by
 obtain ⟨q,rfl⟩:=h;exact Nw.drewN a q
abbrev cN (k:IntKind) (xs:List Nat):List Value:=xs.map (fun x:Nat=>Value.int k (x:Int))
end
section
open Go Go.RowKit
structure ElemT (P:Program) (t e:TypeId) (z:Value) (size bytes:Nat):Prop where
 und:P.underlying t=some (.slice e)
 info:∃ i,P.info? e=some i∧i.zero=some z∧i.size=size∧i.bytes=bytes
 cells:z.cells.size=size
 pos:0 < size
theorem ElemT.mk' {P:Program} {t e:TypeId} {z:Value} {size bytes:Nat} (h:P.underlying t=some (.slice e)) (h':(P.info? e).map (fun i=>(i.zero,i.size,i.bytes))=some (some z,size,bytes))
  (hz:z.cells.size=size) (hp:0 < size):ElemT P t e z size bytes:=⟨h,info_parts h',hz,hp⟩
def Ow (w:World) (b:Nat) (e:TypeId) (size:Nat) (A:Option Addr) (n c:Nat) (xs:List Value):Prop :=
 (A=none∧n=0∧c=0∧xs=[]) ∨
 (A=some ⟨b,0,none⟩∧b < w.heap.size∧w.ownsRow 0 e size (.slice A n c) n xs)
section
variable {P:Program} {w w':World} {b g g':Nat} {e:TypeId} {size n c:Nat} {A:Option Addr} {xs:List Value}
theorem Ow.nil (w:World) (b:Nat) (e:TypeId) (size:Nat):Ow w b e size none 0 0 []:=.inl ⟨rfl,rfl,rfl,rfl⟩
theorem Ow.row (h:Ow w b e size A n c xs):w.ownsRow 0 e size (.slice A n c) n xs:=by
 rcases h with ⟨rfl,rfl,rfl,rfl⟩ | ⟨_,_,h⟩
 ·exact World.ownsRow_nil _ _ _ _
 ·exact h
theorem Ow.rd (h:Ow w b e size A n c xs):Rd w b A xs:=by
 rcases h with ⟨rfl,rfl,rfl,rfl⟩ | ⟨rfl,_,h⟩
 ·exact Rd.nil _ _ _
 ·simpa using Rd.of_own h
theorem Ow.of_row (h:w.ownsRow 0 e size (.slice A n c) n xs) (hb:(Value.slice A n c).ownBlock=some b∨A=none):Ow w b e size A n c xs:=by
 rcases h.2 with ⟨hv,hn⟩ | ⟨g,cap,cur,hv,_,hh,_⟩
 ·injection hv with h1 h2 h3
  subst h1 h2 h3;exact .inl ⟨rfl,rfl,rfl,List.eq_nil_of_length_eq_zero (by simpa using h.1)⟩
 ·injection hv with h1 h2 h3
  subst h1;rcases hb with hb | hb
  ·obtain rfl:g=b:=by simpa [Value.ownBlock] using hb
   exact .inr ⟨rfl,lt_of_block hh,h⟩
  ·cases hb
theorem Ow.kp (h:Ow w b e size A n c xs) (hk:Kp g g' w w') (h1:b≠g) (h2:b≠g'):Ow w' b e size A n c xs:=by
 rcases h with ⟨rfl,rfl,rfl,rfl⟩ | ⟨rfl,hlt,h⟩
 ·exact Ow.nil _ _ _ _
 ·refine .inr ⟨rfl,Nat.lt_of_lt_of_le hlt hk.size,h.1,?_⟩;rcases h.2 with ⟨hv,_⟩ | ⟨g0,cap,cur,hv,hbg,hh,r⟩
  ·cases hv
  ·have hg:b=g0:=by injection hv with x;injection x with x;injection x
   subst hg;exact .inr ⟨b,cap,cur,hv,hbg,(hk.block b hlt h1 h2).trans hh,r⟩
theorem Ow.nw (h:Ow w b e size A n c xs) (hk:Nw w w'):Ow w' b e size A n c xs:=by
 rcases h with ⟨rfl,rfl,rfl,rfl⟩ | ⟨rfl,hlt,h⟩
 ·exact Ow.nil _ _ _ _
 ·refine .inr ⟨rfl,Nat.lt_of_lt_of_le hlt hk.size,h.1,?_⟩;rcases h.2 with ⟨hv,_⟩ | ⟨g0,cap,cur,hv,hbg,hh,r⟩
  ·cases hv
  ·have hg:b=g0:=by injection hv with x;injection x with x;injection x
   subst hg;exact .inr ⟨b,cap,cur,hv,hbg,(hk.block b hlt).trans hh,r⟩
theorem Ow.cap (h:Ow w b e size A n c xs):n≤c∧c≤9223372036854775807:=by
 rcases h with ⟨rfl,rfl,rfl,rfl⟩ | ⟨_,hlt,h⟩
 ·omega
 ·rcases h.2 with ⟨hv,_⟩ | ⟨g0,cap,cur,hv,hbg,hh,r1,r2,_⟩
  ·injection hv with h1 h2 h3;omega
  ·injection hv with h1 h2 h3
   simp only [maxLen] at r2;omega
theorem own_slice {v:Value} (h:w.ownsRow 0 e size v n xs):∃ A c,v=.slice A n c:=by
 rcases h.2 with ⟨hv,rfl⟩ | ⟨g,cap,cur,hv,_⟩
 ·exact ⟨none,0,hv⟩
 ·exact ⟨_,_,hv⟩
theorem Ow.empty (w:World) (e:TypeId) (size:Nat):Ow (w.alloc (.cells #[] e)) w.heap.size e size (some ⟨w.heap.size,0,none⟩) 0 0 [] :=
 .inr ⟨rfl,by simp,by simp,.inr ⟨w.heap.size,0,#[],rfl,Nat.zero_le _,heap_alloc_new w _,by omega,by simp [maxLen],by simp,by simp⟩⟩
theorem Ow.lit (w:World) (e:TypeId) (size n:Nat) (cs:Array Value) (hs:cs.size=n*size) (hn:n≤9223372036854775807):Ow (w.alloc (.cells cs e)) w.heap.size e size (some ⟨w.heap.size,0,none⟩) n n cs.toList :=
 .inr ⟨rfl,by simp,by simpa using hs,.inr ⟨w.heap.size,n,cs,rfl,Nat.zero_le _,heap_alloc_new w _,by omega,by simpa [maxLen] using hn,hs,by rw [← hs,← Array.length_toList,List.take_length]⟩⟩
theorem wpList_app {ops:Array Oper} {rest:List Oper} {o:Oper} {a:Act} {Q:Exit→Act→World→Prop} {t:TypeId} {z:Value} {bytes:Nat} (E:ElemT P t e z size bytes) (hgd:o.guard=none) (s x:Operand)
  (ho:o.op=.call { callee:=.builtin .append,args:=#[s,x],argTypes:=#[t,t] })
  (hs:a.eval s=.slice A n c) (hown:Ow w b e size A n c xs)
  {b2:Nat} {A2:Option Addr} {m c2:Nat} {news:List Value} (hx:a.eval x=.slice A2 m c2) (hr:Rd w b2 A2 news) (hl:news.length=m*size) (hnil:A2=none→c2=0) (h1:∀ u∈news,u.oneCell'=true)
  (h63:n+m≤maxLen) (hbytes:(n+m)*bytes≤140737488355328)
  (h:∀ b' A' c' w',Ow w' b' e size A' (n+m) c' (xs++news)→(b'=b∨w.heap.size≤b')→Kp b b w w'→(A=none→Nw w w'∧(w.heap.size≤b'∨A'=none))→wpList P ops Q rest (a.put o.dst (.slice A' (n+m) c')) w') :
  wpList P ops Q (o::rest) a w:=by
 obtain ⟨i,hi,hz,hsz,hby⟩:=E.info;cases A2 with
 | none =>
  obtain rfl:=hnil rfl;have hn0:news=[]:=by
   rcases hr with h | ⟨o,h,_⟩
   ·exact h
   ·cases h
  subst hn0;have hm:m=0:=by
   rcases Nat.mul_eq_zero.1 (by simpa using hl.symm) with h | h
   ·exact h
   ·have:=E.pos;omega
  subst hm;refine wpList_append_own_none hgd s x t ho 0 e i size E.und hi _ n xs hs hown.row hx ?_;have:=h b A c w (by simpa using hown) (.inl rfl) (Kp.refl _ _ _) (fun e=>⟨Nw.refl w,.inr e⟩);simpa using this
 | some ad =>
  have hcells:∀ j u,news[j]? = some u→w.cell? (ad.add j)=some u:=by
   intro j u hu;rcases hr with rfl | ⟨o,h,_,hc⟩
   ·simp at hu
   ·injection h with h
    subst h;rw [add_lit'];exact hc j u hu
  refine wpList_append_own_at w hgd s x t ho 0 e i z size bytes E.und hi hz hsz hby E.cells E.pos _ n xs hs hown.row ad m c2 news hx hl hcells h1 h63 hbytes (Nat.zero_le _) ?_;intro v' w' hown' hgrow hnil' hat;obtain ⟨A',c',rfl⟩:=own_slice hown';have hsize:=hgrow.size;have hkp:Kp b b w w':=(Kp.refl b b w).grown hgrow (by
   intro k hk;rcases hown with ⟨rfl,rfl,rfl,rfl⟩ | ⟨rfl,_,_⟩
   ·simp [Value.ownBlock] at hk
   ·left;simpa [Value.ownBlock] using hk.symm)
  have hnn:A=none→Nw w w':=by
   rintro rfl;exact (Nw.refl w).grown' hgrow (by intro k hk;simp [Value.ownBlock] at hk)
  rcases hat with hat | hat
  ·have hb:(Value.slice A' (n+m) c').ownBlock=some b∨A'=none:=by
    rcases hown with ⟨rfl,rfl,rfl,rfl⟩ | ⟨rfl,_,_⟩
    ·right
     cases A' with
     | none=>rfl
     | some q=>simp [Value.ownBlock] at hat
    ·left;simpa [Value.ownBlock] using hat
   exact h b A' c' w' (Ow.of_row hown' hb) (.inl rfl) hkp (fun e=>⟨hnn e,.inr (by subst e;cases A' with | none=>rfl | some q=>simp [Value.ownBlock] at hat)⟩)
  ·exact h w.heap.size A' c' w' (Ow.of_row hown' (.inl hat)) (.inr (Nat.le_refl _)) hkp (fun e=>⟨hnn e,.inl (Nat.le_refl _)⟩)
theorem wpList_app1 {ops:Array Oper} {rest:List Oper} {o:Oper} {a:Act} {Q:Exit→Act→World→Prop} {t:TypeId} {z:Value} {bytes:Nat} (E:ElemT P t e z 1 bytes) (hgd:o.guard=none) (s x:Operand)
  (ho:o.op=.call { callee:=.builtin .append,args:=#[s,x],argTypes:=#[t,t] })
  (hs:a.eval s=.slice A n c) (hown:Ow w b e 1 A n c xs) {u:Value} (hx:a.eval x=.slice (some ⟨w.heap.size,0,none⟩) 1 1) (h1:u.oneCell'=true)
  (hbytes:(n+1)*bytes≤140737488355328) (hby0:0 < bytes)
  (h:∀ b' A' c' w',Ow w' b' e 1 A' (n+1) c' (xs++[u])→(b'=b∨w.heap.size≤b')→Kp b b w w'→(A=none→Nw w w'∧w.heap.size≤b')→wpList P ops Q rest (a.put o.dst (.slice A' (n+1) c')) w') :
  wpList P ops Q (o::rest) a (w.alloc (.cells #[u] e)):=by
 have hn:n+1≤140737488355328:=Nat.le_trans (Nat.le_mul_of_pos_right _ hby0) hbytes;have hnw:Nw w (w.alloc (.cells #[u] e)):=Nw.alloc' (Nw.refl w) _;refine wpList_app E hgd s x ho hs (hown.nw hnw) (b2:=w.heap.size) (news:=[u]) hx (.inr ⟨0,rfl,by simp,fun j v hj=>?_⟩) (by simp) (by simp) (by intro v hv;simp at hv;subst hv;exact h1)
  (by simp only [maxLen];omega) hbytes ?_
 ·have:=cell_one_new w u e j v hj
  rwa [add_lit'] at this
 ·intro b' A' c' w' h2 h3 h4 h4n;have h5:=h4.size;have h6:=hnw.size;refine h b' A' c' w' h2 (by rcases h3 with h3 | h3;exact .inl h3;right;omega) ?_ ?_
  ·exact (hnw.kp b b).trans h4 (.inl rfl) (.inl rfl)
  ·refine fun e=>⟨Nw.trans hnw (h4n e).1,?_⟩
   rcases (h4n e).2 with h7 | rfl
   ·omega
   ·rcases h2 with ⟨_,h8,_⟩ | ⟨h8,_⟩
    ·omega
    ·cases h8
end
end
end Go.Proofs.YtmmonehfnfbpbaaGreatDoor
namespace Go.Proofs
open Go.Shelf
def Tryz.laysnb115_ren:Go.Shelf.Ren:=⟨fun | 115=>40 | n=>n,fun | 37=>22 | 4=>4 | 9=>9 | 5=>5 | n=>n,fun | n=>n⟩
theorem Tryz.laysnb115:Go.Proofs.Lays.nb115 Tryz.prog Tryz.laysnb115_ren:={
 mixed:=by kernel_rfl
 f115:=Tryz.func40.trans (congrArg some (by kernel_rfl))
 t4:=Tryz.underlying4
 a4:=Tryz.isAgg4
 z4:=Tryz.sizeOf4
 v4:=Tryz.zeroValue4
 t9:=Tryz.underlying9
 a9:=Tryz.isAgg9
 z9:=Tryz.sizeOf9
 v9:=Tryz.zeroValue9
 t37:=Tryz.underlying22
 a37:=Tryz.isAgg22
 z37:=Tryz.sizeOf22
 v37:=Tryz.zeroValue22
 t5:=Tryz.underlying5
 a5:=Tryz.isAgg5
 z5:=Tryz.sizeOf5
 v5:=Tryz.zeroValue5 }
theorem Tryz.bytes_Equal_all (p1 p2:Option Addr) (n c m d:Nat) (xs ys:List Int) (w:World) (hx:xs.length=n) (hy:ys.length=m) (h1:Lib.BytesIn w p1 n xs) (h2:Lib.BytesIn w p2 m ys) :
  Calls Tryz.prog 40 #[.slice p1 n c,.slice p2 m d] w fun e w'=>e=.returned (.bool (Lib.bytesOf xs == Lib.bytesOf ys))∧w'=w:=Any.bytes_Equal_all Tryz.laysnb115 p1 p2 n c m d xs ys w hx hy h1 h2
end Go.Proofs
namespace Go.Proofs.YtmmonehfnfbpbaaGreatDoor
open Go.Lib(hid)
section
open Go Go.RowKit
def deB:List Nat:=[0,1,56,2,57,49,28,3,61,58,42,50,38,29,17,4,62,47,59,36,45,43,51,22,53,39,33,30,24,18,12,5,63,55,48,27,60,41,37,16,46,35,44,21,52,32,23,11,54,26,40,15,34,20,31,10,25,14,19,9,13,8,7,6]
def formCells:List Value:=[.int .u64 0,.int .i64 1,.int .i64 0,.int .u64 2,.int .i64 2,.int .i64 7,.int .u64 6,.int .i64 3,.int .i64 12,.int .u64 14,.int .i64 4,.int .i64 32,.int .u64 15,.int .i64 4,.int .i64 64]
structure Gl (w:World):Prop where
 forms:∀ (k:Nat) v,formCells[k]? = some v→w.cell? ⟨0,k,none⟩=some v
 tab:∀ (k:Nat) v,(cN .u8 deB)[k]? = some v→w.cell? ⟨2,k,none⟩=some v
 crc:∀ (k:Nat) v,(cN .u32 ctab)[k]? = some v→w.cell? ⟨1,k,none⟩=some v
 lt:3≤w.heap.size
theorem Gl.kp {w w':World} {g g':Nat} (h:Gl w) (hk:Kp g g' w w') (h1:3≤g) (h2:3≤g'):Gl w' where
 forms k v e:=(World.cell?_of_block (hk.block _ (by have:=h.lt;simp only;omega) (by simp only;omega) (by simp only;omega))).trans (h.forms k v e)
 tab k v e:=(World.cell?_of_block (hk.block _ (by have:=h.lt;simp only;omega) (by simp only;omega) (by simp only;omega))).trans (h.tab k v e)
 crc k v e:=(World.cell?_of_block (hk.block _ (by have:=h.lt;simp only;omega) (by simp only;omega) (by simp only;omega))).trans (h.crc k v e)
 lt:=Nat.le_trans h.lt hk.size
theorem Gl.nw {w w':World} (h:Gl w) (hk:Nw w w'):Gl w':=h.kp (hk.kp 3 3) (Nat.le_refl _) (Nat.le_refl _)
end
section
open Go Go.RowKit Go.ChangeShapes Go.WideShapes Go.Deep
def c2 {α:Type} (f g:α→Value) (l:List α):List Value:=l.flatMap fun x=>[f x,g x]
section
variable {α:Type} {f g:α→Value}
end
abbrev Lab:=ByteArray × ByteArray
abbrev Smpl:=Int × Nat
structure Ser where
 labs:List Lab
 smps:List Smpl
 bl:Nat
 al:Option Addr
 cl:Nat
 bs:Nat
 as_:Option Addr
 cs:Nat
section
variable {w w':World} {b n c:Nat} {A:Option Addr}
end
section
variable {H:Type} {enc:TypeId × Value→H} {W:World} {base:Nat} {sp:Nat→Bool} {held:Bool} {fuel:Nat}
end
end
section
open Go Go.RowKit Go.ChangeShapes Go.WideShapes Go.ChangeAt Go.Deep
def laid3:List (String × DataW Unit):=[("math/bits.deBruijn64tab",Rows.laid_math_bits_deBruijn64tab),("tsblock/crc.table",Rows.laid_tsblock_crc_table),("tsblock/times.forms",Rows.laid_tsblock_times_forms)]
theorem own:ownKnob Tryz.prog.godebug=none:=by kernel_rfl
theorem gDeb:Tryz.prog.globalNamed "math/bits.deBruijn64tab" = some 2:=by kernel_rfl
theorem gCrc:Tryz.prog.globalNamed "tsblock/crc.table" = some 1:=by kernel_rfl
theorem tCrc:(Tryz.prog.globals[1]?).map (·.type)=some 412:=by kernel_rfl
theorem gForms:Tryz.prog.globalNamed "tsblock/times.forms" = some 0:=by kernel_rfl
theorem tDeb:(Tryz.prog.globals[2]?).map (·.type)=some 429:=by kernel_rfl
theorem tForms:(Tryz.prog.globals[0]?).map (·.type)=some 350:=by kernel_rfl
theorem at_of_cut {cs:List Value} {a n b:Nat} {v:Value} (h:(((cs.drop a).take n).drop b).take 1=[v]):cs[a+b]? = some v:=by
 have h0:=congrArg (fun l:List Value=>l[0]?) h;simp only [List.getElem?_cons_zero,List.getElem?_take,List.getElem?_drop,Nat.add_zero] at h0;simp only [show (0:Nat) < 1 by omega,if_true] at h0;split at h0
 ·exact h0
 ·cases h0
theorem gl_of_laid {W:World} (h:laidMetH Tryz.prog laid3 W):Gl W:=by
 rw [MakeChecks.laidMetH_plain _ _ _ (by kernel_rfl)] at h;have hd:Rows.laid_math_bits_deBruijn64tab=(Lib.tabData .u8 (deB.map fun x:Nat=>(x:Int)):DataW Unit):=rfl;have hT:Lib.TabIs Tryz.prog W "math/bits.deBruijn64tab" .u8 (deB.map fun x:Nat=>(x:Int)):=by
  unfold laid3 at h;rw [hd] at h;exact Lib.tabIs_of_head gDeb tDeb Tryz.underlying429 Tryz.underlying5 (by kernel_rfl) (by kernel_rfl) h
 obtain ⟨ps,⟨g0,t0,cs0,f0,p0,q0,hg0,ht0,hv0,hd0,⟨g2,t2,cs2,f2,p2,q2,hg2,ht2,hv2,hd2,⟨g1,t1,cs1,f1,p1,q1,hg1,ht1,hv1,hd1,_,_⟩,_⟩,_⟩,_,_⟩:=h;obtain rfl:=Option.some.inj (gForms.symm.trans hg1);obtain rfl:=Option.some.inj (tForms.symm.trans ht1);have c84:Tryz.prog.cellsOf 350=15:=by kernel_rfl
 have c83:Tryz.prog.cellsOf 349=3:=by kernel_rfl
 have cU:Tryz.prog.cellsOf 97=1:=by kernel_rfl
 have cI':Tryz.prog.cellsOf 3=1:=by kernel_rfl
 obtain ⟨xs,m1,rfl,hx1,hlen,hn5,hel⟩:=DataW.trod_array Tryz.underlying350 hd1;simp only [Prod.mk.injEq] at hx1;have each:∀ i,i < 5→∀ d0 d1 d2:Int,(xs[i]?).map (·.1)=some (.agg [.lit (.int .u64 d0),.lit (.int .i64 d1),.lit (.int .i64 d2)]) →
   cs1.toList[i*3]? = some (.int .u64 d0)∧cs1.toList[i*3+1]? = some (.int .i64 d1)∧cs1.toList[i*3+2]? = some (.int .i64 d2):=by
  intro i hi d0 d1 d2 hxi;have h0:=hel i hi;rw [c83] at h0;rw [← h0] at hxi;obtain ⟨x,hx,hxd⟩:=Option.map_eq_some_iff.1 hxi;obtain ⟨y0,y1,y2,m,rfl,_,e0,e1,e2⟩:=trod_struct3 Tryz.underlying349 hx;simp only [DataW.agg.injEq,List.cons.injEq,and_true] at hxd;obtain ⟨hy0,hy1,hy2⟩:=hxd;rw [cU] at e0;rw [cI'] at e1 e2;obtain ⟨k0,a0,b0,_⟩:=DataW.trod_int Tryz.underlying97 e0;obtain ⟨k1,a1,b1,_⟩:=DataW.trod_int Tryz.underlying3 e1;obtain ⟨k2,a2,b2,_⟩:=DataW.trod_int Tryz.underlying3 e2;rw [b0] at hy0;rw [b1] at hy1;rw [b2] at hy2;simp only [DataW.lit.injEq,Lit.int.injEq,true_and] at hy0 hy1 hy2;subst hy0 hy1 hy2;exact ⟨at_of_cut (b:=0) a0,at_of_cut (b:=1) a1,at_of_cut (b:=2) a2⟩
 have hxm:xs.map (·.1)=[.agg [.lit (.int .u64 0),.lit (.int .i64 1),.lit (.int .i64 0)],.agg [.lit (.int .u64 2),.lit (.int .i64 2),.lit (.int .i64 7)],.agg [.lit (.int .u64 6),.lit (.int .i64 3),.lit (.int .i64 12)],.agg [.lit (.int .u64 14),.lit (.int .i64 4),.lit (.int .i64 32)],.agg [.lit (.int .u64 15),.lit (.int .i64 4),.lit (.int .i64 64)]]:=by
  have:=hx1.1;unfold Rows.laid_tsblock_times_forms at this;simp only [DataW.agg.injEq] at this;exact this.symm
 have hat:∀ i:Nat,(xs[i]?).map (·.1)=(xs.map (·.1))[i]?:=fun i=>(List.getElem?_map ..).symm
 obtain ⟨a0,a1,a2⟩:=each 0 (by omega) 0 1 0 (by rw [hat,hxm];rfl);obtain ⟨a3,a4,a5⟩:=each 1 (by omega) 2 2 7 (by rw [hat,hxm];rfl);obtain ⟨a6,a7,a8⟩:=each 2 (by omega) 6 3 12 (by rw [hat,hxm];rfl);obtain ⟨a9,a10,a11⟩:=each 3 (by omega) 14 4 32 (by rw [hat,hxm];rfl);obtain ⟨a12,a13,a14⟩:=each 4 (by omega) 15 4 64 (by rw [hat,hxm];rfl);have hcells:cs1.toList=formCells:=by
  rw [c84] at hlen;refine List.ext_getElem (by rw [hlen];rfl) fun j hj hj'=>?_
  have h1:=List.getElem?_eq_getElem hj;have h2:=List.getElem?_eq_getElem hj';have:cs1.toList[j]? = formCells[j]?:=by
   have:j=0∨j=1∨j=2∨j=3∨j=4∨j=5∨j=6∨j=7∨j=8∨j=9∨j=10∨j=11∨j=12∨j=13∨j=14:=by omega
   rcases this with rfl | rfl | rfl | rfl | rfl | rfl | rfl | rfl | rfl | rfl | rfl | rfl | rfl | rfl | rfl
   all_goals first | exact a0 | exact a1 | exact a2 | exact a3 | exact a4 | exact a5 | exact a6 | exact a7 | exact a8 | exact a9 | exact a10 | exact a11 | exact a12 | exact a13 | exact a14
  rw [h1,h2] at this;exact Option.some.inj this
 have hF:∀ (k:Nat) v,formCells[k]? = some v→W.cell? ⟨0,k,none⟩=some v:=by
  intro k v hv;have:=World.var?_cell gForms hv1 k;rw [this,← hcells] at *;simpa using hv
 have hD:∀ (k:Nat) v,(cN .u8 deB)[k]? = some v→W.cell? ⟨2,k,none⟩=some v:=by
  intro k v hv;obtain ⟨hk,hv⟩:=List.getElem?_eq_some_iff.1 hv;have hk':k < (deB.map fun x:Nat=>(x:Int)).length:=by simpa [cN] using hk
  rw [hT.cell gDeb k hk',← hv];simp [cN,List.getD];rw [List.getElem?_eq_getElem (by simpa using hk')];rfl
 have hC:∀ (k:Nat) v,(cN .u32 ctab)[k]? = some v→W.cell? ⟨1,k,none⟩=some v:=by
  obtain rfl:=Option.some.inj (gCrc.symm.trans hg2);obtain rfl:=Option.some.inj (tCrc.symm.trans ht2);have hcr:Rows.laid_tsblock_crc_table=(Lib.tabData .u32 (ctab.map fun x:Nat=>(x:Int)):DataW Unit):=rfl;rw [hcr] at hd2;have hcs:=Lib.cells_of_tab Tryz.underlying412 Tryz.underlying69 (by kernel_rfl) (by kernel_rfl) hd2;intro k v hv;rw [World.var?_cell gCrc hv2 k];rw [← Array.getElem?_toList,hcs];simpa [cN] using hv
 have hl0:=hF 0 _ rfl;have hl1:=hD 0 _ rfl;have hl2:=hC 0 _ rfl;have lt:∀ {g:Nat} {v:Value},W.cell? ⟨g,0,none⟩=some v→g < W.heap.size:=by
  intro g v hv;simp only [World.cell?] at hv;cases hb:W.heap[g]? with
  | none=>rw [hb] at hv;simp at hv
  | some o=>exact (Array.getElem?_eq_some_iff.1 hb).1
 exact ⟨hF,hD,hC,by have:=lt hl0;have:=lt hl1;have:=lt hl2;omega⟩
theorem door_met (os:Os) (args:Array Value):laidMetH Tryz.prog laid3 ((World.doorLaid Tryz.prog 400 os).forCall (fun _ _=>0) ⟨#[],args,[]⟩).memory :=
 laidMetH_of_parts3 (fuel:=8) (laidMet_of_run' 8 (by kernel_rfl) (by kernel_rfl)) (by kernel_rfl) (by kernel_rfl)
end
section
open Go Go.RowKit
def IsRow (k:IntKind) (w:World) (a:Option Addr) (len cap:Nat) (zs:List Int):Prop :=
 (a=none∧len=0∧cap=0∧zs=[]) ∨
 ∃ x,a=some x∧len≤cap∧cap≤maxLen∧zs.length=cap∧(∀ i,i < zs.length→w.cell? (x.add i)=some (.int k (zs.getD i 0)))∧∀ n∈zs,(Lit.int k n).wf=true
theorem nats_of (zs:List Int) (h:∀ z∈zs,0≤z):∃ xs:List Nat,zs=xs.map (fun x:Nat=>(x:Int)):=by
 induction zs with
 | nil=>exact ⟨[],rfl⟩
 | cons z zs ih =>
  obtain ⟨xs,rfl⟩:=ih fun y hy=>h y (by simp [hy])
  have:=h z (by simp);exact ⟨z.toNat::xs,by simp;omega⟩
structure InRow (k:IntKind) (w:World) (b:Nat) (A:Option Addr) (n c:Nat) (xs:List Nat):Prop where
 rd:Rd w b A (cN k xs)
 len:n=xs.length
 wf:∀ x∈xs,(Lit.int k (x:Int)).wf=true
 nil:A=none→c=0
 cap:n≤c
 lt:xs≠[]→b < w.heap.size
 max:c≤9223372036854775807
theorem InRow.of {k:IntKind} {w:World} {a:Option Addr} {len cap:Nat} {zs:List Int} (h:IsRow k w a len cap zs) (hk:∀ z:Int,(Lit.int k z).wf=true→0≤z):∃ b xs,InRow k w b a len cap xs:=by
 rcases h with ⟨rfl,rfl,rfl,rfl⟩ | ⟨x,rfl,hl,hm,hz,hc,hw⟩
 ·exact ⟨0,[],Rd.nil _ _ _,rfl,by simp,fun _=>rfl,Nat.le_refl _,by simp,by omega⟩
 ·obtain ⟨xs,rfl⟩:=nats_of zs fun z hz=>hk z (hw z hz)
  rw [List.length_map] at hz;have hlen:len=(xs.take len).length:=by rw [List.length_take];omega
  refine ⟨x.block,xs.take len,?_,hlen,?_,by simp,hl,?_,by unfold maxLen at hm;exact hm⟩
  ·by_cases h0:len=0
   ·subst h0;simp [cN];exact Rd.nil _ _ _
   ·have h1:=hc 0 (by rw [List.length_map];omega);obtain ⟨b,off,spot⟩:=x;have hspot:spot=none:=by simpa [Addr.add] using World.cell?_spot h1
    subst hspot;refine .inr ⟨off,rfl,?_,fun j u hu=>?_⟩
    ·have:w.cell? (⟨b,off,none⟩:Addr)≠none:=by rw [add_lit'] at h1;rw [show off=off+0 from rfl,h1];simp
     simp only [World.cell?] at this;cases hb:w.heap[b]? with
     | none=>rw [hb] at this;simp at this
     | some o=>exact (Array.getElem?_eq_some_iff.1 hb).1
    ·rw [List.getElem?_map,List.getElem?_take] at hu;split at hu
     ·rename_i hj
      have hjx:j < xs.length:=by omega
      rw [List.getElem?_eq_getElem hjx] at hu;have hcj:=hc j (by rw [List.length_map];exact hjx);rw [add_lit'] at hcj;rw [hcj];simp at hu;rw [← hu,List.getD_eq_getElem?_getD,List.getElem?_map,List.getElem?_eq_getElem hjx];rfl
     ·simp at hu
  ·intro y hy;exact hw _ (List.mem_map.2 ⟨y,List.mem_of_mem_take hy,rfl⟩)
  ·intro hne;have hpos:0 < xs.length:=by
    rcases Nat.eq_zero_or_pos xs.length with h | h
    ·exact absurd (by rw [List.eq_nil_of_length_eq_zero h];simp) hne
    ·exact h
   have h1:=hc 0 (by rw [List.length_map];omega);obtain ⟨b,off,spot⟩:=x;have hspot:spot=none:=by simpa [Addr.add] using World.cell?_spot h1
   subst hspot;have:w.cell? (⟨b,off,none⟩:Addr)≠none:=by rw [add_lit'] at h1;rw [show off=off+0 from rfl,h1];simp
   simp only [World.cell?] at this;cases hb:w.heap[b]? with
   | none=>rw [hb] at this;simp at this
   | some o=>exact (Array.getElem?_eq_some_iff.1 hb).1
theorem InRow.u8 {w:World} {a:Option Addr} {len cap:Nat} {zs:List Int} (h:IsRow .u8 w a len cap zs):∃ b xs,InRow .u8 w b a len cap xs∧∀ x∈xs,x < 256:=by
 obtain ⟨b,xs,h⟩:=InRow.of h fun z hz=>(bounds_u8 hz).1
 exact ⟨b,xs,h,fun x hx=>by have:=(bounds_u8 (h.wf x hx)).2;omega⟩
end
section
def vint (x:Nat):List Nat:=if x < 128 then [x] else (x % 128+128)::vint (x / 128)
termination_by x
decreasing_by omega
theorem vint_small {x:Nat} (h:x < 128):vint x=[x]:=by rw [vint,if_pos h]
theorem vint_big {x:Nat} (h:128≤x):vint x=(x % 128+128)::vint (x / 128):=by rw [vint,if_neg (by omega)]
theorem vint_byte:∀ (n x:Nat),x≤n→∀ c∈vint x,c < 256:=by
 intro n;induction n with
 | zero=>intro x hx c hc;rw [vint_small (by omega)] at hc;simp at hc;omega
 | succ n ih =>
  intro x hx c hc;by_cases h:x < 128
  ·rw [vint_small h] at hc;simp at hc;omega
  ·rw [vint_big (by omega)] at hc;rcases List.mem_cons.1 hc with rfl | hc
   ·omega
   ·exact ih (x / 128) (by omega) c hc
theorem vint_lt (x:Nat):∀ c∈vint x,c < 256:=vint_byte x x (Nat.le_refl _)
theorem vint_pos (x:Nat):1≤(vint x).length:=by
 by_cases h:x < 128
 ·rw [vint_small h];simp
 ·rw [vint_big (by omega)];simp
theorem vint_len_aux:∀ (n x:Nat),x < 128 ^ (n+1)→(vint x).length≤n+1:=by
 intro n;induction n with
 | zero=>intro x hx;rw [vint_small (by simpa using hx)];simp
 | succ n ih =>
  intro x hx;by_cases h:x < 128
  ·rw [vint_small h];simp
  ·rw [vint_big (by omega),List.length_cons];have:=ih (x / 128) (by rw [Nat.pow_succ] at hx;exact Nat.div_lt_of_lt_mul (by rw [Nat.mul_comm];exact hx));omega
theorem vint_len (x:Nat) (h:x < 18446744073709551616):(vint x).length≤10:=vint_len_aux 9 x (by omega)
def vgetA:Nat→Nat→List Nat→Except Nat (Nat × List Nat)
 | _,_,[]=>.error 3
 | i,acc,c::r =>
  if i=9∧1 < c then .error 6
  else if c=0∧0 < i then .error 5
  else if c < 128 then .ok (acc+c % 128*128 ^ i,r)
  else vgetA (i+1) (acc+c % 128*128 ^ i) r
def vget0 (l:List Nat):Except Nat (Nat × List Nat):=vgetA 0 0 l
theorem vgetA_vint (r:List Nat):∀ (n x i acc:Nat),i+n=9→x < 2*128 ^ n→(i=0∨0 < x)→vgetA i acc (vint x++r)=.ok (acc+x*128 ^ i,r):=by
 intro n;induction n with
 | zero =>
  intro x i acc hi hx h0;have hx':x < 2:=by simpa using hx
  rw [vint_small (by omega),List.singleton_append,vgetA,if_neg (by omega),if_neg (by omega),if_pos (by omega),Nat.mod_eq_of_lt (by omega)]
 | succ n ih =>
  intro x i acc hi hx h0;by_cases h:x < 128
  ·rw [vint_small h,List.singleton_append,vgetA,if_neg (by omega),if_neg (by omega),if_pos h,Nat.mod_eq_of_lt h]
  ·rw [vint_big (by omega),List.cons_append,vgetA,if_neg (by omega),if_neg (by omega),if_neg (by omega)];rw [ih (x / 128) (i+1) _ (by omega) (by rw [Nat.pow_succ] at hx;omega) (.inr (by omega))];rw [show (x % 128+128) % 128=x % 128 by omega,Nat.pow_succ];have e:x / 128*(128 ^ i*128)=(128*(x / 128))*128 ^ i:=by
    rw [Nat.mul_comm (128 ^ i) 128,← Nat.mul_assoc,Nat.mul_comm (x / 128) 128]
   rw [e,Nat.add_assoc,← Nat.add_mul,show x % 128+128*(x / 128)=x from by omega]
theorem vget_vint (x:Nat) (h:x < 18446744073709551616) (r:List Nat):vget0 (vint x++r)=.ok (x,r):=by
 unfold vget0;rw [vgetA_vint r 9 x 0 0 (by omega) (by omega) (.inl rfl)];simp
theorem vgetA_inv:∀ (l:List Nat) (i acc x:Nat) (r:List Nat),i≤9→(∀ c∈l,c < 256)→vgetA i acc l=.ok (x,r)→∃ y,x=acc+y*128 ^ i∧l=vint y++r∧(i=0∨0 < y)∧y < 2*128 ^ (9 - i):=by
 intro l;induction l with
 | nil=>intro i acc x r _ _ h;simp [vgetA] at h
 | cons c l ih =>
  intro i acc x r hi hb h;have hc:=hb c (List.mem_cons_self ..);rw [vgetA] at h;by_cases h1:i=9∧1 < c
  ·rw [if_pos h1] at h;cases h
  ·rw [if_neg h1] at h;by_cases h2:c=0∧0 < i
   ·rw [if_pos h2] at h;cases h
   ·rw [if_neg h2] at h;by_cases h3:c < 128
    ·rw [if_pos h3] at h;injection h with h
     injection h with e1 e2
     refine ⟨c,by rw [← e1,Nat.mod_eq_of_lt h3],by rw [vint_small h3,e2];rfl,by omega,?_⟩;by_cases h9:i=9
     ·subst h9;simp;omega
     ·have:128 ^ 1≤128 ^ (9 - i):=Nat.pow_le_pow_right (by omega) (by omega);omega
    ·rw [if_neg h3] at h;have hi9:i≠9:=by omega
     obtain ⟨y,e1,e2,e3,e4⟩:=ih (i+1) _ x r (by omega) (fun d hd=>hb d (List.mem_cons_of_mem _ hd)) h;have hy:0 < y:=by omega
     have hd:(c % 128+128*y) / 128=y:=by omega
     have hm:(c % 128+128*y) % 128=c % 128:=by omega
     refine ⟨c % 128+128*y,?_,?_,.inr (by omega),?_⟩
     ·rw [e1,Nat.pow_succ,Nat.add_mul,Nat.add_assoc];congr 2
      rw [Nat.mul_comm (128 ^ i) 128,← Nat.mul_assoc,Nat.mul_comm y 128]
     ·rw [vint_big (by omega),hd,hm,e2,show c % 128+128=c by omega];rfl
     ·rw [show 9 - i=(9 - (i+1))+1 by omega,Nat.pow_succ];omega
theorem varget_inv {l:List Nat} {x:Nat} {r:List Nat} (hb:∀ c∈l,c < 256) (h:vget0 l=.ok (x,r)):l=vint x++r∧x < 18446744073709551616:=by
 obtain ⟨y,e1,e2,_,e4⟩:=vgetA_inv l 0 0 x r (by omega) hb h;simp at e1;subst e1;exact ⟨e2,by simpa using e4⟩
end
section
open Go Go.RowKit Go.Shelf
def KpB (k:Nat) (A B:World):Prop:=B.heap[k]? = A.heap[k]?∧A.heap.size≤B.heap.size
theorem KpB.trans {k:Nat} {A B C:World} (h:KpB k A B) (h':KpB k B C):KpB k A C:=⟨h'.1.trans h.1,Nat.le_trans h.2 h'.2⟩
theorem kp_putObj (W:World) (l:Nat) (o:Obj):Kp l l W (W.putObj l o):=⟨rfl,rfl,rfl,by simp,fun k _ hk _=>World.putObj_heap_other hk⟩
def SeqW {α:Type} (F:Fence) (n:Nat) (P:Program) (g:Nat) (lb:Array Value) (encs:α→Array Value) (Bx:Nat) (S:List α→Prop) (N:Nat) (w:World):Prop :=
 ∀ (l:Nat) (J:List α→World→Prop) (W:World),Nw w W→(∀ s A B,J s A→Kp Bx Bx A B→J s B) →
  (∀ pre x A,J pre A→pre.length < N→YieldAt F (n - 1) P l (encs x) A fun e B=>e=.returned (.bool true)∧J (pre++[x]) B∧KpB Bx A B) →
  J [] W→CallsIn F n P g (#[.func (.yield l) #[] #[]]++lb) W fun e B=>(∃ v,e=.returned v)∧∃ xs,S xs∧J xs B
def rfPost {α:Type} (B Bx:Nat) (I:List α→World→Prop) (xs:List α) (W:World):Exit→Act→World→Prop
 | .normal,_,W'=>KeepsFrom B W W'∧KpB Bx W W'∧I xs W'
 | _,_,_=>False
def Bides {α:Type} (N0 Bx:Nat) (I:List α→World→Prop):Prop :=
 ∀ s A B k,I s A→Kp k k A B→(k=Bx∨(N0≤k∧∃ o,A.heap[k]? = some o∧o.isCells=false))→I s B
variable {F:Fence} {n:Nat} {P:Program}
theorem rf_law {α:Type} {g:Operand} {ps:Array Tmp} {assign body:Code} {Q:Exit→Act→World→Prop} {a:Act} {w:World}
  (hro:F.round=none) (h1:1≤n) {gf:Nat} {lb:Array Value} (hg:a.eval g=.func (.func gf) #[] lb) (hFg:F.fn gf) (eg:∀ args w,(callFunc gf args).run P w=.ok (.enter gf args) w)
  {encs:α→Array Value} {Bx:Nat} {S:List α→Prop} {N:Nat} (hBx:Bx < w.heap.size) (hseq:SeqW F (n - 1) P gf lb encs Bx S N w) (hps:∀ x,(encs x).size=ps.size)
  (I:List α→World→Prop) (hI:Bides w.heap.size Bx I) (h0:I [] w) (a₁:α→Act)
  (hassign:∀ (l:Nat) (x:α) (W:World) (K:Act→World→Prop),K (a₁ x) W →
   assign.wpIn (F.inRound l) (n - 1 - 1) P (Exit.then K (fun _ _ _=>False)) { tmps:=(ps.zip (encs x)).foldl (fun t (p,v)=>t.setIfInBounds p v) a.tmps,defers:=[] } W)
  (hbody:∀ (l:Nat) (pre:List α) (x:α) (W:World),I pre W→pre.length < N→body.wpIn (F.inRound l) (n - 1 - 1) P (rfPost w.heap.size Bx I (pre++[x]) W) (a₁ x) W)
  (hdone:∀ (D:Nat) (xs:List α) (W:World),w.heap.size≤D→S xs→I xs W→W.heap[D]? = some (.deferred (some []))→Q .normal { a with defers:={ target:=.collected D,args:=#[] }::a.defers } W) :
  (Code.rangeFunc g ps assign body).wpIn F n P Q a w:=by
 refine wpIn_rangeFunc fun fn hfn=>?_
 rw [hro];obtain ⟨rc,hrc⟩:∃ rc:LoopState→Option Code→Loop,rc=fun st pe=>{ state:=st,pending:=pe,fn,tmps:=a.tmps,params:=ps,assign,body,defers:=w.heap.size }:=⟨_,rfl⟩
 obtain ⟨L,hL⟩:∃ L,L=w.heap.size+1:=⟨_,rfl⟩;obtain ⟨W1,hW1⟩:∃ W1,(w.alloc (.deferred (some []))).alloc (.loop (rc .ready none))=W1:=⟨_,rfl⟩;have hN1:Nw w W1:=by rw [← hW1];exact ((Nw.refl w).alloc' _).alloc' _
 have hl1:W1.heap[L]? = some (.loop (rc .ready none)):=by
  have:=heap_alloc_new (w.alloc (.deferred (some []))) (.loop (rc .ready none));rw [World.size_alloc,← hL,hW1] at this;exact this
 have hd1:W1.heap[w.heap.size]? = some (.deferred (some [])):=by
  rw [← hW1];exact (heap_alloc_old _ _ (by simp)).trans (heap_alloc_new w _)
 have turn:∀ (s:List α) (A:World) (r r':Loop),I s A→A.heap[L]? = some (.loop r)→I s (A.putObj L (.loop r')):=fun s A r r' hi hl =>
  hI s A _ L hi (kp_putObj A L _) (.inr ⟨by omega,_,hl,rfl⟩)
 have other:∀ (A:World) (r':Loop),A.heap[w.heap.size]? = some (.deferred (some []))→(A.putObj L (.loop r')).heap[w.heap.size]? = some (.deferred (some [])):=fun A r' hd =>
  (World.putObj_heap_other (by omega)).trans hd
 have kb:∀ (A:World) (r':Loop),KpB Bx A (A.putObj L (.loop r')):=fun A r'=>⟨World.putObj_heap_other (by omega),(kp_putObj A L (.loop r')).size⟩
 have i1:I [] W1:=by
  rw [← hW1];have k1:Kp Bx Bx w (w.alloc (.deferred (some []))):=(Kp.refl _ _ _).alloc' _;have k2:Kp Bx Bx (w.alloc (.deferred (some []))) ((w.alloc (.deferred (some []))).alloc (.loop (rc .ready none))):=(Kp.refl _ _ _).alloc' _;exact hI _ _ _ Bx (hI _ _ _ Bx h0 k1 (.inl rfl)) k2 (.inl rfl)
 refine ⟨L,[{ target:=.collected w.heap.size,args:=#[] }],W1,{ target:=.fn (.func gf) lb,args:=#[.func (.yield L) #[] #[]] },W1,gf,#[.func (.yield L) #[] #[]]++lb,W1,?_,?_,?_,?_,fun _=>h1,?_⟩
 ·rw [← hW1,hrc,hL];exact run_enterLoop_outer _ _ _ _ _
 ·simp only [resolve,hg];simp [go_sem]
 ·intro f' hf';simp [Target.leads] at hf';subst hf';exact hFg
 ·simp [invoke,go_sem,eg]
 ·refine (hseq L (fun pre W=>I pre W∧W.heap[L]? = some (.loop (rc .ready none))∧W.heap[w.heap.size]? = some (.deferred (some []))) W1 hN1 ?_ ?_ ⟨i1,hl1,hd1⟩).mono ?_
  ·rintro s A B ⟨hi,hl,hd⟩ hk;exact ⟨hI s A B Bx hi hk (.inl rfl),(hk.block L (lt_of_block hl) (by omega) (by omega)).trans hl,(hk.block _ (lt_of_block hd) (by omega) (by omega)).trans hd⟩
  ·rintro pre x W ⟨hi,hl,hd⟩ hlen;have hy:=run_yield (P:=P) (args:=encs x) hl (by rw [hrc];exact hps x);rw [hrc] at hy;refine ⟨fn,_,assign,body,hy,roundIn_of_wpIn hfn (hassign _ x W _ ⟨_,run_beginRound hl (by rw [hrc]),?_⟩)⟩;have hl2:(W.putObj L (.loop { rc .ready none with state:=.busy })).heap[L]? = some (.loop { rc .ready none with state:=.busy }):=World.putObj_heap_same (lt_of_block hl);refine wpIn_mono (hbody _ pre x _ (turn _ _ _ _ hi hl) hlen) ?_;rintro e a3 W3 hp;cases e with
   | normal =>
    obtain ⟨k3,b3,i3⟩:=hp;have hl3:=k3.same _ _ (by omega) hl2 rfl;have hd3:=k3.same _ _ (Nat.le_refl _) (other W { rc .ready none with state:=.busy } hd) rfl;have hr:=run_endRound (P:=P) none hl3;rw [hrc] at hr;refine ⟨_,_,hr,rfl,⟨turn _ _ _ _ i3 hl3,?_,other _ _ hd3⟩,((kb W _).trans b3).trans (kb W3 _)⟩;rw [World.putObj_heap_same (lt_of_block hl3),hrc];rfl
   | _=>exact hp.elim
  ·rintro e W2 ⟨⟨v,rfl⟩,xs,hS,hi,hl,hd⟩;have he:=run_endLoop (P:=P) hl (by rw [hrc];simp);rw [hrc] at he;exact ⟨none,_,he,hdone _ xs _ (Nat.le_refl _) hS (turn _ _ _ _ hi hl) (other _ _ hd)⟩
theorem Ow.own {w w':World} {b:Nat} {e:TypeId} {size n c:Nat} {A:Option Addr} {xs:List Value} {row:Option Nat} (hO:Ow w b e size A n c xs) (hg:w.grownBy w' row) (hr:∀ r,row=some r→∃ o:Obj,w.heap[r]? = some o∧o.isCells=false):Ow w' b e size A n c xs:=by
 rcases hO with ⟨rfl,h1,h2,h4⟩ | ⟨rfl,hlt2,hO⟩
 ·exact .inl ⟨rfl,h1,h2,h4⟩
 ·refine .inr ⟨rfl,Nat.lt_of_lt_of_le hlt2 hg.size,hO.1,?_⟩;rcases hO.2 with ⟨hv,_⟩ | ⟨g0,cap,cur,hv,hbg,hh,r⟩
  ·cases hv
  ·have hg0:b=g0:=by injection hv with x;injection x with x;injection x
   subst hg0;refine .inr ⟨b,cap,cur,hv,hbg,(hg.block b hlt2 ?_).trans hh,r⟩;intro e;obtain ⟨o,h1,h2⟩:=hr _ e.symm;rw [hh] at h1;cases h1;cases h2
theorem Ow.blk {w:World} {b:Nat} {e:TypeId} {size n c:Nat} {p:Addr} {xs:List Value} (h:Ow w b e size (some p) n c xs):∃ cs fr,w.heap[b]? = some (.cells cs e fr):=by
 rcases h with ⟨h,_⟩ | ⟨h,_,hO⟩
 ·cases h
 ·rcases hO.2 with ⟨hv,_⟩ | ⟨g0,cap,cur,hv,hbg,hh,r⟩
  ·cases hv
  ·injection h with h
   subst h;have hg0:b=g0:=by injection hv with x;injection x with x;injection x
   subst hg0;exact ⟨_,_,hh⟩
theorem wpListIn_lies {F:Fence} {n:Nat} {P:Program} (w:World) {ops:Array Oper} {rest:List Oper} {o:Oper} {a:Act} {Q:Exit→Act→World→Prop}
  (hg:o.guard=none) (s x:Operand) (t:TypeId) (hop:o.op=Op.call { callee:=Callee.builtin Builtin.append,args:=#[s,x],argTypes:=#[t,t] })
  (base:Nat) (e:TypeId) (i:TypeInfo) (z:Value) (size bytes:Nat) (h1:P.underlying t=some (.slice e)) (h2:P.info? e=some i) (h3:i.zero=some z) (h4:i.size=size) (h5:i.bytes=bytes) (h6:z.cells.size=size) (h7:0 < size)
  (v:Value) (k:Nat) (xs:List Value) (hs:a.eval s=v) (hown:w.ownsRow base e size v k xs) (ad:Addr) (m c:Nat) (news:List Value) (hx:a.eval x=.slice (some ad) m c) (hn:news.length=m*size)
  (hc:∀ j u,news[j]? = some u→w.cell? (ad.add j)=some u) (h1c:∀ u∈news,u.oneCell'=true) (hm:0 < m) (b1:k+m≤maxLen) (b2:(k+m)*bytes≤140737488355328) (b3:base≤w.heap.size)
  (hK:∀ g cap w',w'.ownsRow base e size (.slice (some ⟨g,0,none⟩) (k+m) cap) (k+m) (xs++news)→w.grownBy w' v.ownBlock→(v.ownBlock=some g∨g=w.heap.size)→g < w'.heap.size→wpListIn F n P ops Q rest (a.put o.dst (.slice (some ⟨g,0,none⟩) (k+m) cap)) w') :
  wpListIn F n P ops Q (o::rest) a w:=by
 refine wpListIn_plain hg fun K hK'=>?_
 obtain ⟨g,cap,w',hrun,r1,r2,r3,r4⟩:=run_append_lies (P:=P) w t o.type base e i z size bytes h1 h2 h3 h4 h5 h6 h7 v k xs hown ad m c news hn hc h1c hm b1 b2 b3 _ rfl;unfold Oper.wpIn;refine ⟨?_,?_⟩
 ·simp [Oper.about,hop,resolve,Target.leads,Sem.run_pure]
 ·rw [Oper.semAt_plain F _ _ (by rw [hop];intro c hc';cases hc')];simp [execOp,hop,resolve,invoke,builtin,hs,hx,hrun,Result.andThen];exact hK' _ _ (hK g cap w' r1 r2 r3 r4)
theorem Ow.ownBlock {w:World} {b:Nat} {e:TypeId} {size n c:Nat} {A:Option Addr} {xs:List Value} (h:Ow w b e size A n c xs):∀ r,(Value.slice A n c).ownBlock=some r→r=b∧A≠none:=by
 intro r hr;rcases h with ⟨rfl,_⟩ | ⟨rfl,_⟩
 ·simp [Value.ownBlock] at hr
 ·simp [Value.ownBlock] at hr;exact ⟨hr.symm,by simp⟩
theorem wpListIn_app1 {F:Fence} {k:Nat} {P:Program} {w:World} {b:Nat} {e:TypeId} {n c:Nat} {A:Option Addr} {xs:List Value} {ops:Array Oper} {rest:List Oper} {o:Oper} {a:Act} {Q:Exit→Act→World→Prop} {t:TypeId} {z:Value} {bytes:Nat} (E:ElemT P t e z 1 bytes) (hgd:o.guard=none) (s x:Operand)
  (ho:o.op=.call { callee:=.builtin .append,args:=#[s,x],argTypes:=#[t,t] })
  (hs:a.eval s=.slice A n c) (hown:Ow w b e 1 A n c xs) {u:Value} (hx:a.eval x=.slice (some ⟨w.heap.size,0,none⟩) 1 1) (h1:u.oneCell'=true)
  (hbytes:(n+1)*bytes≤140737488355328) (hby0:0 < bytes)
  (h:∀ g c' w',Ow w' g e 1 (some ⟨g,0,none⟩) (n+1) c' (xs++[u])→(g=b∧A≠none∨w.heap.size < g)→Kp b b w w'→(A=none→Nw w w')→wpListIn F k P ops Q rest (a.put o.dst (.slice (some ⟨g,0,none⟩) (n+1) c')) w') :
  wpListIn F k P ops Q (o::rest) a (w.alloc (.cells #[u] e)):=by
 obtain ⟨i,hi,hz,hsz,hby⟩:=E.info;have hn:n+1≤140737488355328:=Nat.le_trans (Nat.le_mul_of_pos_right _ hby0) hbytes;have hnw:Nw w (w.alloc (.cells #[u] e)):=Nw.alloc' (Nw.refl w) _;refine wpListIn_lies _ hgd s x t ho 0 e i z 1 bytes E.und hi hz hsz hby E.cells (by omega) _ n xs hs (hown.nw hnw).row ⟨w.heap.size,0,none⟩ 1 1 [u] hx rfl (cell_one_new w _ _) (by intro v hv;simp at hv;subst hv;exact h1) (by omega) (by simp only [maxLen];omega) hbytes (Nat.zero_le _) ?_;intro g cap w2 r1 r2 r3 r4;refine h g cap w2 (.inr ⟨rfl,r4,r1⟩) ?_ ((hnw.kp b b).grown r2 (fun k e=>.inl (hown.ownBlock k e).1)) (fun e=>hnw.grown' r2 (fun k e'=>((hown.ownBlock k e').2 e).elim));rcases r3 with e' | e'
 ·exact .inl (hown.ownBlock g e')
 ·right;rw [e'];simp
end
section
open Go Go.RowKit Go.Shelf
attribute [local go_sem] Oper.semAt_some
abbrev Grp:={ y:Nat × Bool // y.1 < 128 }
def grp (x:Nat):List Grp:=if h:x < 128 then [⟨(x,true),h⟩] else ⟨(x % 128,false),by show x % 128 < 128;omega⟩::grp (x / 128)
termination_by x
decreasing_by omega
theorem grp_small {x:Nat} (h:x < 128):grp x=[⟨(x,true),h⟩]:=by rw [grp,dif_pos h]
theorem grp_big {x:Nat} (h:128≤x):grp x=⟨(x % 128,false),by show x % 128 < 128;omega⟩::grp (x / 128):=by rw [grp,dif_neg (by omega)]
theorem groups_any (w:World) (x:Int):Calls Tryz.prog 236 #[.int .u64 x] w fun e w'=>e=.returned (.func (.func 286) #[] #[.pointer (some ⟨w.heap.size,0,none⟩)])∧w'=w.alloc (.cells #[.int .u64 x] 97):=by
 go_enter Tryz.func236,Tryz.ntmps236
 go_wp2;go_ret;exact ⟨rfl,rfl⟩
def numAt (w:World) (B:Nat):Nat:=match w.cell? ⟨B,0,none⟩ with | some (.int _ v)=>v.toNat | _=>0
theorem numAt_of {w:World} {B y:Nat} {t:TypeId} {k:IntKind} (h:w.heap[B]? = some (.cells #[.int k (y:Int)] t (0,0))):numAt w B=y:=by
 have hc:w.cell? ⟨B,0,none⟩=some (.int k (y:Int)):=by simp [World.cell?,h]
 unfold numAt;rw [hc];simp
theorem box_set {w:World} {B:Nat} {u v:Value} {t:TypeId} (h:w.heap[B]? = some (.cells #[u] t (0,0))):(w.setCell ⟨B,0,none⟩ v).heap[B]? = some (.cells #[v] t (0,0)):=by
 simp [World.setCell,Array.getElem?_modify,h]
set_option maxRecDepth 100000 in
theorem groups_stops (n:Nat) (hn:1≤n) (w:World) (B x:Nat) (hx:x < 18446744073709551616) (hB:w.heap[B]? = some (.cells #[.int .u64 (x:Int)] 97 (0,0))) :
  SeqW Fence.wide n Tryz.prog 286 #[.pointer (some ⟨B,0,none⟩)] (fun y:Grp=>#[.int .u8 (y.1.1:Int),.bool y.1.2]) B (fun xs=>xs=grp x) (grp x).length w:=by
 intro lp J W hW hJ hY h0;have hBW:=(hW.block B (lt_of_block hB)).trans hB;have HY:=hid hY;have HJ:=hid hJ;clear hB hY hJ;refine callsIn_of_wp Tryz.func286 rfl trivial ?_ rfl;simp only [Tryz.ntmps286,List.size_toArray,List.length_cons,List.length_nil,Nat.reduceAdd,Nat.reduceSub,Array.replicate_succ,Array.replicate_zero,List.push_toArray,List.append_toArray,List.nil_append,List.cons_append]
 gi_wp2
 gi_loopw [] (fun wr=>∃ (pre:List Grp) (y:Nat),y < 18446744073709551616∧Hid (grp x=pre++grp y)∧Hid (J pre wr)∧Hid (wr.heap[B]? = some (.cells #[.int .u64 (y:Int)] 97 (0,0)))) (fun wr=>numAt wr B)
 case atStart=>exact ⟨[],x,hx,hid rfl,hid h0,hid hBW⟩
 case round =>
  obtain ⟨pre,y,hy,HG,HJp,HB⟩:=hrel;have hc:wr.cell? ⟨B,0,none⟩=some (.int .u64 (y:Int)):=by simp [World.cell?,HB.out]
  by_cases hlt:128≤y
  ·have hG:=HG.out;rw [grp_big (x:=y) hlt] at hG;have hplen:pre.length < (grp x).length:=by rw [hG];simp
   obtain ⟨fn,tmps,assign,body,hyd,hR⟩:=HY.out pre ⟨(y % 128,false),by show y % 128 < 128;omega⟩ wr HJp.out hplen;have e1:((y % 128:Nat):Int)=(y:Int) % 128:=by omega
   dsimp only at hyd;rw [e1] at hyd;have HR:=hid hR;have HG2:=hid hG;clear hR hG hplen e1
   gi_wp2
   refine HR.out.mono ?_;rintro e W3 ⟨rfl,hJ3,hk3⟩;have hB3:=hk3.1.trans HB.out;have hc3:W3.cell? ⟨B,0,none⟩=some (.int .u64 (y:Int)):=by simp [World.cell?,hB3]
   have hf3:W3.frozen? ⟨B,0,none⟩=false:=by simp [World.frozen?,hB3]
   have HJ3:=hid hJ3;have HB3:=hid hB3;clear hJ3 hk3 hB3
   gi_wp2
   have e2:(y:Int) / 128=((y / 128:Nat):Int):=by omega
   go_roundw
   case rel =>
    rw [e2];exact ⟨pre++[⟨(y % 128,false),by show y % 128 < 128;omega⟩],y / 128,by omega,hid (by rw [HG2.out];simp),hid (HJ.out _ _ _ HJ3.out ((Kp.refl B B W3).setCell' (.inl rfl) _)),hid (box_set HB3.out)⟩
   case measure=>rw [e2,numAt_of (box_set HB3.out),numAt_of HB.out];omega
  ·have hG:=HG.out;rw [grp_small (x:=y) (by omega)] at hG;have hplen:pre.length < (grp x).length:=by rw [hG];simp
   obtain ⟨fn,tmps,assign,body,hyd,hR⟩:=HY.out pre ⟨(y,true),by show y < 128;omega⟩ wr HJp.out hplen;dsimp only at hyd;have HR:=hid hR;have HG2:=hid hG;clear hR hG hplen
   gi_wp2
   refine ⟨fun _ h=>(by cases h),?_⟩
   gi_wp2
   refine HR.out.mono ?_;rintro e W3 ⟨rfl,hJ3,hk3⟩;have HJ3:=hid hJ3;clear hJ3 hk3
   gi_wp2
   go_end0
   exact ⟨⟨_,rfl⟩,_,HG2.out.symm,HJ3.out⟩
def gByte (y:Grp):Nat:=if y.1.2 then y.1.1 else y.1.1+128
theorem grp_bytes:∀ (n x:Nat),x≤n→(grp x).map gByte=vint x:=by
 intro n;induction n with
 | zero=>intro x hx;rw [grp_small (x:=x) (by omega),vint_small (by omega)];rfl
 | succ n ih =>
  intro x hx;by_cases h:x < 128
  ·rw [grp_small h,vint_small h];rfl
  ·rw [grp_big (by omega),vint_big (by omega),List.map_cons,ih (x / 128) (by omega)];rfl
theorem E_u8:ElemT Tryz.prog 22 5 (.int .u8 0) 1 1:=ElemT.mk' Tryz.underlying22 (by kernel_rfl) rfl (by omega)
def AppB (w:World) (b:Nat) (A:Option Addr) (n:Nat) (xs news:List Nat) (e:Ending) (w':World):Prop :=
 ∃ b' A' c',e=.returned (.slice A' (n+news.length) c')∧Ow w' b' 5 1 A' (n+news.length) c' (cN .u8 (xs++news))∧(b'=b∧A≠none∨w.heap.size≤b'∨A'=none)∧Kp b b w w'∧(A=none→Nw w w')
def VaI (w:World) (b n:Nat) (A:Option Addr) (xs:List Nat) (pre:List Grp) (W:World):Prop :=
 ∃ bp Ap cp,W.heap[w.heap.size]? = some (.cells #[.slice Ap (n+pre.length) cp] 22 (0,0))∧Ow W bp 5 1 Ap (n+pre.length) cp (cN .u8 (xs++pre.map gByte))∧(bp=b∧A≠none∨w.heap.size+1 < bp∨Ap=none)∧Kp b b w W∧(A=none→Nw w W)∧w.heap.size+1 < W.heap.size
theorem VaI.bides {w:World} {b n N0:Nat} {A:Option Addr} {xs:List Nat} (hN:w.heap.size+1 < N0) (hb:A≠none→b < w.heap.size):Bides N0 (w.heap.size+1) (VaI w b n A xs):=by
 rintro pre X Y k ⟨bp,Ap,cp,h1,h2,h3,h4,h5,h6⟩ hk hc;have hkw:w.heap.size+1≤k:=by rcases hc with h | ⟨h,_⟩<;>omega
 refine ⟨bp,Ap,cp,(hk.block _ (lt_of_block h1) (by omega) (by omega)).trans h1,?_,h3,h4.trans hk (.inr (.inr (by omega))) (.inr (.inr (by omega))),fun e=>Kp.nw (h5 e) hk (by omega) (by omega),Nat.lt_of_lt_of_le h6 hk.size⟩;cases Ap with
 | none =>
  rcases h2 with ⟨_,q1,q2,q3⟩ | ⟨q,_⟩
  ·exact .inl ⟨rfl,q1,q2,q3⟩
  ·cases q
 | some p =>
  have hne:bp≠k:=by
   rintro rfl;rcases h3 with ⟨rfl,h⟩ | h | h
   ·have:=hb h;omega
   ·rcases hc with h' | ⟨_,o,ho,hoc⟩
    ·omega
    ·obtain ⟨cs,fr,hcs⟩:=h2.blk;rw [hcs] at ho;cases ho;cases hoc
   ·cases h
  exact h2.kp hk hne hne
theorem or128:∀ y:Fin 128,bits .or .u8 (y.val:Int) 128=((y.val+128:Nat):Int):=by decide +kernel
theorem VaI.step {w W w2:World} {b n bp cp g c2:Nat} {A Ap:Option Addr} {xs:List Nat} {pre:List Grp} {y:Grp} (hb:A≠none→b < w.heap.size) (h1:W.heap[w.heap.size]? = some (.cells #[.slice Ap (n+pre.length) cp] 22 (0,0)))
  (h2:Ow W bp 5 1 Ap (n+pre.length) cp (cN .u8 (xs++pre.map gByte))) (h3:bp=b∧A≠none∨w.heap.size+1 < bp∨Ap=none) (h4:Kp b b w W) (h5:A=none→Nw w W) (hl:w.heap.size+1 < W.heap.size)
  (r1:Ow w2 g 5 1 (some ⟨g,0,none⟩) (n+pre.length+1) c2 (cN .u8 (xs++pre.map gByte)++[.int .u8 (gByte y:Int)])) (r2:g=bp∧Ap≠none∨W.heap.size < g) (r3:Kp bp bp W w2) (r4:Ap=none→Nw W w2) :
  (w2.cell? ⟨w.heap.size,0,none⟩=some (.slice Ap (n+pre.length) cp)∧w2.frozen? ⟨w.heap.size,0,none⟩=false) ∧
  ∀ ac,rfPost (w.heap.size+2) (w.heap.size+1) (VaI w b n A xs) (pre++[y]) W .normal ac (w2.setCell ⟨w.heap.size,0,none⟩ (.slice (some ⟨g,0,none⟩) (n+pre.length+1) c2)):=by
 have same:∀ k,k < W.heap.size→(Ap=none∨k≠bp)→w2.heap[k]? = W.heap[k]?:=fun k hk h=>by
  rcases h with h | h
  ·exact (r4 h).block k hk
  ·exact r3.block k hk h h
 have hS:Ap=none∨w.heap.size≠bp:=by
  rcases h3 with ⟨e,h⟩ | h | h
  ·have:=hb h;right;omega
  ·right;omega
  ·exact .inl h
 have hS1:Ap=none∨w.heap.size+1≠bp:=by
  rcases h3 with ⟨e,h⟩ | h | h
  ·have:=hb h;right;omega
  ·right;omega
  ·exact .inl h
 have hlS:=lt_of_block h1;have e1:=(same _ hlS hS).trans h1;have hst:Kp w.heap.size w.heap.size w2 (w2.setCell ⟨w.heap.size,0,none⟩ (.slice (some ⟨g,0,none⟩) (n+pre.length+1) c2)):=(Kp.refl _ _ _).setCell' (p:=⟨w.heap.size,0,none⟩) (.inl rfl) _;have hs3:=r3.size;have hgS:g≠w.heap.size∧(g=b∧A≠none∨w.heap.size+1 < g):=by
  rcases r2 with ⟨rfl,h⟩ | h
  ·rcases h3 with ⟨rfl,h'⟩ | h' | h'
   ·have:=hb h';exact ⟨by omega,.inl ⟨rfl,h'⟩⟩
   ·exact ⟨by omega,.inr h'⟩
   ·exact (h h').elim
  ·exact ⟨by omega,.inr (by omega)⟩
 refine ⟨⟨by simp [World.cell?,e1],by simp [World.frozen?,e1]⟩,fun ac=>⟨⟨Nat.le_trans hs3 hst.size,fun k o hk ho hoc=>?_⟩,⟨?_,Nat.le_trans hs3 hst.size⟩,?_⟩⟩
 ·have hkl:=lt_of_block ho;refine (hst.block k (by omega) (by omega) (by omega)).trans ((same k hkl ?_).trans ho);by_cases h:Ap=none
  ·exact .inl h
  ·right
   rintro rfl;cases Ap with
   | none=>exact h rfl
   | some p =>
    obtain ⟨cs,fr,hcs⟩:=h2.blk;rw [hcs] at ho;cases ho;cases hoc
 ·exact (hst.block _ (by omega) (by omega) (by omega)).trans (same _ hl hS1)
 ·refine ⟨g,some ⟨g,0,none⟩,c2,?_,?_,?_,?_,fun e=>?_,by have:=hst.size;omega⟩
  ·rw [List.length_append,List.length_singleton,← Nat.add_assoc];exact box_set e1
  ·rw [List.length_append,List.length_singleton,← Nat.add_assoc,List.map_append,List.map_singleton,← List.append_assoc];have h:=r1.kp hst hgS.1 hgS.1;unfold cN at h ⊢;rw [List.map_append,List.map_singleton];exact h
  ·rcases hgS.2 with h | h
   ·exact .inl h
   ·exact .inr (.inl h)
  ·have hk2:Kp b b w w2:=by
    rcases h3 with ⟨rfl,_⟩ | h | h
    ·exact h4.trans r3 (.inl rfl) (.inl rfl)
    ·exact h4.trans r3 (.inr (.inr (by omega))) (.inr (.inr (by omega)))
    ·exact h4.nw' (r4 h)
   exact hk2.setCell' (.inr (.inr (by exact Nat.le_refl _))) _
  ·have hn2:Nw w w2:=by
    rcases h3 with ⟨_,h⟩ | h | h
    ·exact (h e).elim
    ·exact Kp.nw (h5 e) r3 (by omega) (by omega)
    ·exact (h5 e).trans (r4 h)
   exact hn2.setCell' (by exact Nat.le_refl _) _
set_option maxRecDepth 100000 in
theorem VAppend_any (w:World) (b:Nat) (A:Option Addr) (n c:Nat) (xs:List Nat) (x:Nat) (hO:Ow w b 5 1 A n c (cN .u8 xs)) (hx:x < 18446744073709551616) (hn:n≤1000000000000) :
  Calls Tryz.prog 166 #[.slice A n c,.int .u64 (x:Int)] w (AppB w b A n xs (vint x)):=by
 have hb:A≠none→b < w.heap.size:=fun h=>by
  rcases hO with ⟨q,_⟩ | ⟨_,q,_⟩
  ·exact (h q).elim
  ·exact q
 have HG:=hid (grp_bytes x x (Nat.le_refl _));have HL:=hid (vint_len x hx);have HC:=hid fun W=>groups_any W (x:Int)
 have hw1:Nw w (w.alloc (.cells #[.slice A n c] 22)):=(Nw.refl w).alloc' _;refine (callsIn_wide (n:=4)).1 ?_;refine callsIn_of_wp_marks Tryz.func166 rfl trivial ?_ rfl;simp only [Tryz.ntmps166,List.size_toArray,List.length_cons,List.length_nil,Nat.reduceAdd,Nat.reduceSub,Array.replicate_succ,Array.replicate_zero,List.push_toArray,List.append_toArray,List.nil_append,List.cons_append]
 gi_wp2_with (first | (refine ⟨trivial,?_⟩;gi_at_call 236;refine (callsIn_wide.2 (HC.out _)).mono ?_;rintro e w2 ⟨rfl,rfl⟩) | (gi_at_call 236;refine (callsIn_wide.2 (HC.out _)).mono ?_;rintro e w2 ⟨rfl,rfl⟩))
 have hsz:((w.alloc (.cells #[.slice A n c] 22)).alloc (.cells #[.int .u64 (x:Int)] 97)).heap.size=w.heap.size+2:=by simp
 have hbb:((w.alloc (.cells #[.slice A n c] 22)).alloc (.cells #[.int .u64 (x:Int)] 97)).heap[w.heap.size+1]? = some (.cells #[.int .u64 (x:Int)] 97 (0,0)):=by
  have:=heap_alloc_new (w.alloc (.cells #[.slice A n c] 22)) (.cells #[.int .u64 (x:Int)] 97)
  rwa [World.size_alloc] at this
 have hW0:Nw w ((w.alloc (.cells #[.slice A n c] 22)).alloc (.cells #[.int .u64 (x:Int)] 97)):=hw1.alloc' _;refine rf_law (F:=Fence.wide) (n:=4) rfl (by omega) (gf:=286) (lb:=#[.pointer (some ⟨w.heap.size+1,0,none⟩)]) rfl trivial (enters_of Tryz.func286 (by kernel_rfl) rfl)
  (Bx:=w.heap.size+1) (by omega) (groups_stops 3 (by omega) _ (w.heap.size+1) x hx hbb) (fun _=>rfl)
  (VaI w b n A xs) (VaI.bides (by have:=hsz;omega) hb) ?start ?a1 ?assign ?body ?done
 case assign =>
  intro l x W K hK
  gi_wp2
  exact hK
 case start =>
  refine ⟨b,A,c,(heap_alloc_old _ _ (by simp)).trans (heap_alloc_new w _),by simpa using hO.nw hW0,?_,hW0.kp _ _,fun _=>hW0,by omega⟩;by_cases h:A=none
  ·exact .inr (.inr h)
  ·exact .inl ⟨rfl,h⟩
 case body =>
  intro lq pre y W hI hlt;obtain ⟨bp,Ap,cp,h1,h2,h3,h4,h5,hl2⟩:=hI;have hlen:=HL.out;rw [← HG.out,List.length_map] at hlen;have hpl:pre.length≤10:=by omega
  have hc0:W.cell? ⟨w.heap.size,0,none⟩=some (.slice Ap (n+pre.length) cp):=by simp [World.cell?,h1]
  obtain ⟨⟨yv,yl⟩,hy⟩:=y;have hyv:yv < 128:=hy;have H2:=hid h2;have H3:=hid h3;have H4:=hid h4;have H5:=hid h5;have H1:=hid h1;clear h1 h2 h3 h4 h5 hlen hlt hO;cases yl with
  | true =>
   gi_wp2_with (gi_at_builtin;refine wpListIn_app1 E_u8 rfl (.tmp 15) (.tmp 17) rfl rfl H2.out (u:=.int .u8 (yv:Int)) rfl rfl (by omega) (by omega) ?_;intro g c2 w2 r1 r2 r3 r4;obtain ⟨⟨q1,q2⟩,q3⟩:=VaI.step (y:=⟨(yv,true),hy⟩) hb H1.out H2.out H3.out H4.out H5.out hl2 r1 r2 r3 r4;have Q3:=hid q3;clear q3 r1 r2 r3 r4)
   rw [hsz];exact Q3.out _
  | false =>
   have hor:=or128 ⟨yv,hyv⟩;dsimp only at hor
   gi_wp2_with (gi_at_builtin;refine wpListIn_app1 E_u8 rfl (.tmp 15) (.tmp 17) rfl rfl H2.out (u:=.int .u8 ((yv+128:Nat):Int)) rfl rfl (by omega) (by omega) ?_;intro g c2 w2 r1 r2 r3 r4;obtain ⟨⟨q1,q2⟩,q3⟩:=VaI.step (y:=⟨(yv,false),hy⟩) hb H1.out H2.out H3.out H4.out H5.out hl2 r1 r2 r3 r4;have Q3:=hid q3;clear q3 r1 r2 r3 r4)
   rw [hsz];exact Q3.out _
 case done =>
  intro D ys W hD hS hI hK;obtain ⟨bp,Ap,cp,h1,h2,h3,h4,h5,_⟩:=hI;have hc:W.cell? ⟨w.heap.size,0,none⟩=some (.slice Ap (n+ys.length) cp):=by simp [World.cell?,h1]
  have HYS:=hid hS;have hg:=grownBy_putObj' W D (.deferred none);have h2':=h2.own hg (fun k e=>by cases e;exact ⟨_,hK,rfl⟩);have h4':=h4.grown hg (fun k e=>by cases e;exact .inr (.inr (by have:=hsz;omega)));have h5':=fun e=>(h5 e).grown' hg (fun k e=>by cases e;have:=hsz;omega)
  have H2:=hid h2';have H3:=hid h3;have H4:=hid h4';have H5:=hid h5';clear h1 h2 h3 h4 h5 h2' h4' h5' hS hg
  gi_wp2
  refine ⟨by simp,.inl ⟨_,_,rfl,run_takeDeferred hK,?_⟩⟩;have hl:ys.length=(vint x).length:=by rw [HYS.out,← HG.out,List.length_map]
  refine ⟨_,results_tmp rfl _ _ _,bp,Ap,cp,by rw [hl];rfl,?_,?_,H4.out,H5.out⟩
  ·have:=H2.out;rw [HYS.out,HG.out,← HYS.out,hl] at this;exact this
  ·rcases H3.out with h | h | h
   ·exact .inl h
   ·exact .inr (.inl (by omega))
   ·exact .inr (.inr h)
theorem Ow.nilc {w:World} {b n c:Nat} {e:TypeId} {size:Nat} {A:Option Addr} {xs:List Value} (h:Ow w b e size A n c xs):A=none→c=0:=by
 rintro rfl;rcases h with ⟨_,_,h,_⟩ | ⟨h,_⟩
 ·exact h
 ·cases h
def NewB (w:World) (l:List Nat) (e:Ending) (w':World):Prop :=
 ∃ b' A' c',e=.returned (.slice A' l.length c')∧Ow w' b' 5 1 A' l.length c' (cN .u8 l)∧w.heap.size≤b'∧Nw w w'
set_option maxRecDepth 100000 in
theorem REncode2_any:∀ (m:Nat) (w:World) (x:Nat),x≤m→x < 18446744073709551616→Calls Tryz.prog 150 #[.int .u64 (x:Int)] w (NewB w (vint x)):=by
 intro m;induction m with
 | zero =>
  intro w x hm hx;obtain rfl:x=0:=by omega
  go_enter Tryz.func150,Tryz.ntmps150
  go_wp2;go_ret;exact ⟨w.heap.size,some ⟨w.heap.size,0,none⟩,1,by rw [vint_small (by omega)];rfl,by rw [vint_small (by omega)];exact Ow.lit w 5 1 1 #[.int .u8 0] rfl (by omega),Nat.le_refl _,(Nw.refl w).alloc' _⟩
 | succ m ih =>
  intro w x hm hx;by_cases h:x < 128
  ·have HV:=hid (vint_small h);clear hx ih;go_enter Tryz.func150,Tryz.ntmps150
   go_wp2;go_ret;exact ⟨w.heap.size,some ⟨w.heap.size,0,none⟩,1,by rw [HV.out];rfl,by rw [HV.out];exact Ow.lit w 5 1 1 #[.int .u8 (x:Int)] rfl (by omega),Nat.le_refl _,(Nw.refl w).alloc' _⟩
  ·have IH:=hid fun W=>ih W (x / 128) (by omega) (by omega)
   have HV:=hid (vint_big (x:=x) (by omega));have HL:=hid (vint_len (x / 128) (by omega));have HX:=hid hx;clear ih hx;have h2:¬ (x:Int) < 128:=by omega
   have h3:0≤(x:Int) % 128∧(x:Int) % 128 < 128:=by omega
   obtain ⟨h3,h4⟩:=h3;clear hm;go_enter Tryz.func150,Tryz.ntmps150
   go_wp2_with fail;rw [show IntKind.u64.wrap ((x:Int) / 128)=((x / 128:Nat):Int) from (IntWalk.u64_in _ (by have:=HX.out;omega)).trans (by omega)];refine (IH.out _).mono ?_;rintro e w2 ⟨b2,A2,c2,rfl,hO2,hb2,hN2⟩;obtain ⟨M,hM⟩:∃ M,(vint (x / 128)).length=M:=⟨_,rfl⟩;have hM10:M≤10:=by rw [← hM];exact HL.out
   rw [hM] at hO2 ⊢;have e1:(x:Int) % 128+128=((x % 128+128:Nat):Int):=by omega
   rw [e1];have hO1:=(Ow.lit w 5 1 1 #[.int .u8 ((x % 128+128:Nat):Int)] rfl (by omega)).nw hN2;rw [e1] at hN2;have HO1:=hid hO1;have HO2:=hid hO2;have HM:=hid hM;have hcap:=hO2.nilc;have HN2:=hid hN2;clear hO1 hO2 hM e1 hN2;go_wp2_with (at_builtin;refine wpList_app E_u8 rfl (.tmp 12) (.tmp 15) rfl rfl HO1.out rfl HO2.out.rd (by rw [List.length_map,HM.out,Nat.mul_one]) hcap (by intro v hv;obtain ⟨y,_,rfl⟩:=List.mem_map.1 hv;rfl) (by simp only [maxLen];omega) (by omega) ?_;intro b3 A3 c3 w3 q1 q2 q3 q4)
   go_ret;have hN:=(((Nw.refl w).alloc' _).trans HN2.out);have hk:Nw w w3:=Kp.nw hN q3 (Nat.le_refl _) (Nat.le_refl _);have hl:(vint x).length=1+M:=by rw [HV.out,List.length_cons,HM.out,Nat.add_comm]
   refine ⟨b3,A3,c3,by rw [hl];rfl,?_,?_,hk⟩
   ·rw [hl,HV.out];exact q1
   ·rcases q2 with h | h
    ·omega
    ·have:=hN.size;omega
end
section
open Go Go.RowKit Go.Lib
def getV (n:Nat) (x:Except Nat (Nat × List Nat)):Value :=
 match x with
 | .ok (v,r)=>.tuple #[.int .u64 (v:Int),.int .i64 ((n - r.length:Nat):Int),.int .i64 0]
 | .error e=>.tuple #[.int .u64 0,.int .i64 0,.int .i64 (e:Int)]
theorem pow_le9 {i:Nat} (h:i≤9):128 ^ i≤9223372036854775808:=by
 have:=Nat.pow_le_pow_right (show 0 < 128 by omega) h;simpa using this
set_option maxRecDepth 100000 in
theorem RGet2_any (w:World) (b:Nat) (A:Option Addr) (n c:Nat) (xs:List Nat) (hn:n=xs.length) (hm:n≤4611686018427387904) (hr:Rd w b A (cN .u8 xs)) (hx:∀ x∈xs,x < 256) (at_:Nat) (hat:at_≤n) :
  Calls Tryz.prog 85 #[.slice A n c,.int .i64 (at_:Int)] w fun e w'=>e=.returned (getV n (vget0 (xs.drop at_)))∧w'=w:=by
 subst hn;obtain ⟨R,hR⟩:∃ R,vget0 (xs.drop at_)=R:=⟨_,rfl⟩;have HR:=hid hR;rw [hR];have HX:=hid hx;have HRd:=hid hr;have h0:¬ (at_:Int) < 0:=by omega
 have h1:¬ (xs.length:Int) < (at_:Int):=by omega
 clear hR hx hr;go_enter Tryz.func85,Tryz.ntmps85
 go_wp2_with fail;go_loopw [7,8,9] (fun x u i wr=>∃ (k acc U:Nat),x=.int .u64 (acc:Int)∧u=.int .u64 (U:Int)∧i=.int .i64 (k:Int)∧k≤9∧Hid (U=128 ^ k)∧Hid (acc < 128 ^ k)∧Hid (R=vgetA k acc (xs.drop (at_+k)))∧wr=w) (fun _ _ i _=>10 - (intOf i).toNat)
 case atStart=>exact ⟨0,0,1,rfl,rfl,rfl,by omega,hid (by simp),hid (by simp),hid HR.out.symm,rfl⟩
 case round =>
  obtain ⟨k,acc,U,rfl,rfl,rfl,hk,HU,HA,HV,rfl⟩:=hrel;obtain ⟨J,hJ⟩:∃ J,at_+k=J:=⟨_,rfl⟩;rw [hJ] at HV;have h2:(at_:Int)+(k:Int)=(J:Int):=by omega
  have HJ:=hid hJ;by_cases hlt:J < xs.length
  ·have h3:¬ (xs.length:Int)≤(J:Int):=by omega
   obtain ⟨o,rfl,_,hc⟩:=HRd.out.get (k:=J) (by simpa using hlt);rw [List.getElem_map] at hc;have hv:=HV.out;rw [List.drop_eq_getElem_cons hlt,vgetA] at hv;have hb:=HX.out xs[J] (List.getElem_mem hlt);generalize xs[J]=y at *;have HA2:=hid (pow_le9 hk);by_cases h6:k=9∧1 < y
   ·rw [if_pos h6] at hv;have h9b:((k:Int) == 9)=true:=by rw [beq_iff_eq];omega
    have h62:(1:Int) < (y:Int):=by omega
    subst hv;clear hJ hlt h6;go_wp2_with fail
    go_ret3
    exact ⟨rfl,rfl⟩
   ·rw [if_neg h6] at hv;obtain ⟨m,hm2⟩:∃ m,y % 128=m:=⟨_,rfl⟩;have hmI:(y:Int) % 128=(m:Int):=by omega
    have hu:=HU.out;have ha:=HA.out;have hp9:=HA2.out;rw [← hu] at ha hp9;have hmul:m*U≤9223372036854775808:=by
     by_cases hk9:k=9
     ·have:m≤1:=by omega
      exact Nat.le_trans (Nat.mul_le_mul_right U this) (by omega)
     ·have h1:=pow_le9 (show k+1≤9 by omega);rw [Nat.pow_succ,← hu] at h1;have:=Nat.mul_le_mul_right U (show m≤128 by omega);rw [Nat.mul_comm 128 U] at this;omega
    obtain ⟨M,hM⟩:∃ M,m*U=M:=⟨_,rfl⟩;rw [hM] at hmul;have w1:IntKind.u64.wrap ((m:Int)*(U:Int))=(M:Int):=by rw [← Int.natCast_mul,hM];exact IntWalk.u64_in _ (by omega)
    have w2:IntKind.u64.wrap ((acc:Int)+(M:Int))=((acc+M:Nat):Int):=by rw [← Int.natCast_add];exact IntWalk.u64_in _ (by omega)
    obtain ⟨X,hX⟩:∃ X,acc+M=X:=⟨_,rfl⟩;rw [hX] at w2;obtain ⟨V,hV⟩:∃ V,IntKind.u64.wrap ((U:Int)*128)=V:=⟨_,rfl⟩;rw [hm2,← hu,hM,hX] at hv;have HF:=hid (And.intro hv (And.intro h6 (And.intro hM (And.intro hX (And.intro hV (And.intro hm2 (And.intro ha hk)))))));have h9g:(k:Int)=9→¬ (1:Int) < (y:Int):=by omega
    clear hv h6 hM hX hm2 hu ha hp9 hmul hJ hlt;obtain ⟨b9,h9b⟩:∃ b,((k:Int) == 9)=b:=⟨_,rfl⟩;by_cases hy:y < 128
    ·have hyI:(y:Int) < 128:=by omega
     by_cases he:y=0∧0 < k
     ·have HE:Hid (R=.error 5):=hid (by rw [HF.out.1,if_pos he]);have hyb:((y:Int) == 0)=true:=by rw [beq_iff_eq];omega
      have hkp:(0:Int) < (k:Int):=by omega
      clear hy he hV;cases b9
      ·clear h9g;go_wp2_with fail
       go_ret3
       exact ⟨by rw [HE.out];rfl,rfl⟩
      ·have h91:¬ (1:Int) < (y:Int):=h9g (beq_iff_eq.1 h9b);clear h9g;go_wp2_with fail
       go_ret3
       exact ⟨by rw [HE.out];rfl,rfl⟩
     ·have HE:Hid (getV xs.length R=.tuple #[.int .u64 (X:Int),.int .i64 ((J:Int)+1),.int .i64 0]):=hid (by
       rw [HF.out.1,if_neg he,if_pos hy];unfold getV;dsimp only;rw [List.length_drop,show xs.length - (xs.length - (J+1))=J+1 by omega];rfl)
      obtain ⟨by0,hyb⟩:∃ b,((y:Int) == 0)=b:=⟨_,rfl⟩;cases by0
      ·clear hy he hV;cases b9
       ·clear h9g;go_wp2_with fail
        go_ret3
        exact ⟨by rw [HE.out];rfl,rfl⟩
       ·have h91:¬ (1:Int) < (y:Int):=h9g (beq_iff_eq.1 h9b);clear h9g;go_wp2_with fail
        go_ret3
        exact ⟨by rw [HE.out];rfl,rfl⟩
      ·have hkp:¬ (0:Int) < (k:Int):=by
        have:=beq_iff_eq.1 hyb;omega
       clear hy he hV;cases b9
       ·clear h9g;go_wp2_with fail
        go_ret3
        exact ⟨by rw [HE.out];rfl,rfl⟩
       ·have h91:¬ (1:Int) < (y:Int):=h9g (beq_iff_eq.1 h9b);clear h9g;go_wp2_with fail
        go_ret3
        exact ⟨by rw [HE.out];rfl,rfl⟩
    ·have hyI:¬ (y:Int) < 128:=by omega
     have hk9:k≠9:=fun e=>by
      have:=h9g (by omega);omega
     have h9b':((k:Int) == 9)=false:=by rw [beq_eq_false_iff_ne];omega
     clear h9b;have HE:Hid (R=vgetA (k+1) X (xs.drop (at_+(k+1)))):=hid (by rw [HF.out.1,if_neg (by omega),if_neg hy,← Nat.add_assoc,HJ.out]);have HK:Hid (V=((128 ^ (k+1):Nat):Int)∧X < 128 ^ (k+1)):=by
      obtain ⟨_,_,hM,hX,hV,hm2,ha,hk'⟩:=HF.out;have hu:=HU.out;have hp:=pow_le9 (show k+1≤9 by omega);refine hid ⟨?_,?_⟩
      ·rw [← hV,show ((128 ^ (k+1):Nat):Int)=(U:Int)*128 by rw [Nat.pow_succ,← hu];omega];exact IntWalk.u64_in _ (by rw [Nat.pow_succ,← hu] at hp;omega)
      ·rw [Nat.pow_succ,← hu];have h2:m*U≤127*U:=Nat.mul_le_mul_right U (by omega);omega
     clear h9g hy;go_wp2_with fail;go_roundw
     case rel=>exact ⟨k+1,X,128 ^ (k+1),rfl,by rw [HK.out.1],by go_num,by omega,hid rfl,hid HK.out.2,HE,trivial⟩
     case measure=>simp [intOf];omega
  ·have h3:(xs.length:Int)≤(J:Int):=by omega
   have hv:=HV.out;rw [List.drop_of_length_le (by omega),vgetA] at hv;subst hv;clear hJ hlt;go_wp2_with fail
   go_ret3
   exact ⟨rfl,rfl⟩
end
section
open Go Go.RowKit Go.Lib
theorem or_group {k acc m:Nat} (hk:k≤9) (ha:acc < 128 ^ k) (hm:m*128 ^ k < 18446744073709551616):bits .or .u64 (acc:Int) ((m*128 ^ k:Nat):Int)=((acc+m*128 ^ k:Nat):Int):=by
 have hp:(128:Nat) ^ k=2 ^ (7*k):=by rw [show (128:Nat)=2 ^ 7 from rfl,← Nat.pow_mul]
 have h9:=pow_le9 hk;rw [u64_or_nat _ _ (by omega) hm,Nat.or_comm,nat_join (7*k) _ _ (by rw [hp];exact Nat.mul_mod_left _ _) (by omega),Nat.add_comm]
set_option maxRecDepth 100000 in
theorem VGet_any (w:World) (b:Nat) (A:Option Addr) (n c:Nat) (xs:List Nat) (hn:n=xs.length) (hnc:n≤c) (hm:n≤1000000000) (hr:Rd w b A (cN .u8 xs)) (hx:∀ x∈xs,x < 256) (at_:Nat) (hat:at_≤n) :
  Calls Tryz.prog 104 #[.slice A n c,.int .i64 (at_:Int)] w fun e w'=>e=.returned (getV n (vget0 (xs.drop at_)))∧w=w':=by
 subst hn;obtain ⟨R,hR⟩:∃ R,vget0 (xs.drop at_)=R:=⟨_,rfl⟩;have HR:=hid hR;rw [hR];have HX:=hid hx;have HRd:=hid hr;have HM:=hid hm;have h0:¬ (at_:Int) < 0:=by omega
 have h1:¬ (xs.length:Int) < (at_:Int):=by omega
 clear hR hx hr;by_cases hlt:at_ < xs.length
 ·obtain ⟨o,rfl,-,-⟩:=HRd.out.get (k:=at_) (by simpa using hlt);have hca:¬ c=at_:=by omega
  obtain ⟨L,hL⟩:∃ L,xs.length - at_=L:=⟨_,rfl⟩;have hLI:(xs.length:Int) - (at_:Int)=(L:Int):=by omega
  have HL:=hid hL;go_enter Tryz.func104,Tryz.ntmps104
  go_wp2_with fail;go_loopw [7,22] (fun x i wr=>∃ (k acc:Nat),x=.int .u64 (acc:Int)∧i=.int .i64 (k:Int)∧k≤9∧k≤L∧Hid (acc < 128 ^ k)∧Hid (R=vgetA k acc (xs.drop (at_+k)))∧wr=w) (fun _ i _=>10 - (intOf i).toNat)
  case atStart=>exact ⟨0,0,rfl,rfl,by omega,by omega,hid (by simp),hid HR.out.symm,rfl⟩
  case round =>
   obtain ⟨k,acc,rfl,rfl,hk,hkL,HA,HV,rfl⟩:=hrel;obtain ⟨J,hJ⟩:∃ J,at_+k=J:=⟨_,rfl⟩;have HJ:=hid hJ;have h2:(at_:Int)+(k:Int)=(J:Int):=by omega
   by_cases hlt2:J < xs.length
   ·have h3:(k:Int) < (L:Int):=by omega
    obtain ⟨o',e',_,hc⟩:=HRd.out.get (k:=at_+k) (by simpa using (show at_+k < xs.length by omega));injection e' with e'
    injection e' with _ e'
    subst e';rw [List.getElem_map,← Nat.add_assoc] at hc;have hv:=HV.out;rw [List.drop_eq_getElem_cons (show at_+k < xs.length by omega),vgetA] at hv;have hb:=HX.out xs[at_+k] (List.getElem_mem (by omega));generalize xs[at_+k]=y at *;have HA2:=hid (pow_le9 hk);by_cases h6:k=9∧1 < y
    ·rw [if_pos h6] at hv;have h9b:((k:Int) == 9)=true:=by rw [beq_iff_eq];omega
     have h62:(1:Int) < (y:Int):=by omega
     subst hv;clear hJ hlt2 h6 hL;go_wp2_with fail
     go_ret3
     exact ⟨rfl,rfl⟩
    ·rw [if_neg h6] at hv;have h9g:(k:Int)=9→¬ (1:Int) < (y:Int):=by omega
     have H6:=hid h6;clear h6;obtain ⟨b9,h9b⟩:∃ b,((k:Int) == 9)=b:=⟨_,rfl⟩;by_cases he:y=0∧0 < k
     ·rw [if_pos he] at hv;have hyb:((y:Int) == 0)=true:=by rw [beq_iff_eq];omega
      have hkp:(0:Int) < (k:Int):=by omega
      subst hv;clear hJ hlt2 he hL;cases b9
      ·clear h9g;go_wp2_with fail
       go_ret3
       exact ⟨rfl,rfl⟩
      ·have h91:¬ (1:Int) < (y:Int):=h9g (beq_iff_eq.1 h9b);clear h9g;go_wp2_with fail
       go_ret3
       exact ⟨rfl,rfl⟩
     ·rw [if_neg he] at hv;have h0g:(y:Int)=0→¬ (0:Int) < (k:Int):=by omega
      have HE0:=hid he;clear he;obtain ⟨m,hm2⟩:∃ m,y % 128=m:=⟨_,rfl⟩;have hmI:(y:Int) % 128=(m:Int):=by omega
      have ha:=HA.out;have hmul:m*128 ^ k < 18446744073709551616:=by
       by_cases hk9:k=9
       ·have h6:=H6.out;have:m≤1:=by omega
        exact Nat.lt_of_le_of_lt (Nat.mul_le_mul_right (128 ^ k) this) (by have:=HA2.out;omega)
       ·have h1:=pow_le9 (show k+1≤9 by omega);rw [Nat.pow_succ] at h1;have:=Nat.mul_le_mul_right (128 ^ k) (show m≤128 by omega);omega
      have hor:=or_group hk ha hmul;obtain ⟨S,hS⟩:∃ S,7*k=S:=⟨_,rfl⟩;have hSI:7*(k:Int)=(S:Int):=by omega
      have hSl:S < 64:=by omega
      obtain ⟨M,hM⟩:∃ M,m*128 ^ k=M:=⟨_,rfl⟩;have hshl:IntKind.u64.wrap ((m:Int)*2 ^ S)=(M:Int):=by
       rw [show (m:Int)*2 ^ S=(M:Int) from by
        rw [← hM,show (128:Nat) ^ k=2 ^ S by rw [← hS,show (128:Nat)=2 ^ 7 from rfl,← Nat.pow_mul]];simp]
       exact IntWalk.u64_in _ (by omega)
      obtain ⟨X,hX⟩:∃ X,acc+M=X:=⟨_,rfl⟩;rw [hM,hX] at hor;rw [hm2,hM,hX] at hv;have HF:=hid (And.intro hv (And.intro hM (And.intro hX (And.intro hm2 (And.intro hmul ha)))));clear hv hM hX hm2 hmul ha hJ hS;obtain ⟨by0,hyb⟩:∃ b,((y:Int) == 0)=b:=⟨_,rfl⟩;by_cases hy:y < 128
      ·have hyI:(y:Int) < 128:=by omega
       have HE:Hid (getV xs.length R=.tuple #[.int .u64 (X:Int),.int .i64 ((J:Int)+1),.int .i64 0]):=hid (by
        rw [HF.out.1,if_pos hy,HJ.out];unfold getV;dsimp only;rw [List.length_drop,show xs.length - (xs.length - (J+1))=J+1 by omega];rfl)
       clear hy hL hlt2;cases by0
       ·cases b9
        ·clear h9g h0g;go_wp2_with fail
         go_ret3
         exact ⟨by rw [HE.out];rfl,rfl⟩
        ·have h91:¬ (1:Int) < (y:Int):=h9g (beq_iff_eq.1 h9b);clear h9g h0g;go_wp2_with fail
         go_ret3
         exact ⟨by rw [HE.out];rfl,rfl⟩
       ·have h01:¬ (0:Int) < (k:Int):=h0g (beq_iff_eq.1 hyb);cases b9
        ·clear h9g h0g;go_wp2_with fail
         go_ret3
         exact ⟨by rw [HE.out];rfl,rfl⟩
        ·have h91:¬ (1:Int) < (y:Int):=h9g (beq_iff_eq.1 h9b);clear h9g h0g;go_wp2_with fail
         go_ret3
         exact ⟨by rw [HE.out];rfl,rfl⟩
      ·have hyI:¬ (y:Int) < 128:=by omega
       have hk9:k≠9:=fun e=>by
        have:=h9g (by omega);omega
       have h9b':((k:Int) == 9)=false:=by rw [beq_eq_false_iff_ne];omega
       have hyb':((y:Int) == 0)=false:=by rw [beq_eq_false_iff_ne];omega
       clear h9b hyb h0g h9g;have HE:Hid (R=vgetA (k+1) X (xs.drop (at_+(k+1)))):=hid (by rw [HF.out.1,if_neg hy,Nat.add_assoc]);have HK:Hid (X < 128 ^ (k+1)):=by
        obtain ⟨_,hM,hX,hm2,hmul,ha⟩:=HF.out;refine hid ?_;rw [Nat.pow_succ];have h2:m*128 ^ k≤127*128 ^ k:=Nat.mul_le_mul_right _ (by omega);omega
       clear hy hL;go_wp2_with fail;go_roundw
       case rel=>exact ⟨k+1,X,rfl,by go_num,by omega,by omega,HK,HE,trivial⟩
       case measure=>simp [intOf];omega
   ·have h3:¬ (k:Int) < (L:Int):=by omega
    have hv:=HV.out;rw [List.drop_of_length_le (by omega),vgetA] at hv;subst hv;clear hJ hlt2 hL;go_wp2_with fail
    go_ret3
    exact ⟨rfl,rfl⟩
 ·have he:at_=xs.length:=by omega
  have hR2:R=.error 3:=by
   rw [← HR.out,he,List.drop_length];rfl
  subst he hR2;have hL0:(xs.length:Int) - (xs.length:Int)=0:=by omega
  by_cases hca:c=xs.length
  all_goals
   go_enter Tryz.func104,Tryz.ntmps104
   go_wp2_with fail;refine wp_loop_rounds 1 ?_;rw [rounds_succ];go_wp2_with fail
   go_ret3
   exact ⟨rfl,rfl⟩
end
section
open Go Go.RowKit
theorem u32_and_nat (a b:Nat) (ha:a < 4294967296) (hb:b < 4294967296):bits .and .u32 (a:Int) (b:Int)=((a &&& b:Nat):Int):=by
 have h:bits .and .u32 (a:Int) (b:Int)=IntKind.u32.wrap (BitVec.ofInt 32 a &&& BitVec.ofInt 32 b).toNat:=rfl;rw [h,BitVec.toNat_and,BitVec.ofInt_natCast,BitVec.ofInt_natCast,BitVec.toNat_ofNat,BitVec.toNat_ofNat,show (2:Nat) ^ 32=4294967296 from rfl,Nat.mod_eq_of_lt ha,Nat.mod_eq_of_lt hb];have:a &&& b≤a:=Nat.and_le_left;rw [IntWalk.u32_in _ (by omega)]
theorem u32_xor_nat (a b:Nat) (ha:a < 4294967296) (hb:b < 4294967296):bits .xor .u32 (a:Int) (b:Int)=((a ^^^ b:Nat):Int):=by
 have h:bits .xor .u32 (a:Int) (b:Int)=IntKind.u32.wrap (BitVec.ofInt 32 a ^^^ BitVec.ofInt 32 b).toNat:=rfl;rw [h,BitVec.toNat_xor,BitVec.ofInt_natCast,BitVec.ofInt_natCast,BitVec.toNat_ofNat,BitVec.toNat_ofNat,show (2:Nat) ^ 32=4294967296 from rfl,Nat.mod_eq_of_lt ha,Nat.mod_eq_of_lt hb];have:=xor_lt32 ha hb;rw [IntWalk.u32_in _ (by omega)]
theorem and15 (a:Nat):a &&& 15=a % 16:=Nat.and_two_pow_sub_one_eq_mod a 4
theorem half_byte {w:World} (hG:Gl w) (t:Nat) (ht:t < 4294967296):∃ v:Nat,v < 4294967296∧w.cell? ⟨1,t % 16,none⟩=some (.int .u32 (v:Int))∧bits .xor .u32 (v:Int) ((t:Int) / 16)=((bstep4 t:Nat):Int):=by
 have h16:t % 16 < 16:=by omega
 have hc:=ctab_eq (t % 16) h16;have hg:ctab[t % 16]? = some (bstep4 (t % 16)):=by
  rw [hc,List.getD_eq_getElem?_getD];have:t % 16 < ctab.length:=by show t % 16 < 16;exact h16
  rw [List.getElem?_eq_getElem this];rfl
 have hv:bstep4 (t % 16) < 4294967296:=bstep4_lt (by omega);refine ⟨bstep4 (t % 16),hv,hG.crc _ _ (by rw [List.getElem?_map,hg];rfl),?_⟩;rw [show (t:Int) / 16=((t / 16:Nat):Int) by omega,u32_xor_nat _ _ hv (by omega),← bstep4_tab]
set_option maxRecDepth 100000 in
theorem Update_any (w:World) (s b:Nat) (A:Option Addr) (n c:Nat) (l:List Nat) (hn:n=l.length) (hm:n≤1000000000000) (hr:Rd w b A (cN .u8 l)) (hl:∀ x∈l,x < 256) (hs:s < 4294967296) (hG:Gl w) :
  Calls Tryz.prog 274 #[.int .u32 (s:Int),.slice A n c] w fun e w'=>e=.returned (.int .u32 (crcU s l:Nat))∧w=w':=by
 subst hn;have HR:=hid hr;have HL:=hid hl;have HG:=hid hG;have HS:=hid hs;clear hr hl hG hs;go_enter Tryz.func274,Tryz.ntmps274
 go_wp2
 go_loop [0,9] (fun v i=>∃ k S:Nat,k≤l.length∧i=.int .i64 k∧v=.int .u32 (S:Int)∧Hid (S < 4294967296)∧Hid (S=crcU s (l.take k))) (fun _ i=>l.length - (intOf i).toNat)
 case atStart=>exact ⟨0,s,by omega,rfl,rfl,HS,hid rfl⟩
 case round =>
  obtain ⟨k,S,hk,rfl,rfl,HS2,HE⟩:=hrel;by_cases hlt:k < l.length
  ·have hltI:(k:Int) < (l.length:Int):=by omega
   obtain ⟨o,rfl,_,hc⟩:=HR.out.get (k:=k) (by simpa using hlt);rw [List.getElem_map] at hc;have hxl:=HL.out l[k] (List.getElem_mem hlt);have HT:=hid (show crcU s (l.take (k+1))=cstep (crcU s (l.take k)) l[k] from by rw [List.take_succ_eq_append_getElem hlt,crcU_snoc]);generalize l[k]=x at *;have ht:S ^^^ x < 4294967296:=xor_lt32 HS2.out (by omega);have x1:=u32_xor_nat S x HS2.out (by omega);obtain ⟨T,hT⟩:∃ T,S ^^^ x=T:=⟨_,rfl⟩;rw [hT] at x1 ht;have a1:bits .and .u32 (T:Int) 15=((T % 16:Nat):Int):=(u32_and_nat T 15 ht (by omega)).trans (by rw [and15]);obtain ⟨v1,hv1,c1,y1⟩:=half_byte HG.out T ht;have ht2:=bstep4_lt ht;obtain ⟨U,hU⟩:∃ U,bstep4 T=U:=⟨_,rfl⟩;rw [hU] at y1 ht2;have a2:bits .and .u32 (U:Int) 15=((U % 16:Nat):Int):=(u32_and_nat U 15 ht2 (by omega)).trans (by rw [and15]);obtain ⟨v2,hv2,c2,y2⟩:=half_byte HG.out U ht2;have ht3:=bstep4_lt ht2;obtain ⟨Z,hZ⟩:∃ Z,bstep4 U=Z:=⟨_,rfl⟩;rw [hZ] at y2 ht3;have HZ:=hid (show Z=cstep S x from by rw [← hZ,← hU,← hT];rfl);have HZ3:=hid ht3;have hT16:T % 16 < 16:=by omega
   have hU16:U % 16 < 16:=by omega
   obtain ⟨i1,hi1⟩:∃ i,T % 16=i:=⟨_,rfl⟩;obtain ⟨i2,hi2⟩:∃ i,U % 16=i:=⟨_,rfl⟩;rw [hi1] at a1 c1 hT16;rw [hi2] at a2 c2 hU16;have d1:IntKind.u32.wrap ((x:Int))=(x:Int):=IntWalk.u32_in _ (by omega);clear ht3 hZ hU hT hi1 hi2;go_wp2
   go_round
   case rel=>exact ⟨k+1,Z,by omega,by go_num,rfl,HZ3,hid (by rw [HT.out,← HE.out,HZ.out])⟩
   case measure=>simp [intOf];omega
  ·obtain rfl:k=l.length:=by omega
   go_wp2;go_ret;refine ⟨?_,rfl⟩;rw [HE.out,List.take_length];rfl
set_option maxRecDepth 100000 in
theorem Sum_any (w:World) (b:Nat) (A:Option Addr) (n c:Nat) (l:List Nat) (hn:n=l.length) (hm:n≤1000000000000) (hr:Rd w b A (cN .u8 l)) (hl:∀ x∈l,x < 256) (hG:Gl w) :
  Calls Tryz.prog 219 #[.slice A n c] w fun e w'=>e=.returned (.int .u32 (crc l:Nat))∧w=w':=by
 have HU:=hid (Update_any w 4294967295 b A n c l hn hm hr hl (by omega) hG);have hlt:=crcU_lt l 4294967295 (by omega) hl;have HC:=hid (show crc l=4294967295 - crcU 4294967295 l from rfl);obtain ⟨U,hU⟩:∃ U,crcU 4294967295 l=U:=⟨_,rfl⟩;rw [hU] at HU HC hlt;have HLT:=hid hlt;clear hn hm hr hl hG hU hlt;go_enter Tryz.func219,Tryz.ntmps219
 go_wp2_with (go_at_call 274;refine HU.out.mono ?_;rintro e w1 ⟨rfl,hw⟩;subst hw)
 go_ret;have hx:bits .xor .u32 IntKind.u32.max (U:Int)=((4294967295 - U:Nat):Int):=by
  rw [show IntKind.u32.max=((4294967295:Nat):Int) from rfl,u32_xor_nat _ _ (by omega) HLT.out,Nat.xor_comm,xor_ones HLT.out]
 refine ⟨?_,rfl⟩;rw [HC.out,← hx];rfl
def bsI:Nat→Nat→Nat
 | 0,t=>t
 | k+1,t=>bstep (bsI k t)
theorem bsI_lt:∀ (k:Nat) {t:Nat},t < 4294967296→bsI k t < 4294967296
 | 0,_,h=>h
 | k+1,_,h=>bstep_lt (bsI_lt k h)
set_option maxRecDepth 100000 in
theorem step_any (w:World) (s c:Nat) (hs:s < 4294967296) (hc:c < 256) :
  Calls Tryz.prog 275 #[.int .u32 (s:Int),.int .u8 (c:Int)] w fun e w'=>e=.returned (.int .u32 (cstep s c:Nat))∧w=w':=by
 have x1:=u32_xor_nat s c hs (by omega);have ht:s ^^^ c < 4294967296:=xor_lt32 hs (by omega);have HZ:=hid (show bsI 8 (s ^^^ c)=cstep s c from rfl);obtain ⟨T,hT⟩:∃ T,s ^^^ c=T:=⟨_,rfl⟩;rw [hT] at x1 ht HZ;have HT:=hid ht;have d1:IntKind.u32.wrap ((c:Int))=(c:Int):=IntWalk.u32_in _ (by omega);clear hT ht hs;go_enter Tryz.func275,Tryz.ntmps275
 go_wp2
 go_loop [5,6] (fun v i=>∃ k S:Nat,k≤8∧i=.int .i64 k∧v=.int .u32 (S:Int)∧Hid (S=bsI k T)) (fun _ i=>8 - (intOf i).toNat)
 case atStart=>exact ⟨0,T,by omega,rfl,rfl,hid rfl⟩
 case round =>
  obtain ⟨k,S,hk,rfl,rfl,HE⟩:=hrel;clear x1 d1;have hSl:S < 4294967296:=by rw [HE.out];exact bsI_lt k HT.out
  by_cases hlt:k < 8
  ·have hS2:(S:Int) / 2=((S / 2:Nat):Int):=by omega
   by_cases ho:S % 2=1
   ·have o1:((S:Int) % 2 == 1)=true:=by rw [beq_iff_eq];omega
    have x2:bits .xor .u32 ((S:Int) / 2) 3988292384=((bstep S:Nat):Int):=by
     rw [hS2];refine (u32_xor_nat (S / 2) 3988292384 (by omega) (by omega)).trans ?_;unfold bstep;rw [if_pos ho]
    have HB:=hid (show bstep S=bsI (k+1) T from by rw [HE.out];rfl);obtain ⟨Z,hZ⟩:∃ Z,bstep S=Z:=⟨_,rfl⟩;rw [hZ] at x2 HB;clear hS2 hZ ho;go_wp2
    go_round
    case rel=>exact ⟨k+1,Z,by omega,by go_num,rfl,HB⟩
    case measure=>simp [intOf];omega
   ·have o1:((S:Int) % 2 == 1)=false:=by rw [beq_eq_false_iff_ne];omega
    have HB:=hid (show S / 2=bsI (k+1) T from by rw [HE.out];show _=bstep (bsI k T);rw [← HE.out];unfold bstep;rw [if_neg ho]);have H2:=hid hS2;clear hS2 ho;go_wp2
    go_round
    case rel=>exact ⟨k+1,S / 2,by omega,by go_num,by rw [← H2.out],HB⟩
    case measure=>simp [intOf];omega
  ·obtain rfl:k=8:=by omega
   clear hSl;go_wp2;go_ret;exact ⟨by rw [HE.out,HZ.out];rfl,rfl⟩
set_option maxRecDepth 100000 in
theorem RUpdate_any (w:World) (s b:Nat) (A:Option Addr) (n c:Nat) (l:List Nat) (hn:n=l.length) (hm:n≤1000000000000) (hr:Rd w b A (cN .u8 l)) (hl:∀ x∈l,x < 256) (hs:s < 4294967296) :
  Calls Tryz.prog 220 #[.int .u32 (s:Int),.slice A n c] w fun e w'=>e=.returned (.int .u32 (crcU s l:Nat))∧Dr w w':=by
 subst hn;have HR:=hid hr;have HL:=hid hl;have HS:=hid hs;clear hr hl hs;go_enter Tryz.func220,Tryz.ntmps220
 go_wp2;go_loopw [0,5] (fun v i wr=>∃ k S:Nat,k≤l.length∧i=.int .i64 k∧v=.int .u32 (S:Int)∧Hid (S < 4294967296)∧Hid (S=crcU s (l.take k))∧Hid (Dr w wr)) (fun _ i _=>l.length - (intOf i).toNat)
 case atStart=>exact ⟨0,s,by omega,rfl,rfl,HS,hid rfl,hid (Dr.refl _)⟩
 case round =>
  obtain ⟨k,S,hk,rfl,rfl,HS2,HE,HD⟩:=hrel;by_cases hlt:k < l.length
  ·have hltI:(k:Int) < (l.length:Int):=by omega
   have hrr:=HR.out.nw HD.out.nw;obtain ⟨o,rfl,_,hc⟩:=hrr.get (k:=k) (by simpa using hlt);rw [List.getElem_map] at hc;have hxl:=HL.out l[k] (List.getElem_mem hlt);have HT:=hid (show crcU s (l.take (k+1))=cstep (crcU s (l.take k)) l[k] from by rw [List.take_succ_eq_append_getElem hlt,crcU_snoc]);generalize l[k]=x at *;have HST:=hid fun W=>step_any W S x HS2.out hxl
   clear hrr;go_wp2_with fail;refine (HST.out _).mono ?_;rintro e w1 ⟨rfl,hw⟩;subst hw;have hZ:=cstep_lt (c:=x) HS2.out hxl;obtain ⟨Z,hZ2⟩:∃ Z,cstep S x=Z:=⟨_,rfl⟩;rw [hZ2] at hZ ⊢;have HZ:=hid hZ2;have HZ3:=hid hZ;clear hZ hZ2 hc;go_wp2;go_roundw
   case rel=>exact ⟨k+1,Z,by omega,by go_num,rfl,HZ3,hid (by rw [HT.out,← HE.out,HZ.out]),HD⟩
   case measure=>simp [intOf];omega
  ·obtain rfl:k=l.length:=by omega
   go_wp2;go_ret;exact ⟨by rw [HE.out,List.take_length];rfl,HD.out⟩
set_option maxRecDepth 100000 in
theorem RSum_any (w:World) (b:Nat) (A:Option Addr) (n c:Nat) (l:List Nat) (hn:n=l.length) (hm:n≤1000000000000) (hr:Rd w b A (cN .u8 l)) (hl:∀ x∈l,x < 256) :
  Calls Tryz.prog 152 #[.slice A n c] w fun e w'=>e=.returned (.int .u32 (crc l:Nat))∧Dr w w':=by
 have HU:=hid (RUpdate_any w 4294967295 b A n c l hn hm hr hl (by omega));have hlt:=crcU_lt l 4294967295 (by omega) hl;have HC:=hid (show crc l=4294967295 - crcU 4294967295 l from rfl);obtain ⟨U,hU⟩:∃ U,crcU 4294967295 l=U:=⟨_,rfl⟩;rw [hU] at HU HC hlt;clear hn hm hr hl hU;go_enter Tryz.func152,Tryz.ntmps152
 go_wp2_with (go_at_call 220;refine HU.out.mono ?_;rintro e w1 ⟨rfl,hD⟩)
 go_ret;refine ⟨?_,hD⟩;rw [HC.out,show ((4294967295 - U:Nat):Int)=4294967295 - (U:Int) by omega];rfl
theorem sum4_cells (l:List Nat) (C:Nat):cN .u8 (l++sum4 C)=cN .u8 l++[.int .u8 ((C:Int) % 256),.int .u8 ((C:Int) / 256 % 256),.int .u8 ((C:Int) / 65536 % 256),.int .u8 ((C:Int) / 16777216 % 256)]:=by
 unfold cN sum4;rw [List.map_append];rfl
set_option maxRecDepth 100000 in
set_option maxHeartbeats 1000000 in
theorem CrcAppend_any (w:World) (b:Nat) (A:Option Addr) (n c:Nat) (l:List Nat) (hn:n=l.length) (hm:n≤100000000000) (hr:Rd w b A (cN .u8 l)) (hnil:A=none→c=0) (hl:∀ x∈l,x < 256) (hG:Gl w) :
  Calls Tryz.prog 149 #[.slice A n c] w (NewB w (addCrc l)):=by
 have HS:=hid fun W (hN:Nw w W)=>Sum_any W b A n c l hn (by omega) (hr.nw hN) hl (hG.nw hN)
 have HR:=hid fun W (hN:Nw w W)=>hr.nw hN
 have HA:=hid (show addCrc l=l++sum4 (crc l) from rfl);have hC:=crc_lt l;have HL:=hid hn;obtain ⟨C,hC2⟩:∃ C,crc l=C:=⟨_,rfl⟩;rw [hC2] at HS HA hC;have e0:IntKind.u8.wrap (C:Int)=((C % 256:Nat):Int):=by rw [IntKind.wrap_u8];omega
 have e1:IntKind.u8.wrap ((C:Int) / 256)=((C / 256 % 256:Nat):Int):=by rw [IntKind.wrap_u8];omega
 have e2:IntKind.u8.wrap ((C:Int) / 65536)=((C / 65536 % 256:Nat):Int):=by rw [IntKind.wrap_u8];omega
 have e3:IntKind.u8.wrap ((C:Int) / 16777216)=((C / 16777216 % 256:Nat):Int):=by rw [IntKind.wrap_u8];omega
 clear hC2 hn hl hG hr;have hN0:Nw w (w.alloc (.cells #[] 5)):=(Nw.refl w).alloc' _;go_enter Tryz.func149,Tryz.ntmps149
 go_wp2_with (first
  | (go_at_call 219;refine (HS.out _ hN1).mono ?_;rintro e w2 ⟨rfl,hw⟩;subst hw)
  | (at_builtin;refine wpList_app E_u8 rfl (.tmp 6) (.tmp 7) rfl rfl (Ow.empty w 5 1) rfl (HR.out _ hN0) (by rw [List.length_map,HL.out,Nat.mul_one]) hnil (by intro v hv;obtain ⟨y,_,rfl⟩:=List.mem_map.1 hv;rfl) (by simp only [maxLen];omega) (by omega) ?_;intro g1 A1 c1 w1 q1 q2 q3 q4;have hN1:Nw w w1:=Kp.nw hN0 q3 (Nat.le_refl _) (Nat.le_refl _);rw [Nat.zero_add,List.nil_append] at q1;have Q1:=hid q1;have hg1:w.heap.size≤g1:=(by rcases q2 with h | h;exact Nat.le_of_eq h.symm;have:=hN0.size;omega);clear q1 q2 q3 q4))
 refine wp_loop_rounds 5 ?_;rw [rounds_succ];go_wp2_with (at_builtin;refine wpList_app1 E_u8 rfl (.tmp 14) (.tmp 20) rfl rfl Q1.out (u:=.int .u8 ((C:Int) % 256)) rfl rfl (by omega) (by omega) ?_;intro g2 A2 c2 w2 q1 q2 q3 q4;have hN2:Nw w w2:=Kp.nw hN1 q3 hg1 hg1;have hg2:w.heap.size≤g2:=(by have:=hN1.size;omega);have Q2:=hid q1;clear q1 q2 q3 q4 Q1)
 rw [rounds_succ];go_wp2_with (at_builtin;refine wpList_app1 E_u8 rfl (.tmp 14) (.tmp 20) rfl rfl Q2.out (u:=.int .u8 ((C:Int) / 256 % 256)) rfl rfl (by omega) (by omega) ?_;intro g3 A3 c3 w3 q1 q2 q3 q4;have hN3:Nw w w3:=Kp.nw hN2 q3 hg2 hg2;have hg3:w.heap.size≤g3:=(by have:=hN2.size;omega);have Q3:=hid q1;clear q1 q2 q3 q4 Q2)
 rw [rounds_succ];go_wp2_with (at_builtin;refine wpList_app1 E_u8 rfl (.tmp 14) (.tmp 20) rfl rfl Q3.out (u:=.int .u8 ((C:Int) / 65536 % 256)) rfl rfl (by omega) (by omega) ?_;intro g4 A4 c4 w4 q1 q2 q3 q4;have hN4:Nw w w4:=Kp.nw hN3 q3 hg3 hg3;have hg4:w.heap.size≤g4:=(by have:=hN3.size;omega);have Q4:=hid q1;clear q1 q2 q3 q4 Q3)
 rw [rounds_succ];go_wp2_with (at_builtin;refine wpList_app1 E_u8 rfl (.tmp 14) (.tmp 20) rfl rfl Q4.out (u:=.int .u8 ((C:Int) / 16777216 % 256)) rfl rfl (by omega) (by omega) ?_;intro g5 A5 c5 w5 q1 q2 q3 q4;have hN5:Nw w w5:=Kp.nw hN4 q3 hg4 hg4;have hg5:w.heap.size≤g5:=(by have:=hN4.size;omega);have Q5:=hid q1;clear q1 q2 q3 q4 Q4)
 rw [rounds_succ];go_wp2_with fail;go_ret;have hl:(addCrc l).length=n+1+1+1+1:=by rw [HA.out,List.length_append,← HL.out];simp [sum4]
 refine ⟨g5,A5,c5,by rw [hl];rfl,?_,hg5,hN5⟩;rw [hl,HA.out];have h:=Q5.out;rw [sum4_cells];simp only [List.append_assoc,List.cons_append,List.nil_append] at h ⊢;exact h
set_option maxRecDepth 100000 in
set_option maxHeartbeats 1000000 in
theorem RCrcAppend_any (w:World) (b:Nat) (A:Option Addr) (n c:Nat) (l:List Nat) (hn:n=l.length) (hm:n≤100000000000) (hr:Rd w b A (cN .u8 l)) (hnil:A=none→c=0) (hl:∀ x∈l,x < 256) :
  Calls Tryz.prog 91 #[.slice A n c] w (NewB w (addCrc l)):=by
 have HS:=hid fun W (hN:Nw w W)=>RSum_any W b A n c l hn (by omega) (hr.nw hN) hl
 have HR:=hid fun W (hN:Nw w W)=>hr.nw hN
 have HA:=hid (show addCrc l=l++sum4 (crc l) from rfl);have hC:=crc_lt l;have HL:=hid hn;obtain ⟨C,hC2⟩:∃ C,crc l=C:=⟨_,rfl⟩;rw [hC2] at HS HA hC;have e0:IntKind.u8.wrap (C:Int)=((C % 256:Nat):Int):=by rw [IntKind.wrap_u8];omega
 have e1:IntKind.u8.wrap ((C:Int) / 256)=((C / 256 % 256:Nat):Int):=by rw [IntKind.wrap_u8];omega
 have e2:IntKind.u8.wrap ((C:Int) / 65536)=((C / 65536 % 256:Nat):Int):=by rw [IntKind.wrap_u8];omega
 have e3:IntKind.u8.wrap ((C:Int) / 16777216)=((C / 16777216 % 256:Nat):Int):=by rw [IntKind.wrap_u8];omega
 clear hC2 hn hl hr;go_enter Tryz.func91,Tryz.ntmps91
 go_wp2_with fail;refine (HS.out _ (Nw.refl w)).mono ?_;rintro e w1 ⟨rfl,hD⟩;have hN0:Nw w (w1.alloc (.cells #[] 5)):=hD.nw.alloc' _;have hw1:=hD.nw.size;obtain ⟨LV,hLV⟩:∃ LV:Array Value,LV=#[.int .u8 ((C:Int) % 256),.int .u8 ((C:Int) / 256 % 256),.int .u8 ((C:Int) / 65536 % 256),.int .u8 ((C:Int) / 16777216 % 256)]:=⟨_,rfl⟩;have HLV:=hid hLV;have hNl:∀ W:World,Nw W (W.alloc (.cells #[.int .u8 ((C:Int) % 256),.int .u8 ((C:Int) / 256 % 256),.int .u8 ((C:Int) / 65536 % 256),.int .u8 ((C:Int) / 16777216 % 256)] 5)):=fun W=>(Nw.refl W).alloc' _
 have hlit:=fun W:World=>(Ow.lit W 5 1 4 #[.int .u8 ((C:Int) % 256),.int .u8 ((C:Int) / 256 % 256),.int .u8 ((C:Int) / 65536 % 256),.int .u8 ((C:Int) / 16777216 % 256)] rfl (by omega)).rd
 have HNl:=hid hNl;have HLit:=hid hlit;clear hNl hlit hLV;go_wp2_with (first
  | (at_builtin;refine wpList_app E_u8 rfl (.tmp 10) (.tmp 22) rfl rfl (Q1.out.nw (HNl.out _)) rfl (HLit.out _) (m:=4) (by simp) (by intro h;cases h) (by intro v hv;simp at hv;rcases hv with rfl | rfl | rfl | rfl<;>rfl) (by simp only [maxLen];omega) (by omega) ?_;intro g5 A5 c5 w5 q1 q2 q3 q4;have hN5:Nw w w5:=Kp.nw (hN1.trans (HNl.out _)) q3 hg1 hg1;have hg5:w.heap.size≤g5:=(by rcases q2 with h | h;omega;have:=(hN1.trans (HNl.out w2)).size;omega);have Q5:=hid q1;clear q1 q2 q3 q4)
  | (at_builtin;refine wpList_app E_u8 rfl (.tmp 7) (.tmp 8) rfl rfl (Ow.empty w1 5 1) rfl (HR.out _ hN0) (by rw [List.length_map,HL.out,Nat.mul_one]) hnil (by intro v hv;obtain ⟨y,_,rfl⟩:=List.mem_map.1 hv;rfl) (by simp only [maxLen];omega) (by omega) ?_;intro g1 A1 c1 w2 q1 q2 q3 q4;have hN1:Nw w w2:=Kp.nw hN0 q3 hw1 hw1;rw [Nat.zero_add,List.nil_append] at q1;have Q1:=hid q1;have hg1:w.heap.size≤g1:=(by rcases q2 with h | h;omega;have:=hN0.size;omega);clear q1 q2 q3 q4))
 go_ret;have hl:(addCrc l).length=n+4:=by rw [HA.out,List.length_append,← HL.out];simp [sum4]
 refine ⟨g5,A5,c5,by rw [hl];rfl,?_,hg5,hN5⟩;rw [hl,HA.out,sum4_cells];exact Q5.out
end
section
open Go Go.RowKit Go.Lib
def sB (s:ByteArray):List Nat:=s.data.toList.map (·.toNat)
def bS (l:List Nat):ByteArray:=⟨(l.map UInt8.ofNat).toArray⟩
theorem sB_length (s:ByteArray):(sB s).length=s.size:=by unfold sB;rw [List.length_map];rfl
theorem sB_lt (s:ByteArray):∀ x∈sB s,x < 256:=by
 intro x hx;obtain ⟨u,_,rfl⟩:=List.mem_map.1 hx;exact u.toNat_lt
theorem sB_bS {l:List Nat} (h:∀ x∈l,x < 256):sB (bS l)=l:=by
 simp only [sB,bS,List.map_map]
 conv=>rhs;rw [← List.map_id l]
 apply List.map_congr_left
 intro x hx;have:=h x hx;simp [Nat.mod_eq_of_lt this]
theorem sB_inj {a b:ByteArray} (h:sB a=sB b):a=b:=by
 obtain ⟨⟨x⟩⟩:=a;obtain ⟨⟨y⟩⟩:=b;have:x=y:=by
  simp only [sB] at h;exact (List.map_inj_right (fun u v e=>UInt8.toNat_inj.1 e)).1 h
 rw [this]
def lenB (l:List Nat):List Nat:=vint l.length++l
def frame (id:Nat) (l:List Nat):List Nat:=addCrc (id::lenB l)
theorem u8_lit (l:List Nat):∀ u∈cN .u8 l,u.oneCell'=true:=by intro v hv;obtain ⟨y,_,rfl⟩:=List.mem_map.1 hv;rfl
theorem run_str {w:World} {b:Nat} {A:Option Addr} {n c:Nat} {l:List Nat} (hn:n=l.length) (hr:Rd w b A (cN .u8 l)) :
  (convert 22 9 (.slice A n c)).run Tryz.prog w=.ok (.string (bS l)) w:=by
 subst hn;rcases hr with h | ⟨o,rfl,_,hc⟩
 ·have h0:l=[]:=List.map_eq_nil_iff.1 h;subst h0;cases A with
  | none=>exact run_convert_bytes_nil w 22 5 Tryz.underlying22 Tryz.underlying5 0 c 9 Tryz.underlying9
  | some a =>
   have:=run_convert_bytes_back w 22 9 5 a c [] Tryz.underlying22 Tryz.underlying5 Tryz.underlying9 (fun j hj=>by simp at hj);exact this
 ·have h:=run_convert_bytes_arg w 22 5 Tryz.underlying22 Tryz.underlying5 b o l.length c (l.map fun x:Nat=>(x:Int)) (List.length_map _) (fun i hi=>by
   refine hc i _ ?_;rw [List.getElem?_map,List.getElem?_eq_getElem hi,List.getD_eq_getElem?_getD,List.getElem?_map,List.getElem?_eq_getElem hi];rfl) 9 Tryz.underlying9
  rw [h];unfold strOfNums bS;rw [List.map_map];rfl
section
variable {P:Program} {w:World} {b:Nat} {e:TypeId} {n c:Nat} {A:Option Addr} {xs:List Value}
end
theorem AppB.of_app {w w':World} {b b' n c':Nat} {A A':Option Addr} {xs news:List Nat} (h1:Ow w' b' 5 1 A' (n+news.length) c' (cN .u8 xs++cN .u8 news)) (h2:b'=b∨w.heap.size≤b') (h3:Kp b b w w') (h4:A=none→Nw w w'∧(w.heap.size≤b'∨A'=none)) :
  AppB w b A n xs news (.returned (.slice A' (n+news.length) c')) w':=by
 refine ⟨b',A',c',rfl,?_,?_,h3,fun e=>(h4 e).1⟩
 ·unfold cN at h1 ⊢;rw [List.map_append];exact h1
 ·by_cases hA:A=none
  ·exact .inr (h4 hA).2
  ·rcases h2 with h | h
   ·exact .inl ⟨h,hA⟩
   ·exact .inr (.inl h)
theorem AppB.own {w w0 W:World} {b n:Nat} {A:Option Addr} {xs news:List Nat} {e:Ending} (K:List Nat) (h:AppB W b A n xs news e w) (hN:Nw w0 W) (hb:(w0.heap.size≤b∧b ∉ K)∨A=none) (hK:∀ k∈K,k < W.heap.size) :
  ∃ b' A' c',e=.returned (.slice A' (n+news.length) c')∧Ow w b' 5 1 A' (n+news.length) c' (cN .u8 (xs++news))∧((w0.heap.size≤b'∧b' ∉ K)∨A'=none)∧Nw w0 w∧(∀ k∈K,w.heap[k]? = W.heap[k]?)∧∀ k∈K,k < w.heap.size:=by
 obtain ⟨b',A',c',he,hO,hb',hk,hn⟩:=h;have hsz:=hN.size;have hs2:=hk.size;refine ⟨b',A',c',he,hO,?_,?_,fun k hkK=>?_,fun k hkK=>Nat.lt_of_lt_of_le (hK k hkK) hs2⟩
 ·rcases hb' with ⟨rfl,h⟩ | h | h
  ·rcases hb with h' | h'
   ·exact .inl h'
   ·exact (h h').elim
  ·left;exact ⟨by omega,fun hm=>by have:=hK _ hm;omega⟩
  ·exact .inr h
 ·rcases hb with h' | h'
  ·exact Kp.nw hN hk h'.1 h'.1
  ·exact hN.trans (hn h')
 ·rcases hb with h' | h'
  ·exact hk.block k (hK k hkK) (fun e=>h'.2 (e ▸ hkK)) (fun e=>h'.2 (e ▸ hkK))
  ·exact (hn h').block k (hK k hkK)
end
section
open Go Go.RowKit Go.Lib
def toc (a0 a1 a2 a3:Nat):List Nat:=vint a0++vint a1++vint a2++vint a3
def hd0:List Nat:=[84,83,66,75,1]
theorem toc_lt (a0 a1 a2 a3:Nat):∀ x∈toc a0 a1 a2 a3,x < 256:=by
 intro x hx;simp only [toc,List.mem_append] at hx;rcases hx with ((hx | hx) | hx) | hx<;>exact vint_lt _ x hx
set_option maxRecDepth 100000 in
theorem contents_any (w:World) (a0 a1 a2 a3 a4:Nat) (h0:a0≤1000000000000) (h1:a1≤1000000000000) (h2:a2≤1000000000000) (h3:a3≤1000000000000) :
  Calls Tryz.prog 148 #[.agg #[.int .i64 (a0:Int),.int .i64 (a1:Int),.int .i64 (a2:Int),.int .i64 (a3:Int),.int .i64 (a4:Int)]] w (NewB w (toc a0 a1 a2 a3)):=by
 have hb:(w.alloc (.cells #[.int .i64 (a0:Int),.int .i64 (a1:Int),.int .i64 (a2:Int),.int .i64 (a3:Int),.int .i64 (a4:Int)] 80)).heap[w.heap.size]? = some (.cells #[.int .i64 (a0:Int),.int .i64 (a1:Int),.int .i64 (a2:Int),.int .i64 (a3:Int),.int .i64 (a4:Int)] 80):=heap_alloc_new _ _;have hN:Nw w (w.alloc (.cells #[.int .i64 (a0:Int),.int .i64 (a1:Int),.int .i64 (a2:Int),.int .i64 (a3:Int),.int .i64 (a4:Int)] 80)):=(Nw.refl w).alloc' _;have hlt:w.heap.size < (w.alloc (.cells #[.int .i64 (a0:Int),.int .i64 (a1:Int),.int .i64 (a2:Int),.int .i64 (a3:Int),.int .i64 (a4:Int)] 80)).heap.size:=by simp
 have HL0:=hid (vint_len a0 (by omega));have HL1:=hid (vint_len a1 (by omega));have HL2:=hid (vint_len a2 (by omega));have HL3:=hid (vint_len a3 (by omega));have HT:=hid (show toc a0 a1 a2 a3=vint a0++vint a1++vint a2++vint a3 from rfl);have u0:IntKind.u64.wrap (a0:Int)=(a0:Int):=IntWalk.u64_in _ (by omega);have u1:IntKind.u64.wrap (a1:Int)=(a1:Int):=IntWalk.u64_in _ (by omega);have u2:IntKind.u64.wrap (a2:Int)=(a2:Int):=IntWalk.u64_in _ (by omega);have u3:IntKind.u64.wrap (a3:Int)=(a3:Int):=IntWalk.u64_in _ (by omega);have HV0:=hid fun W b A n c xs hO hn=>VAppend_any W b A n c xs a0 hO (by omega) hn
 have HV1:=hid fun W b A n c xs hO hn=>VAppend_any W b A n c xs a1 hO (by omega) hn
 have HV2:=hid fun W b A n c xs hO hn=>VAppend_any W b A n c xs a2 hO (by omega) hn
 have HV3:=hid fun W b A n c xs hO hn=>VAppend_any W b A n c xs a3 hO (by omega) hn
 obtain ⟨V0,hV0⟩:∃ V,vint a0=V:=⟨_,rfl⟩;obtain ⟨V1,hV1⟩:∃ V,vint a1=V:=⟨_,rfl⟩;obtain ⟨V2,hV2⟩:∃ V,vint a2=V:=⟨_,rfl⟩;obtain ⟨V3,hV3⟩:∃ V,vint a3=V:=⟨_,rfl⟩;rw [hV0] at HV0 HL0 HT;rw [hV1] at HV1 HL1 HT;rw [hV2] at HV2 HL2 HT;rw [hV3] at HV3 HL3 HT;clear hV0 hV1 hV2 hV3;go_enter Tryz.func148,Tryz.ntmps148
 go_wp2;refine wp_loop_rounds 5 ?_;generalize w.alloc (.cells #[.int .i64 (a0:Int),.int .i64 (a1:Int),.int .i64 (a2:Int),.int .i64 (a3:Int),.int .i64 (a4:Int)] 80)=W0 at *;have HO0:=hid (show Ow W0 0 5 1 none 0 0 (cN .u8 []) from Ow.nil W0 0 5 1);have HB0:=hid hb;have HN0:=hid hN;clear hb hN;have HLT0:=hid (show ∀ k∈[w.heap.size],k < W0.heap.size from fun k hk=>by obtain rfl:=List.mem_singleton.1 hk;exact hlt);clear hlt;rw [rounds_succ];have hl0:=HL0.out;have hc0:W0.cell? ⟨w.heap.size,0,none⟩=some (.int .i64 (a0:Int)):=by simp [World.cell?,HB0.out]
 go_wp2_with fail;refine (HV0.out W0 _ _ _ _ _ HO0.out (by omega)).mono ?_;rintro e W1 hA0;obtain ⟨b1,A1,c1,rfl,hO1,hp1,hN1,hK1,hlt1⟩:=hA0.own [w.heap.size] HN0.out (.inr rfl) HLT0.out;simp only [Nat.zero_add,List.nil_append] at hO1;have HB1:=hid ((hK1 _ List.mem_cons_self).trans HB0.out);have HLT1:=hid hlt1;have HO1:=hid hO1;have HN1:=hid hN1;have HP1:=hid hp1;clear hO1 hN1 hp1 hK1 hlt1 hc0 hA0 HB0 HO0;go_wp2_with fail;rw [rounds_succ];have hl1:=HL1.out;have hc1:W1.cell? ⟨w.heap.size,1,none⟩=some (.int .i64 (a1:Int)):=by simp [World.cell?,HB1.out]
 go_wp2_with fail;refine (HV1.out W1 _ _ _ _ _ HO1.out (by omega)).mono ?_;rintro e W2 hA1;obtain ⟨b2,A2,c2,rfl,hO2,hp2,hN2,hK2,hlt2⟩:=hA1.own [w.heap.size] HN1.out HP1.out HLT1.out;have HB2:=hid ((hK2 _ List.mem_cons_self).trans HB1.out);have HLT2:=hid hlt2;have HO2:=hid hO2;have HN2:=hid hN2;have HP2:=hid hp2;clear hO2 hN2 hp2 hK2 hlt2 hc1 hA1 HB1 HO1;go_wp2_with fail;rw [rounds_succ];have hl2:=HL2.out;have hc2:W2.cell? ⟨w.heap.size,2,none⟩=some (.int .i64 (a2:Int)):=by simp [World.cell?,HB2.out]
 go_wp2_with fail;refine (HV2.out W2 _ _ _ _ _ HO2.out (by omega)).mono ?_;rintro e W3 hA2;obtain ⟨b3,A3,c3,rfl,hO3,hp3,hN3,hK3,hlt3⟩:=hA2.own [w.heap.size] HN2.out HP2.out HLT2.out;have HB3:=hid ((hK3 _ List.mem_cons_self).trans HB2.out);have HLT3:=hid hlt3;have HO3:=hid hO3;have HN3:=hid hN3;have HP3:=hid hp3;clear hO3 hN3 hp3 hK3 hlt3 hc2 hA2 HB2 HO2;go_wp2_with fail;rw [rounds_succ];have hl3:=HL3.out;have hc3:W3.cell? ⟨w.heap.size,3,none⟩=some (.int .i64 (a3:Int)):=by simp [World.cell?,HB3.out]
 go_wp2_with fail;refine (HV3.out W3 _ _ _ _ _ HO3.out (by omega)).mono ?_;rintro e W4 hA3;obtain ⟨b4,A4,c4,rfl,hO4,hp4,hN4,hK4,hlt4⟩:=hA3.own [w.heap.size] HN3.out HP3.out HLT3.out;have HB4:=hid ((hK4 _ List.mem_cons_self).trans HB3.out);have HLT4:=hid hlt4;have HO4:=hid hO4;have HN4:=hid hN4;have HP4:=hid hp4;clear hO4 hN4 hp4 hK4 hlt4 hc3 hA3 HB3 HO3;go_wp2_with fail;rw [rounds_succ];go_wp2_with fail;go_ret;have hl:(toc a0 a1 a2 a3).length=V0.length+V1.length+V2.length+V3.length:=by rw [HT.out];simp only [List.length_append]
 have hO:=HO4.out;rcases HP4.out with h | h
 ·exact ⟨b4,A4,c4,by rw [hl];rfl,by rw [hl,HT.out];exact hO,h.1,HN4.out⟩
 ·refine ⟨w.heap.size,A4,c4,by rw [hl];rfl,?_,Nat.le_refl _,HN4.out⟩;rw [hl,HT.out];rcases hO with ⟨p,q⟩ | ⟨p,_⟩
  ·exact .inl ⟨p,q⟩
  ·rw [h] at p;cases p
set_option maxRecDepth 100000 in
set_option maxHeartbeats 400000 in
theorem Rcontents_any (w:World) (a0 a1 a2 a3 a4:Nat) (h0:a0≤1000000000000) (h1:a1≤1000000000000) (h2:a2≤1000000000000) (h3:a3≤1000000000000) :
  Calls Tryz.prog 81 #[.agg #[.int .i64 (a0:Int),.int .i64 (a1:Int),.int .i64 (a2:Int),.int .i64 (a3:Int),.int .i64 (a4:Int)]] w (NewB w (toc a0 a1 a2 a3)):=by
 have hb:(w.alloc (.cells #[.int .i64 (a0:Int),.int .i64 (a1:Int),.int .i64 (a2:Int),.int .i64 (a3:Int),.int .i64 (a4:Int)] 80)).heap[w.heap.size]? = some (.cells #[.int .i64 (a0:Int),.int .i64 (a1:Int),.int .i64 (a2:Int),.int .i64 (a3:Int),.int .i64 (a4:Int)] 80):=heap_alloc_new _ _;have hN:Nw w (w.alloc (.cells #[.int .i64 (a0:Int),.int .i64 (a1:Int),.int .i64 (a2:Int),.int .i64 (a3:Int),.int .i64 (a4:Int)] 80)):=(Nw.refl w).alloc' _;have hlt:w.heap.size < (w.alloc (.cells #[.int .i64 (a0:Int),.int .i64 (a1:Int),.int .i64 (a2:Int),.int .i64 (a3:Int),.int .i64 (a4:Int)] 80)).heap.size:=by simp
 have HL0:=hid (vint_len a0 (by omega));have HL1:=hid (vint_len a1 (by omega));have HL2:=hid (vint_len a2 (by omega));have HL3:=hid (vint_len a3 (by omega));have HT:=hid (show toc a0 a1 a2 a3=vint a0++vint a1++vint a2++vint a3 from rfl);have u0:IntKind.u64.wrap (a0:Int)=(a0:Int):=IntWalk.u64_in _ (by omega);have HV0:=hid fun W=>REncode2_any a0 W a0 (Nat.le_refl _) (by omega)
 have u1:IntKind.u64.wrap (a1:Int)=(a1:Int):=IntWalk.u64_in _ (by omega);have HV1:=hid fun W=>REncode2_any a1 W a1 (Nat.le_refl _) (by omega)
 have u2:IntKind.u64.wrap (a2:Int)=(a2:Int):=IntWalk.u64_in _ (by omega);have HV2:=hid fun W=>REncode2_any a2 W a2 (Nat.le_refl _) (by omega)
 have u3:IntKind.u64.wrap (a3:Int)=(a3:Int):=IntWalk.u64_in _ (by omega);have HV3:=hid fun W=>REncode2_any a3 W a3 (Nat.le_refl _) (by omega)
 obtain ⟨V0,hV0⟩:∃ V,vint a0=V:=⟨_,rfl⟩;rw [hV0] at HV0 HL0 HT;obtain ⟨V1,hV1⟩:∃ V,vint a1=V:=⟨_,rfl⟩;rw [hV1] at HV1 HL1 HT;obtain ⟨V2,hV2⟩:∃ V,vint a2=V:=⟨_,rfl⟩;rw [hV2] at HV2 HL2 HT;obtain ⟨V3,hV3⟩:∃ V,vint a3=V:=⟨_,rfl⟩;rw [hV3] at HV3 HL3 HT;clear hV0 hV1 hV2 hV3;go_enter Tryz.func81,Tryz.ntmps81
 go_wp2;refine wp_loop_rounds 5 ?_;generalize w.alloc (.cells #[.int .i64 (a0:Int),.int .i64 (a1:Int),.int .i64 (a2:Int),.int .i64 (a3:Int),.int .i64 (a4:Int)] 80)=W0 at *;have HO0:=hid (show Ow W0 0 5 1 none 0 0 (cN .u8 []) from Ow.nil W0 0 5 1);have HB0:=hid hb;have HN0:=hid hN;have HLT0:=hid (show ∀ k∈[w.heap.size],k < W0.heap.size from fun k hk=>by obtain rfl:=List.mem_singleton.1 hk;exact hlt);clear hb hN hlt;rw [rounds_succ];have hl0:=HL0.out;have hc0:W0.cell? ⟨w.heap.size,0,none⟩=some (.int .i64 (a0:Int)):=by simp [World.cell?,HB0.out]
 go_wp2_with fail;refine (HV0.out W0).mono ?_;rintro e X0 ⟨d0,D0,e0,rfl,hD0,hd0,hX0⟩;have HD0:=hid hD0;have HOk:=hid (HO0.out.nw hX0);have hnil:=hD0.nilc;have HX0:=hid (HN0.out.trans hX0);have HBX:=hid ((hX0.block _ (HLT0.out _ List.mem_cons_self)).trans HB0.out);have HLX:=hid fun k hk=>Nat.lt_of_lt_of_le (HLT0.out k hk) hX0.size
 clear hD0 hX0 hc0;go_wp2_with (at_builtin;refine wpList_app E_u8 rfl (.tmp 9) (.tmp 14) rfl rfl HOk.out rfl HD0.out.rd (by rw [List.length_map,Nat.mul_one]) hnil (u8_lit _) (by simp only [maxLen];omega) (by omega) ?_;intro b1 A1 c1 W1 q1 q2 q3 q4;have HA:=hid (AppB.of_app q1 q2 q3 q4);clear q1 q2 q3 q4)
 obtain ⟨b',A',c',he,hO1,hp1,hN1,hK1,hlt1⟩:=HA.out.own [w.heap.size] HX0.out (.inr rfl) HLX.out;injection he with he
 injection he with e1 e2 e3
 subst e1 e3;simp only [Nat.zero_add,List.nil_append] at hO1;have HB1:=hid ((hK1 _ List.mem_cons_self).trans HBX.out);have HLT1:=hid hlt1;have HO1:=hid hO1;have HN1:=hid hN1;have HP1:=hid hp1;clear hO1 hN1 hp1 hK1 hlt1 HA HD0 HOk HX0 HBX HLX HB0 HO0 HN0 HLT0 hnil e2;go_wp2_with fail;rw [rounds_succ];have hl1:=HL1.out;have hc1:W1.cell? ⟨w.heap.size,1,none⟩=some (.int .i64 (a1:Int)):=by simp [World.cell?,HB1.out]
 go_wp2_with fail;refine (HV1.out W1).mono ?_;rintro e X1 ⟨d1,D1,e1,rfl,hD1,hd1,hX1⟩;have HD1:=hid hD1;have HOk:=hid (HO1.out.nw hX1);have hnil:=hD1.nilc;have HX1:=hid (HN1.out.trans hX1);have HBX:=hid ((hX1.block _ (HLT1.out _ List.mem_cons_self)).trans HB1.out);have HLX:=hid fun k hk=>Nat.lt_of_lt_of_le (HLT1.out k hk) hX1.size
 clear hD1 hX1 hc1;go_wp2_with (at_builtin;refine wpList_app E_u8 rfl (.tmp 9) (.tmp 14) rfl rfl HOk.out rfl HD1.out.rd (by rw [List.length_map,Nat.mul_one]) hnil (u8_lit _) (by simp only [maxLen];omega) (by omega) ?_;intro b2 A2 c2 W2 q1 q2 q3 q4;have HA:=hid (AppB.of_app q1 q2 q3 q4);clear q1 q2 q3 q4)
 obtain ⟨b',A',c',he,hO2,hp2,hN2,hK2,hlt2⟩:=HA.out.own [w.heap.size] HX1.out HP1.out HLX.out;injection he with he
 injection he with e1 e2 e3
 subst e1 e3;have HB2:=hid ((hK2 _ List.mem_cons_self).trans HBX.out);have HLT2:=hid hlt2;have HO2:=hid hO2;have HN2:=hid hN2;have HP2:=hid hp2;clear hO2 hN2 hp2 hK2 hlt2 HA HD1 HOk HX1 HBX HLX HB1 HO1 HN1 HLT1 hnil e2;go_wp2_with fail;rw [rounds_succ];have hl2:=HL2.out;have hc2:W2.cell? ⟨w.heap.size,2,none⟩=some (.int .i64 (a2:Int)):=by simp [World.cell?,HB2.out]
 go_wp2_with fail;refine (HV2.out W2).mono ?_;rintro e X2 ⟨d2,D2,e2,rfl,hD2,hd2,hX2⟩;have HD2:=hid hD2;have HOk:=hid (HO2.out.nw hX2);have hnil:=hD2.nilc;have HX2:=hid (HN2.out.trans hX2);have HBX:=hid ((hX2.block _ (HLT2.out _ List.mem_cons_self)).trans HB2.out);have HLX:=hid fun k hk=>Nat.lt_of_lt_of_le (HLT2.out k hk) hX2.size
 clear hD2 hX2 hc2;go_wp2_with (at_builtin;refine wpList_app E_u8 rfl (.tmp 9) (.tmp 14) rfl rfl HOk.out rfl HD2.out.rd (by rw [List.length_map,Nat.mul_one]) hnil (u8_lit _) (by simp only [maxLen];omega) (by omega) ?_;intro b3 A3 c3 W3 q1 q2 q3 q4;have HA:=hid (AppB.of_app q1 q2 q3 q4);clear q1 q2 q3 q4)
 obtain ⟨b',A',c',he,hO3,hp3,hN3,hK3,hlt3⟩:=HA.out.own [w.heap.size] HX2.out HP2.out HLX.out;injection he with he
 injection he with e1 e2 e3
 subst e1 e3;have HB3:=hid ((hK3 _ List.mem_cons_self).trans HBX.out);have HLT3:=hid hlt3;have HO3:=hid hO3;have HN3:=hid hN3;have HP3:=hid hp3;clear hO3 hN3 hp3 hK3 hlt3 HA HD2 HOk HX2 HBX HLX HB2 HO2 HN2 HLT2 hnil e2;go_wp2_with fail;rw [rounds_succ];have hl3:=HL3.out;have hc3:W3.cell? ⟨w.heap.size,3,none⟩=some (.int .i64 (a3:Int)):=by simp [World.cell?,HB3.out]
 go_wp2_with fail;refine (HV3.out W3).mono ?_;rintro e X3 ⟨d3,D3,e3,rfl,hD3,hd3,hX3⟩;have HD3:=hid hD3;have HOk:=hid (HO3.out.nw hX3);have hnil:=hD3.nilc;have HX3:=hid (HN3.out.trans hX3);have HBX:=hid ((hX3.block _ (HLT3.out _ List.mem_cons_self)).trans HB3.out);have HLX:=hid fun k hk=>Nat.lt_of_lt_of_le (HLT3.out k hk) hX3.size
 clear hD3 hX3 hc3;go_wp2_with (at_builtin;refine wpList_app E_u8 rfl (.tmp 9) (.tmp 14) rfl rfl HOk.out rfl HD3.out.rd (by rw [List.length_map,Nat.mul_one]) hnil (u8_lit _) (by simp only [maxLen];omega) (by omega) ?_;intro b4 A4 c4 W4 q1 q2 q3 q4;have HA:=hid (AppB.of_app q1 q2 q3 q4);clear q1 q2 q3 q4)
 obtain ⟨b',A',c',he,hO4,hp4,hN4,hK4,hlt4⟩:=HA.out.own [w.heap.size] HX3.out HP3.out HLX.out;injection he with he
 injection he with e1 e2 e3
 subst e1 e3;have HB4:=hid ((hK4 _ List.mem_cons_self).trans HBX.out);have HLT4:=hid hlt4;have HO4:=hid hO4;have HN4:=hid hN4;have HP4:=hid hp4;clear hO4 hN4 hp4 hK4 hlt4 HA HD3 HOk HX3 HBX HLX HB3 HO3 HN3 HLT3 hnil e2;go_wp2_with fail;rw [rounds_succ];go_wp2_with fail;go_ret;have hl:(toc a0 a1 a2 a3).length=V0.length+V1.length+V2.length+V3.length:=by rw [HT.out];simp only [List.length_append]
 have hO:=HO4.out;rcases HP4.out with h | h
 ·exact ⟨b',_,_,by rw [hl];rfl,by rw [hl,HT.out];exact hO,h.1,HN4.out⟩
 ·refine ⟨w.heap.size,_,_,by rw [hl];rfl,?_,Nat.le_refl _,HN4.out⟩;rw [hl,HT.out];rcases hO with ⟨p,q⟩ | ⟨p,_⟩
  ·exact .inl ⟨p,q⟩
  ·rw [h] at p;cases p
theorem set_at {W:World} {g k:Nat} {cs:Array Value} {t:TypeId} (v:Value) (h:W.heap[g]? = some (.cells cs t (0,0))):(W.setCell ⟨g,k,none⟩ v).heap[g]? = some (.cells (cs.setIfInBounds k v) t (0,0)):=by
 simp [World.setCell,Array.getElem?_modify,h]
theorem at_freeL {W:World} {g k:Nat} {cs:Array Value} {t:TypeId} (h:W.heap[g]? = some (.cells cs t (0,0))):W.frozen? ⟨g,k,none⟩=false:=by simp [World.frozen?,h]
end
section
open Go Go.RowKit Go.Sort
structure Gp where
 n:Nat
 os:Array Obj
instance:Inhabited Gp:=⟨⟨0,#[]⟩⟩
theorem cell_old {w w':World} {a:Addr} {v:Value} (hN:Nw w w') (hg:a.block < w.heap.size) (h:w.cell? a=some v):w'.cell? a=some v :=
 (World.cell?_of_block (hN.block _ hg)).trans h
section
variable {P:Program} {ops:Array Oper} {md:Region.Mode} {C:World→Prop}
end
end
section
open Go Go.RowKit
abbrev cT (l:List ByteArray):List Value:=l.map Value.string
end
section
open Go Go.RowKit Go.Sort
theorem bytes_ext {a b:ByteArray} (h:a.toList=b.toList):a=b:=by
 rw [ByteArray.toList_eq,ByteArray.toList_eq] at h;obtain ⟨⟨x⟩⟩:=a;obtain ⟨⟨y⟩⟩:=b;simp at h;rw [h]
end
section
open Go Go.RowKit Go.Sort
theorem cell_at {w:World} {b k:Nat} {cs:Array Value} {t:TypeId} {fr:Nat × Nat} (h:w.heap[b]? = some (.cells cs t fr)):w.cell? ⟨b,k,none⟩=cs[k]?:=by simp [World.cell?,h]
end
end Go.Proofs.YtmmonehfnfbpbaaGreatDoor
