/- Laws that the last text builds on. -/
import Init
import Derived.Lib.BitFns
import Derived.Lib.ItoaNum
import Derived.WalkKit
import Derived.Deep.Draws
import Derived.Maps.AppendAt
import Derived.Lib.Hide
import Derived.WalkSpells
import Derived.WalkLawsBesides
import Derived.Laws.AppendOwnNone
import Derived.Shelf.Small.Bits
import Derived.Shelf.Strconv.Itoa0
import Derived.Shelf.Sort.Plain
import Derived.Shelf.Slices.Equal
import Derived.Shelf.Slices.CompactS
import Derived.Shelf.Slices.Cells
import Derived.Shelf.Slices.In.SortNone
import Derived.Shelf.Slices.Empties2
import Derived.Shelf.Bytes.SlSearch0
import Derived.Shelf.Bytes.SlClone
import Derived.Shelf.SlicesE.Equal
import Derived.Shelf.Bytes.SlEqualAll
import Derived.Shelf.Bytes.Small
import Derived.Deep.SlicePairs
import Derived.ProofKit
import Derived.OpenShut
import Derived.ShutString
import Derived.ChangeOld
import Derived.Below
import Derived.LaidMore
import Derived.LaidOnce
import Derived.Lib.LaidTab
import Derived.Deep.Strs
import Derived.RangeFuncWrites
import Derived.RangeFuncCalls
import Derived.RangeFuncLeaves
import Derived.Shelf.Abstract
import Derived.OwnWalkIn
import Derived.TacticsInMore
import Derived.LoopNIn
import Derived.LoopIn
import Derived.Deep.AppendLies
import Derived.RangeFuncBox
import Derived.Deep.QuietTactic
import Derived.BigQuiet
import Derived.Outline
import Derived.Lib.AppendStr
import Derived.ArgAppend
import Derived.Laws.BytesArg
import Derived.Deep.RegionHeld3
import Derived.Sort.Grow
import Derived.StillTail
import Derived.OrdersIn
import Derived.Laws.Cover1
import Derived.Laws.ResultCell
import Derived.Laws.EntriesVeiled
import Derived.WalkMore
import Derived.Laws.StructEq
import Derived.Laws.CopyOwn
import Derived.Laws.CopyRow
import Derived.Sort.Walk0
import Derived.IntWalk
import Derived.RowKit
import Derived.RangeFuncNested
import Derived.RangeFuncBound
import Derived.StillTailTactics
import Derived.Shelf.Spec.SearchS
import Derived.Ground.Names2Prog
import Derived.DeepKeys4
import Derived.WideKeyEntry
import Derived.Maps.RangeRun
import Derived.Sort.MapsRangeIn
import Derived.Sort.LotD2
import Derived.Sort.LotA
import Derived.Sort.LotB
import Derived.Sort.Lot0
import Derived.Laws.MathBits
import Derived.Sort.WalkA
import Derived.Sort.WalkB2
import Derived.Sort.WalkB3
import Derived.BigRegion
import Derived.CellFam
import Derived.Sort.LotD7
import Derived.Sort.LotC
import Derived.Deep.DeepCutAuto
import Derived.Deep.CutBlock
import Derived.Sort.WalkA6
import Derived.Maps.RangeWalk
import Derived.Maps.OwnSet
import Derived.Shelf.SlSortCmp.WholeK
import Derived.Shelf.SlicesE.Clone
import Derived.Ground.SlsfProg
import Derived.Ground.SlgnProg
import Derived.Shelf.SlSortCmp.NoneTotal
import Derived.Lib.SlBytesConst
import Derived.Deep.Cut
import Derived.Laws.BitsAllLaws
import Derived.Shelf.Spec.SlicesGrow
import Derived.Deep.CutRange
import Derived.StringKeys
import Derived.Defers
import Derived.Recover
import Derived.Deep.RegionLaw
import Derived.Test.YtmmonehfnfbpbaaGreatDoorProg
import Derived.Test.YtmmonehfnfbpbaaGreatDoorRows
import Derived.Test.YtmmonehfnfbpbaaGreatDoorChecked
namespace Go.Proofs.YtmmonehfnfbpbaaGreatDoor
open Go.Lib(hid)
section
def I6 (x:Int):Prop:=-9223372036854775808≤x∧x≤9223372036854775807
def b2n (b:Bool):Nat:=if b then 1 else 0
def bitsOf (x n:Nat):List Bool:=(List.range n).map fun i=>decide (x / 2 ^ (n - 1 - i) % 2=1)
def bv (bs:List Bool):Nat:=bs.foldl (fun a b=>2*a+b2n b) 0
def bitN (bs:List Bool) (i:Nat):Nat:=b2n (bs.getD i false)
def byteAt (bs:List Bool) (j:Nat):Nat :=
 128*bitN bs (8*j)+64*bitN bs (8*j+1)+32*bitN bs (8*j+2)+16*bitN bs (8*j+3)+8*bitN bs (8*j+4)+4*bitN bs (8*j+5)+2*bitN bs (8*j+6)+bitN bs (8*j+7)
def pk (bs:List Bool):List Nat:=(List.range ((bs.length+7) / 8)).map (byteAt bs)
def up (l:List Nat):List Bool:=l.flatMap (bitsOf · 8)
theorem b2n_le (b:Bool):b2n b≤1:=by cases b<;>simp [b2n]
theorem bitsOf_length (x n:Nat):(bitsOf x n).length=n:=by simp [bitsOf]
theorem bitsOf_get (x n i:Nat) (h:i < (bitsOf x n).length):(bitsOf x n)[i]=decide (x / 2 ^ (n - 1 - i) % 2=1):=by simp [bitsOf]
theorem bitsOf_succ (x n:Nat):bitsOf x (n+1)=decide (x / 2 ^ n % 2=1)::bitsOf x n:=by
 unfold bitsOf;rw [List.range_succ_eq_map];simp only [List.map_cons,List.map_map,Nat.add_sub_cancel,Nat.sub_zero];congr 1
 apply List.map_congr_left
 intro i hi;simp only [Function.comp,Nat.succ_eq_add_one];rw [show n - (i+1)=n - 1 - i from by omega]
theorem bv_append (a b:List Bool):bv (a++b)=bv a*2 ^ b.length+bv b:=by
 have key:∀ (b:List Bool) (s:Nat),b.foldl (fun a b=>2*a+b2n b) s=s*2 ^ b.length+b.foldl (fun a b=>2*a+b2n b) 0:=by
  intro b;induction b with
  | nil=>intro s;simp
  | cons x l ih =>
   intro s;simp only [List.foldl_cons,List.length_cons];rw [ih (2*s+b2n x),ih (2*0+b2n x),Nat.pow_succ];generalize 2 ^ l.length=p;rw [Nat.add_mul,Nat.mul_zero,Nat.zero_add];have:2*s*p=s*(p*2):=by rw [Nat.mul_comm 2 s,Nat.mul_assoc,Nat.mul_comm 2 p]
   omega
 unfold bv;rw [List.foldl_append,key b]
theorem bv_snoc (a:List Bool) (x:Bool):bv (a++[x])=2*bv a+b2n x:=by
 simp [bv]
theorem bv_cons (x:Bool) (l:List Bool):bv (x::l)=b2n x*2 ^ l.length+bv l:=by
 have:=bv_append [x] l;simpa [bv] using this
theorem bv_lt (bs:List Bool):bv bs < 2 ^ bs.length:=by
 induction bs with
 | nil=>simp [bv]
 | cons x l ih =>
  rw [bv_cons,List.length_cons,Nat.pow_succ];cases x<;>simp [b2n]<;>omega
theorem bv_bitsOf (x:Nat):∀ n,bv (bitsOf x n)=x % 2 ^ n:=by
 intro n;induction n with
 | zero=>simp [bitsOf,bv,Nat.mod_one]
 | succ n ih =>
  rw [bitsOf_succ,bv_cons,bitsOf_length,ih,Nat.pow_succ,Nat.mod_mul];by_cases h:x / 2 ^ n % 2=1
  ·simp [b2n,h];omega
  ·have:x / 2 ^ n % 2=0:=by omega
   simp [b2n,this]
theorem bitsOf_add (q r n:Nat):bitsOf (q*2 ^ n+r) n=bitsOf r n:=by
 unfold bitsOf;apply List.map_congr_left
 intro i hi;have hi':i < n:=by simpa using hi
 have hd:∃ p,2 ^ n=2 ^ (n - 1 - i)*(2*p):=⟨2 ^ i,by rw [← Nat.pow_succ',← Nat.pow_add];congr 1;omega⟩;obtain ⟨p,hp⟩:=hd;rw [hp,show q*(2 ^ (n - 1 - i)*(2*p))+r=2 ^ (n - 1 - i)*(2*(q*p))+r from by
  rw [Nat.mul_left_comm,Nat.mul_left_comm 2,Nat.mul_left_comm q]]
 rw [Nat.mul_add_div (Nat.pow_pos (by omega)),Nat.mul_add_mod]
theorem bitsOf_bv (bs:List Bool):bitsOf (bv bs) bs.length=bs:=by
 induction bs with
 | nil=>simp [bitsOf]
 | cons x l ih =>
  have hl:=bv_lt l;have hp:0 < 2 ^ l.length:=by omega
  rw [List.length_cons,bitsOf_succ,bv_cons,bitsOf_add,ih];congr 1
  rw [Nat.mul_comm,Nat.mul_add_div hp,Nat.div_eq_of_lt hl];cases x<;>simp [b2n]
theorem bitsOf_mod (x n:Nat):bitsOf (x % 2 ^ n) n=bitsOf x n:=by
 have:=bitsOf_add (x / 2 ^ n) (x % 2 ^ n) n;rw [Nat.mul_comm,Nat.div_add_mod] at this;exact this.symm
theorem up_cons (x:Nat) (l:List Nat):up (x::l)=bitsOf x 8++up l:=by simp [up]
theorem up_length (l:List Nat):(up l).length=8*l.length:=by
 induction l with
 | nil=>rfl
 | cons x l ih=>rw [up_cons,List.length_append,bitsOf_length,ih,List.length_cons];omega
theorem up_get (l:List Nat):∀ (i:Nat) (h:i < (up l).length),(up l)[i]=decide (l[i / 8]'(by rw [up_length] at h;omega) / 2 ^ (7 - i % 8) % 2=1):=by
 induction l with
 | nil=>intro i h;simp [up] at h
 | cons x l ih =>
  intro i h;have hl:=up_length (x::l);rw [List.length_cons] at hl;have e:(up (x::l))[i]=(bitsOf x 8++up l)[i]'(by rw [← up_cons];exact h):=by simp only [up_cons]
  rw [e];by_cases hi:i < 8
  ·rw [List.getElem_append_left (by rw [bitsOf_length];exact hi),bitsOf_get];have h1:i / 8=0:=by omega
   have h2:i % 8=i:=by omega
   simp [h1,h2]
  ·rw [List.getElem_append_right (by rw [bitsOf_length];omega)];simp only [bitsOf_length];rw [ih (i - 8)];have h1:i / 8=(i - 8) / 8+1:=by omega
   have h2:(i - 8) % 8=i % 8:=by omega
   simp only [h1,h2,List.getElem_cons_succ]
theorem pk_length (bs:List Bool):(pk bs).length=(bs.length+7) / 8:=by simp [pk]
theorem pk_get (bs:List Bool) (j:Nat) (h:j < (pk bs).length):(pk bs)[j]=byteAt bs j:=by simp [pk]
theorem bitN_lt (bs:List Bool) (i:Nat):bitN bs i≤1:=b2n_le _
theorem byteAt_lt (bs:List Bool) (j:Nat):byteAt bs j < 256:=by
 unfold byteAt;have h0:=bitN_lt bs (8*j);have h1:=bitN_lt bs (8*j+1);have h2:=bitN_lt bs (8*j+2);have h3:=bitN_lt bs (8*j+3);have h4:=bitN_lt bs (8*j+4);have h5:=bitN_lt bs (8*j+5);have h6:=bitN_lt bs (8*j+6);have h7:=bitN_lt bs (8*j+7);omega
theorem pk_lt (bs:List Bool):∀ x∈pk bs,x < 256:=by
 intro x hx;obtain ⟨j,_,rfl⟩:=List.mem_map.1 hx;exact byteAt_lt bs j
theorem bitN_snoc_lt (bs:List Bool) (v:Bool) (i:Nat) (h:i < bs.length):bitN (bs++[v]) i=bitN bs i:=by
 simp [bitN,List.getD,List.getElem?_append_left h]
theorem bitN_snoc_at (bs:List Bool) (v:Bool):bitN (bs++[v]) bs.length=b2n v:=by
 simp [bitN,List.getD]
theorem bitN_ge (bs:List Bool) (i:Nat) (h:bs.length≤i):bitN bs i=0:=by
 simp [bitN,List.getD,List.getElem?_eq_none h,b2n]
theorem byteAt_snoc (bs:List Bool) (v:Bool):byteAt (bs++[v]) (bs.length / 8)=byteAt bs (bs.length / 8)+b2n v*2 ^ (7 - bs.length % 8):=by
 have key:∀ i,bitN (bs++[v]) i=bitN bs i+if i=bs.length then b2n v else 0:=by
  intro i;by_cases h:i < bs.length
  ·rw [bitN_snoc_lt bs v i h,if_neg (by omega)];rfl
  ·by_cases h':i=bs.length
   ·subst h';rw [bitN_snoc_at,bitN_ge bs _ (Nat.le_refl _),if_pos rfl];omega
   ·rw [bitN_ge _ i (by simp;omega),bitN_ge bs i (by omega),if_neg h']
 generalize hn:bs.length=n at key;have hr:n % 8=0∨n % 8=1∨n % 8=2∨n % 8=3∨n % 8=4∨n % 8=5∨n % 8=6∨n % 8=7:=by omega
 unfold byteAt;simp only [key];rcases hr with h | h | h | h | h | h | h | h
 all_goals
  rw [h];have e0:=Nat.div_add_mod n 8;rw [h] at e0;simp only [Nat.sub_zero,Nat.reduceSub,Nat.reducePow]
  repeat (first | rw [if_pos (by omega)] | rw [if_neg (by omega)])
  omega
theorem byteAt_bit (bs:List Bool) (i:Nat):byteAt bs (i / 8) / 2 ^ (7 - i % 8) % 2=bitN bs i:=by
 have hr:i % 8=0∨i % 8=1∨i % 8=2∨i % 8=3∨i % 8=4∨i % 8=5∨i % 8=6∨i % 8=7:=by omega
 have e0:=Nat.div_add_mod i 8;generalize i / 8=j at *;have h0:=bitN_lt bs (8*j);have h1:=bitN_lt bs (8*j+1);have h2:=bitN_lt bs (8*j+2);have h3:=bitN_lt bs (8*j+3);have h4:=bitN_lt bs (8*j+4);have h5:=bitN_lt bs (8*j+5);have h6:=bitN_lt bs (8*j+6);have h7:=bitN_lt bs (8*j+7);unfold byteAt;rcases hr with h | h | h | h | h | h | h | h<;>rw [h] at e0 ⊢<;>rw [← e0]<;>simp only [Nat.sub_zero,Nat.reduceSub,Nat.reducePow,Nat.add_zero]<;>omega
theorem up_pk (bs:List Bool):up (pk bs)=bs++List.replicate (8*((bs.length+7) / 8) - bs.length) false:=by
 apply List.ext_getElem
 ·rw [up_length,pk_length,List.length_append,List.length_replicate];omega
 ·intro i h1 h2;rw [up_get,pk_get,byteAt_bit];rw [List.getElem_append];split
  ·rename_i h
   simp only [bitN,List.getD,List.getElem?_eq_getElem h,Option.getD_some];cases bs[i]<;>simp [b2n]
  ·rw [bitN_ge bs i (by omega)];simp
end
section
open Go
def lz (x:Nat):Nat:=64 - Lib.bitLen x
def tzF:Nat→Nat→Nat
 | 0,_=>0
 | f+1,x=>if x % 2=1 then 0 else 1+tzF f (x / 2)
def tz (x:Nat):Nat:=tzF 64 x
abbrev Win:=Option (Nat × Nat)
def fits (win:Win) (x:Nat):Prop :=
 match win with
 | none=>False
 | some (a,b)=>a≤lz x∧b≤tz x
instance (win:Win) (x:Nat):Decidable (fits win x):=by unfold fits;split<;>infer_instance
def xword (win:Win) (x:Nat):List Bool × Win :=
 match win with
 | some (a,b)=>if a≤lz x∧b≤tz x then ([true,false]++bitsOf (x / 2 ^ b) (64 - a - b),win)
  else ([true,true]++bitsOf (lz x) 6++bitsOf (63 - lz x - tz x) 6++bitsOf (x / 2 ^ tz x) (64 - lz x - tz x),some (lz x,tz x))
 | none=>([true,true]++bitsOf (lz x) 6++bitsOf (63 - lz x - tz x) 6++bitsOf (x / 2 ^ tz x) (64 - lz x - tz x),some (lz x,tz x))
def xstep (last:Nat) (win:Win) (v:Nat):List Bool × Win:=if v ^^^ last=0 then ([false],win) else xword win (v ^^^ last)
def xputF (last:Nat) (win:Win):List Nat→List Bool
 | []=>[]
 | v::l=>(xstep last win v).1++xputF v (xstep last win v).2 l
def xput:List Nat→List Bool
 | []=>[]
 | v::l=>bitsOf v 64++xputF v none l
def xbody (last:Nat) (win:Win) (fresh:Bool) (a b:Nat) (r:List Bool):Except Nat (Nat × Win × List Bool) :=
 if r.length < 64 - a - b then .error 3
 else if bv (r.take (64 - a - b))*2 ^ b=0 then .error 8
 else if fresh=true∧(lz (bv (r.take (64 - a - b))*2 ^ b)≠a∨tz (bv (r.take (64 - a - b))*2 ^ b)≠b∨fits win (bv (r.take (64 - a - b))*2 ^ b)) then .error 8
 else .ok (last ^^^ (bv (r.take (64 - a - b))*2 ^ b),if fresh=true then some (a,b) else win,r.drop (64 - a - b))
def xget1 (last:Nat) (win:Win):List Bool→Except Nat (Nat × Win × List Bool)
 | []=>.error 3
 | false::r=>.ok (last,win,r)
 | [true]=>.error 3
 | true::false::r =>
  match win with
  | none=>.error 8
  | some (a,b)=>xbody last win false a b r
 | true::true::r =>
  if r.length < 12 then .error 3
  else if 63 < bv (r.take 6)+bv ((r.drop 6).take 6) then .error 8
  else xbody last win true (bv (r.take 6)) (63 - bv (r.take 6) - bv ((r.drop 6).take 6)) (r.drop 12)
def xgetF (last:Nat) (win:Win):Nat→List Bool→Except Nat (List Nat × List Bool)
 | 0,bs=>.ok ([],bs)
 | n+1,bs =>
  match xget1 last win bs with
  | .error e=>.error e
  | .ok (v,win',r) =>
   match xgetF v win' n r with
   | .error e=>.error e
   | .ok (l,r')=>.ok (v::l,r')
def xget:Nat→List Bool→Except Nat (List Nat × List Bool)
 | 0,bs=>.ok ([],bs)
 | n+1,bs =>
  if bs.length < 64 then .error 3
  else match xgetF (bv (bs.take 64)) none n (bs.drop 64) with
   | .error e=>.error e
   | .ok (l,r)=>.ok (bv (bs.take 64)::l,r)
theorem pow64:(2:Nat) ^ 64=18446744073709551616:=by decide
theorem lz_spec {x:Nat} (h0:x≠0) (h:x < 18446744073709551616):lz x≤63∧2 ^ (63 - lz x)≤x∧x < 2 ^ (64 - lz x):=by
 obtain ⟨h1,h2,h3⟩:=Lib.bitLenAux_bounds 64 x (by rw [pow64];exact h) h0;have h4:=Lib.bitLen_le x 64 (by omega) (by rw [pow64];exact h);unfold lz;unfold Lib.bitLen at h4 ⊢;generalize Lib.bitLenAux 64 x=k at *;refine ⟨by omega,?_,?_⟩
 ·rwa [show 63 - (64 - k)=k - 1 from by omega]
 ·rwa [show 64 - (64 - k)=k from by omega]
theorem lz_eq {x k:Nat} (hk:k≤63) (h1:2 ^ (63 - k)≤x) (h2:x < 2 ^ (64 - k)):lz x=k:=by
 have h64:x < 18446744073709551616:=by
  have:2 ^ (64 - k)≤2 ^ 64:=Nat.pow_le_pow_right (by omega) (by omega);rw [pow64] at this;omega
 have h0:x≠0:=by have:0 < 2 ^ (63 - k):=Nat.pow_pos (by omega);omega
 obtain ⟨h3,h4,h5⟩:=lz_spec h0 h64;by_cases h:lz x < k
 ·have:2 ^ (64 - k)≤2 ^ (63 - lz x):=Nat.pow_le_pow_right (by omega) (by omega);omega
 ·by_cases h':k < lz x
  ·have:2 ^ (64 - lz x)≤2 ^ (63 - k):=Nat.pow_le_pow_right (by omega) (by omega);omega
  ·omega
theorem tzF_spec:∀ (f x:Nat),x≠0→x < 2 ^ f→∃ m,x=2 ^ tzF f x*(2*m+1)∧tzF f x < f:=by
 intro f;induction f with
 | zero=>intro x h0 h;simp at h;omega
 | succ f ih =>
  intro x h0 h;unfold tzF;split
  ·exact ⟨x / 2,by simp;omega,by omega⟩
  ·obtain ⟨m,h1,h2⟩:=ih (x / 2) (by omega) (by rw [Nat.pow_succ] at h;omega);refine ⟨m,?_,by omega⟩;rw [Nat.add_comm 1,Nat.pow_succ,Nat.mul_comm (2 ^ _) 2,Nat.mul_assoc,← h1];omega
theorem tz_spec {x:Nat} (h0:x≠0) (h:x < 18446744073709551616):∃ m,x=2 ^ tz x*(2*m+1)∧tz x≤63:=by
 obtain ⟨m,h1,h2⟩:=tzF_spec 64 x h0 (by rw [pow64];exact h);exact ⟨m,h1,by unfold tz;omega⟩
theorem odd_inj {s t m k:Nat} (h:2 ^ s*(2*m+1)=2 ^ t*(2*k+1)):s=t:=by
 have key:∀ {s t m k:Nat},s < t→2 ^ s*(2*m+1)=2 ^ t*(2*k+1)→False:=by
  intro s t m k hst h;obtain ⟨d,rfl⟩:∃ d,t=s+(d+1):=⟨t - s - 1,by omega⟩;rw [Nat.pow_add,Nat.mul_assoc] at h;have:=Nat.eq_of_mul_eq_mul_left (Nat.pow_pos (by omega)) h;rw [Nat.pow_succ,Nat.mul_comm (2 ^ d) 2,Nat.mul_assoc] at this;omega
 by_cases h1:s < t
 ·exact (key h1 h).elim
 ·by_cases h2:t < s
  ·exact (key h2 h.symm).elim
  ·omega
theorem tz_eq {x t m:Nat} (h:x < 18446744073709551616) (e:x=2 ^ t*(2*m+1)):tz x=t:=by
 have h0:x≠0:=by
  rw [e];exact Nat.mul_ne_zero (Nat.pos_iff_ne_zero.1 (Nat.pow_pos (by omega))) (by omega)
 obtain ⟨k,h1,_⟩:=tz_spec h0 h;exact (odd_inj (e.symm.trans h1)).symm
theorem lz_tz {x:Nat} (h0:x≠0) (h:x < 18446744073709551616):lz x+tz x≤63:=by
 obtain ⟨h1,h2,h3⟩:=lz_spec h0 h;obtain ⟨m,h4,h5⟩:=tz_spec h0 h;have:2 ^ tz x≤2 ^ tz x*(2*m+1):=Nat.le_mul_of_pos_right _ (by omega);rw [← h4] at this;by_cases hh:lz x+tz x≤63
 ·exact hh
 ·have:2 ^ (64 - lz x)≤2 ^ tz x:=Nat.pow_le_pow_right (by omega) (by omega);omega
theorem xor_lt64 {x y:Nat} (hx:x < 18446744073709551616) (hy:y < 18446744073709551616):x ^^^ y < 18446744073709551616:=by
 rw [← pow64] at *;exact Nat.xor_lt_two_pow hx hy
theorem cut_at {α:Type} (a r:List α) {n:Nat} (h:a.length=n):(a++r).take n=a∧(a++r).drop n=r:=⟨List.take_left' h,List.drop_left' h⟩
def WinOk:Win→Prop
 | none=>True
 | some (a,b)=>a+b≤63
theorem bits_take {r:List Bool} {n:Nat} (h:n≤r.length):bitsOf (bv (r.take n)) n=r.take n∧bv (r.take n) < 2 ^ n:=by
 have hl:(r.take n).length=n:=by rw [List.length_take];omega
 have h1:=bitsOf_bv (r.take n);have h2:=bv_lt (r.take n);rw [hl] at h1 h2;exact ⟨h1,h2⟩
theorem xbody_inv {last v a b:Nat} {win win':Win} {fresh:Bool} {r r':List Bool} (hab:a+b≤63) (hl:last < 18446744073709551616) (h:xbody last win fresh a b r=.ok (v,win',r')) :
  v < 18446744073709551616∧v ^^^ last≠0∧r=bitsOf ((v ^^^ last) / 2 ^ b) (64 - a - b)++r'∧a≤lz (v ^^^ last)∧b≤tz (v ^^^ last) ∧
   (if fresh=true then lz (v ^^^ last)=a∧tz (v ^^^ last)=b∧¬ fits win (v ^^^ last)∧win'=some (a,b) else win'=win):=by
 unfold xbody at h;split at h
 ·cases h
 ·rename_i hlen
  obtain ⟨h1,h2⟩:=bits_take (r:=r) (n:=64 - a - b) (by omega);have hcut:=(List.take_append_drop (64 - a - b) r).symm;rw [← h1] at hcut;generalize bv (r.take (64 - a - b))=u at *;split at h
  ·cases h
  ·rename_i hx0
   have hp:0 < 2 ^ b:=Nat.pow_pos (by omega);have hx:u*2 ^ b < 2 ^ (64 - a):=by
    rw [show 64 - a=(64 - a - b)+b from by omega,Nat.pow_add];exact (Nat.mul_lt_mul_right hp).2 h2
   have hxl:u*2 ^ b < 18446744073709551616:=by
    have:2 ^ (64 - a)≤2 ^ 64:=Nat.pow_le_pow_right (by omega) (by omega);rw [pow64] at this;omega
   have hdiv:u*2 ^ b / 2 ^ b=u:=Nat.mul_div_cancel _ hp;have ha:a≤lz (u*2 ^ b):=by
    obtain ⟨g1,g2,g3⟩:=lz_spec hx0 hxl;by_cases hh:a≤lz (u*2 ^ b)
    ·exact hh
    ·have:2 ^ (64 - a)≤2 ^ (63 - lz (u*2 ^ b)):=Nat.pow_le_pow_right (by omega) (by omega);omega
   have hb:b≤tz (u*2 ^ b):=by
    have hu:u≠0:=by intro e;subst e;simp at hx0
    have hul:u < 18446744073709551616:=by
     have:u≤u*2 ^ b:=Nat.le_mul_of_pos_right _ hp;omega
    obtain ⟨m,g1,g2⟩:=tz_spec hu hul;rw [tz_eq (t:=tz u+b) (m:=m) hxl (by rw [Nat.pow_add,Nat.mul_right_comm,← g1])];omega
   split at h
   ·cases h
   ·rename_i hfr
    cases h;have e:(last ^^^ (u*2 ^ b)) ^^^ last=u*2 ^ b:=by
     rw [Nat.xor_comm last,Nat.xor_assoc,Nat.xor_self,Nat.xor_zero]
    rw [e];refine ⟨xor_lt64 hl hxl,hx0,by rw [hdiv];exact hcut,ha,hb,?_⟩;cases fresh
    ·simp
    ·simp only [true_and,not_or] at hfr;simp only [if_true];exact ⟨Decidable.not_not.1 hfr.1,Decidable.not_not.1 hfr.2.1,hfr.2.2,trivial⟩
theorem xget1_inv {last v:Nat} {win win':Win} {bs r:List Bool} (hw:WinOk win) (hl:last < 18446744073709551616) (h:xget1 last win bs=.ok (v,win',r)) :
  v < 18446744073709551616∧bs=(xstep last win v).1++r∧win'=(xstep last win v).2∧WinOk win':=by
 match bs,h with
 | [],h=>cases h
 | false::r1,h =>
  simp only [xget1] at h;cases h;simp [xstep,hl,hw]
 | [true],h=>cases h
 | true::false::r1,h =>
  simp only [xget1] at h;cases win with
  | none=>cases h
  | some ab =>
   obtain ⟨a,b⟩:=ab;obtain ⟨h1,h2,h3,h4,h5,h6⟩:=xbody_inv hw hl h;simp only [Bool.false_eq_true,if_false] at h6;subst h6;unfold xstep xword;rw [if_neg h2];simp only [if_pos (And.intro h4 h5)];exact ⟨h1,by rw [h3];rfl,trivial,hw⟩
 | true::true::r1,h =>
  simp only [xget1] at h;split at h
  ·cases h
  ·rename_i hlen
   obtain ⟨g1,g2⟩:=bits_take (r:=r1) (n:=6) (by omega);obtain ⟨g3,g4⟩:=bits_take (r:=r1.drop 6) (n:=6) (by rw [List.length_drop];omega);have hc1:=(List.take_append_drop 6 r1).symm;have hc2:=(List.take_append_drop 6 (r1.drop 6)).symm;rw [List.drop_drop] at hc2;rw [← g1] at hc1;rw [← g3] at hc2;generalize bv (r1.take 6)=p at *;generalize bv ((r1.drop 6).take 6)=q at *;split at h
   ·cases h
   ·rename_i hpq
    obtain ⟨h1,h2,h3,h4,h5,h6⟩:=xbody_inv (by omega) hl h;simp only [if_true] at h6;obtain ⟨rfl,h7,h8,rfl⟩:=h6;unfold xstep;rw [if_neg h2];have hq:63 - lz (v ^^^ last) - tz (v ^^^ last)=q:=by omega
    have hxw:xword win (v ^^^ last)=([true,true]++bitsOf (lz (v ^^^ last)) 6++bitsOf (63 - lz (v ^^^ last) - tz (v ^^^ last)) 6++bitsOf ((v ^^^ last) / 2 ^ tz (v ^^^ last)) (64 - lz (v ^^^ last) - tz (v ^^^ last)),some (lz (v ^^^ last),tz (v ^^^ last))):=by
     unfold xword;cases win with
     | none=>rfl
     | some ab=>simp only [if_neg (show ¬ (ab.1≤lz (v ^^^ last)∧ab.2≤tz (v ^^^ last)) from h8)]
    rw [hxw];refine ⟨h1,?_,by simp only;rw [h7],by simp only [WinOk];omega⟩;simp only [List.append_assoc,List.cons_append,List.nil_append];rw [hq];rw [hc1,hc2,h3,h7]
theorem xgetF_inv:∀ (n:Nat) (last:Nat) (win:Win) (bs r:List Bool) (l:List Nat),WinOk win→last < 18446744073709551616→xgetF last win n bs=.ok (l,r)→l.length=n∧(∀ v∈l,v < 18446744073709551616)∧bs=xputF last win l++r:=by
 intro n;induction n with
 | zero=>intro last win bs r l _ _ h;cases h;exact ⟨rfl,by simp,rfl⟩
 | succ n ih =>
  intro last win bs r l hw hl h;unfold xgetF at h;split at h
  ·cases h
  ·rename_i v win' r1 h1
   obtain ⟨g1,g2,g3,g4⟩:=xget1_inv hw hl h1;split at h
   ·cases h
   ·rename_i l1 r2 h2
    cases h;obtain ⟨h3,h4,h5⟩:=ih _ _ _ _ _ g4 g1 h2;refine ⟨by simp [h3],?_,?_⟩
    ·intro y hy;rcases List.mem_cons.1 hy with rfl | hy
     ·exact g1
     ·exact h4 y hy
    ·rw [g2,h5,g3,xputF,List.append_assoc]
theorem xget_inv {n:Nat} {bs r:List Bool} {l:List Nat} (h:xget n bs=.ok (l,r)):l.length=n∧(∀ v∈l,v < 18446744073709551616)∧bs=xput l++r:=by
 cases n with
 | zero=>cases h;exact ⟨rfl,by simp,rfl⟩
 | succ n =>
  simp only [xget] at h;split at h
  ·cases h
  ·rename_i hl
   obtain ⟨g1,g2⟩:=bits_take (r:=bs) (n:=64) (by omega);rw [pow64] at g2;have hc:=(List.take_append_drop 64 bs).symm;rw [← g1] at hc;split at h
   ·cases h
   ·rename_i l1 r1 h1
    cases h;obtain ⟨h3,h4,h5⟩:=xgetF_inv _ _ none _ _ _ trivial g2 h1;refine ⟨by simp [h3],?_,?_⟩
    ·intro y hy;rcases List.mem_cons.1 hy with rfl | hy
     ·exact g2
     ·exact h4 y hy
    ·simp only [xput];rw [List.append_assoc,← h5];exact hc
end
section
def bstep (s:Nat):Nat:=if s % 2=1 then (s / 2) ^^^ 3988292384 else s / 2
def bstep4 (s:Nat):Nat:=bstep (bstep (bstep (bstep s)))
def cstep (s c:Nat):Nat:=bstep4 (bstep4 (s ^^^ c))
def crcU (s:Nat) (l:List Nat):Nat:=l.foldl cstep s
def crc (l:List Nat):Nat:=4294967295 - crcU 4294967295 l
def sum4 (s:Nat):List Nat:=[s % 256,s / 256 % 256,s / 65536 % 256,s / 16777216 % 256]
def addCrc (l:List Nat):List Nat:=l++sum4 (crc l)
theorem crcU_snoc (s:Nat) (l:List Nat) (c:Nat):crcU s (l++[c])=cstep (crcU s l) c:=by simp [crcU]
theorem bstep_odd (s:Nat):bstep s=(s / 2) ^^^ (if s.testBit 0 then 3988292384 else 0):=by
 unfold bstep;rw [Nat.testBit_zero];by_cases h:s % 2=1
 ·rw [if_pos h];simp [h]
 ·rw [if_neg h];simp [h]
theorem xor_half (a b:Nat):(a ^^^ b) / 2=(a / 2) ^^^ (b / 2):=by
 apply Nat.eq_of_testBit_eq
 intro i;rw [Nat.testBit_div_two,Nat.testBit_xor,Nat.testBit_xor,Nat.testBit_div_two,Nat.testBit_div_two]
theorem xor4 (a b c d:Nat):(a ^^^ b) ^^^ (c ^^^ d)=(a ^^^ c) ^^^ (b ^^^ d):=by
 rw [Nat.xor_assoc,Nat.xor_assoc,← Nat.xor_assoc b c d,Nat.xor_comm b c,Nat.xor_assoc c b d]
theorem bstep_xor (a b:Nat):bstep (a ^^^ b)=bstep a ^^^ bstep b:=by
 rw [bstep_odd,bstep_odd,bstep_odd,xor_half,Nat.testBit_xor,xor4];congr 1
 cases a.testBit 0<;>cases b.testBit 0<;>simp
theorem bstep4_xor (a b:Nat):bstep4 (a ^^^ b)=bstep4 a ^^^ bstep4 b:=by unfold bstep4;simp only [bstep_xor]
theorem bstep_two (m:Nat):bstep (2*m)=m:=by unfold bstep;rw [if_neg (by omega)];omega
theorem bstep4_16 (q:Nat):bstep4 (16*q)=q:=by
 unfold bstep4;rw [show 16*q=2*(2*(2*(2*q))) by omega,bstep_two,bstep_two,bstep_two,bstep_two]
theorem split16 (s:Nat):s=(16*(s / 16)) ^^^ (s % 16):=by
 apply Nat.eq_of_testBit_eq
 intro i;rw [Nat.testBit_xor];have h1:=Nat.testBit_two_pow_mul_add (s / 16) (b:=s % 16) (i:=4) (by omega) i;have h2:=Nat.testBit_two_pow_mul_add (s / 16) (b:=0) (i:=4) (by omega) i;rw [show 2 ^ 4*(s / 16)+s % 16=s by omega] at h1;rw [show 2 ^ 4*(s / 16)+0=16*(s / 16) by omega] at h2;rw [h1,h2];by_cases h:i < 4
 ·rw [if_pos h,if_pos h];simp
 ·rw [if_neg h,if_neg h];have:(s % 16).testBit i=false:=Nat.testBit_lt_two_pow (Nat.lt_of_lt_of_le (show s % 16 < 2 ^ 4 by omega) (Nat.pow_le_pow_right (by omega) (by omega)));rw [this];simp
theorem bstep4_tab (s:Nat):bstep4 s=bstep4 (s % 16) ^^^ (s / 16):=by
 conv=>lhs;rw [split16 s,bstep4_xor,bstep4_16]
 rw [Nat.xor_comm]
theorem xor_lt32 {a b:Nat} (ha:a < 4294967296) (hb:b < 4294967296):a ^^^ b < 4294967296:=Nat.xor_lt_two_pow (n:=32) ha hb
theorem bstep_lt {s:Nat} (h:s < 4294967296):bstep s < 4294967296:=by
 unfold bstep;split
 ·exact xor_lt32 (by omega) (by omega)
 ·omega
theorem bstep4_lt {s:Nat} (h:s < 4294967296):bstep4 s < 4294967296:=bstep_lt (bstep_lt (bstep_lt (bstep_lt h)))
theorem cstep_lt {s c:Nat} (h:s < 4294967296) (hc:c < 256):cstep s c < 4294967296:=bstep4_lt (bstep4_lt (xor_lt32 h (by omega)))
theorem crcU_lt:∀ (l:List Nat) (s:Nat),s < 4294967296→(∀ c∈l,c < 256)→crcU s l < 4294967296:=by
 intro l;induction l with
 | nil=>intro s h _;exact h
 | cons c l ih=>intro s h hb;exact ih _ (cstep_lt h (hb c (List.mem_cons_self ..))) (fun d hd=>hb d (List.mem_cons_of_mem _ hd))
theorem crc_lt (l:List Nat):crc l < 4294967296:=by unfold crc;omega
theorem addCrc_length (l:List Nat):(addCrc l).length=l.length+4:=by simp [addCrc,sum4]
theorem xor_ones {s:Nat} (h:s < 4294967296):s ^^^ 4294967295=4294967295 - s:=by
 have e:4294967295=2 ^ 32 - 1:=by omega
 apply Nat.eq_of_testBit_eq
 intro i;rw [Nat.testBit_xor,show (4294967295 - s:Nat)=2 ^ 32 - (s+1) by omega,Nat.testBit_two_pow_sub_succ (by omega),e,Nat.testBit_two_pow_sub_one];by_cases hi:i < 32
 ·simp [hi]
 ·have:s.testBit i=false:=Nat.testBit_lt_two_pow (Nat.lt_of_lt_of_le (show s < 2 ^ 32 by omega) (Nat.pow_le_pow_right (by omega) (by omega)));simp [hi,this]
def ctab:List Nat:=[0,498536548,997073096,651767980,1994146192,1802195444,1303535960,1342533948,3988292384,4027552580,3604390888,3412177804,2607071920,2262029012,2685067896,3183342108]
theorem ctab_eq:∀ t,t < 16→bstep4 t=ctab.getD t 0:=by decide
end
section
open Go Go.RowKit
def Rd (w:World) (b:Nat) (A:Option Addr) (xs:List Value):Prop :=
 xs=[]∨∃ o,A=some ⟨b,o,none⟩∧b < w.heap.size∧∀ j u,xs[j]? = some u→w.cell? ⟨b,o+j,none⟩=some u
theorem add_lit' (b o n:Nat):(⟨b,o,none⟩:Addr).add n=⟨b,o+n,none⟩:=by unfold Addr.add;split<;>simp_all
structure Kp (g g':Nat) (w w':World):Prop where
 os:w'.os=w.os
 tape:w'.tape=w.tape
 output:w'.output=w.output
 size:w.heap.size≤w'.heap.size
 block:∀ k,k < w.heap.size→k≠g→k≠g'→w'.heap[k]? = w.heap[k]?
abbrev Nw (w w':World):Prop:=Below w.heap.size w w'
theorem Nw.refl (w:World):Nw w w:=Below.refl _ _
theorem Nw.trans {a b c:World} (h:Nw a b) (k:Nw b c):Nw a c:=Below.trans h (Below.mono k h.size)
theorem Nw.drewN (w:World) (n:Nat):Nw w (w.drewN n):=⟨rfl,rfl,rfl,Nat.le_refl _,fun _ _=>rfl⟩
theorem Nw.drewN' {a w:World} (h:Nw a w) (n:Nat):Nw a (w.drewN n):=Nw.trans h (Nw.drewN w n)
theorem Nw.alloc' {a w:World} (h:Nw a w) (o:Obj):Nw a (w.alloc o):=Below.alloc h h.size o
theorem Nw.kp {w w':World} (h:Nw w w') (g g':Nat):Kp g g' w w':=⟨h.os,h.tape,h.output,h.size,fun k hk _ _=>h.block k hk⟩
theorem Nw.setCell' {a w:World} (h:Nw a w) {p:Addr} (hp:a.heap.size≤p.block) (u:Value):Nw a (w.setCell p u):=Below.setCell h hp u
theorem Kp.refl (g g':Nat) (w:World):Kp g g' w w:=(Nw.refl w).kp g g'
theorem Kp.trans {g g' h h':Nat} {a b c:World} (x:Kp g g' a b) (y:Kp h h' b c) (e:h=g∨h=g'∨a.heap.size≤h) (e':h'=g∨h'=g'∨a.heap.size≤h'):Kp g g' a c :=
 ⟨y.os.trans x.os,y.tape.trans x.tape,y.output.trans x.output,Nat.le_trans x.size y.size,fun k hk h1 h2 =>
  (y.block k (Nat.lt_of_lt_of_le hk x.size) (by rcases e with e | e | e<;>omega) (by rcases e' with e' | e' | e'<;>omega)).trans (x.block k hk h1 h2)⟩
theorem Kp.nw {g g':Nat} {a b c:World} (x:Nw a b) (y:Kp g g' b c) (e:a.heap.size≤g) (e':a.heap.size≤g'):Nw a c :=
 ⟨y.os.trans x.os,y.tape.trans x.tape,y.output.trans x.output,Nat.le_trans x.size y.size,fun k hk =>
  (y.block k (Nat.lt_of_lt_of_le hk x.size) (by omega) (by omega)).trans (x.block k hk)⟩
theorem Kp.drewN' {g g':Nat} {a b:World} (x:Kp g g' a b) (n:Nat):Kp g g' a (b.drewN n):=x.trans ((Nw.drewN b n).kp g g') (.inl rfl) (.inr (.inl rfl))
theorem Kp.nw' {g g':Nat} {a b c:World} (x:Kp g g' a b) (y:Nw b c):Kp g g' a c:=x.trans (y.kp g g') (.inl rfl) (.inr (.inl rfl))
theorem Kp.setCell' {g g':Nat} {a w:World} (h:Kp g g' a w) {p:Addr} (hp:p.block=g∨p.block=g'∨a.heap.size≤p.block) (u:Value):Kp g g' a (w.setCell p u) :=
 ⟨h.os,h.tape,h.output,by simpa [World.setCell] using h.size,fun k hk h1 h2 =>
  (Below.heap_setCell w p u k (by rintro rfl;rcases hp with hp | hp | hp<;>omega)).trans (h.block k hk h1 h2)⟩
theorem Kp.alloc' {g g':Nat} {a w:World} (h:Kp g g' a w) (o:Obj):Kp g g' a (w.alloc o):=h.nw' (Nw.alloc' (Nw.refl w) o)
theorem Kp.grown {g g':Nat} {a w w':World} {row:Option Nat} (h:Kp g g' a w) (hg:w.grownBy w' row) (hr:∀ k,row=some k→k=g∨k=g'∨a.heap.size≤k):Kp g g' a w' :=
 ⟨hg.os.trans h.os,hg.tape.trans h.tape,hg.output.trans h.output,Nat.le_trans h.size hg.size,fun k hk h1 h2 =>
  (hg.block k (Nat.lt_of_lt_of_le hk h.size) (fun e=>by rcases hr k e.symm with x | x | x<;>omega)).trans (h.block k hk h1 h2)⟩
theorem Nw.grown' {a w w':World} {row:Option Nat} (h:Nw a w) (hg:w.grownBy w' row) (hr:∀ k,row=some k→a.heap.size≤k):Nw a w':=Below.grown h hg h.size hr
section
variable {w w':World} {b g g':Nat} {A:Option Addr} {xs:List Value}
theorem Rd.nil (w:World) (b:Nat) (A:Option Addr):Rd w b A []:=.inl rfl
theorem Rd.get {k:Nat} (h:Rd w b A xs) (hk:k < xs.length):∃ o,A=some ⟨b,o,none⟩∧b < w.heap.size∧w.cell? ⟨b,o+k,none⟩=some xs[k]:=by
 rcases h with rfl | ⟨o,e,hlt,hc⟩
 ·simp at hk
 ·exact ⟨o,e,hlt,hc k _ (List.getElem?_eq_getElem hk)⟩
theorem Rd.kp (h:Rd w b A xs) (hk:Kp g g' w w') (h1:b≠g) (h2:b≠g'):Rd w' b A xs:=by
 rcases h with rfl | ⟨o,e,hlt,hc⟩
 ·exact .inl rfl
 ·exact .inr ⟨o,e,Nat.lt_of_lt_of_le hlt hk.size,fun j u hu=>(World.cell?_of_block (hk.block b hlt h1 h2)).trans (hc j u hu)⟩
theorem Rd.nw (h:Rd w b A xs) (hk:Nw w w'):Rd w' b A xs:=by
 rcases h with rfl | ⟨o,e,hlt,hc⟩
 ·exact .inl rfl
 ·exact .inr ⟨o,e,Nat.lt_of_lt_of_le hlt hk.size,fun j u hu=>(World.cell?_of_block (hk.block b hlt)).trans (hc j u hu)⟩
theorem Rd.drewN (h:Rd w b A xs) (n:Nat):Rd (w.drewN n) b A xs:=h.nw (Nw.drewN w n)
theorem Rd.take (h:Rd w b A xs) (k:Nat):Rd w b A (xs.take k):=by
 rcases h with rfl | ⟨o,e,hlt,hc⟩
 ·exact .inl (by simp)
 ·exact .inr ⟨o,e,hlt,fun j u hu=>hc j u (by rw [List.getElem?_take] at hu;split at hu<;>simp_all)⟩
theorem Rd.cut {k cap size:Nat} (h:Rd w b A xs) (hk:xs.length≤cap*size):Rd w b (if cap=k then A else A.map (·.add (k*size))) (xs.drop (k*size)):=by
 rcases h with rfl | ⟨o,rfl,hlt,hc⟩
 ·exact .inl (by simp)
 ·by_cases e:cap=k
  ·subst e;exact .inl (by rw [List.drop_eq_nil_iff];exact hk)
  ·rw [if_neg e];refine .inr ⟨o+k*size,by simp [add_lit'],hlt,fun j u hu=>?_⟩;rw [Nat.add_assoc];exact hc _ u (by rw [← hu,List.getElem?_drop])
theorem Rd.of_own {base:Nat} {e:TypeId} {size n c:Nat} (h:w.ownsRow base e size (.slice A n c) n xs):Rd w ((A.map (·.block)).getD 0) A xs:=by
 have h':=h;obtain ⟨hl,h2⟩:=h;rcases h2 with ⟨hv,rfl⟩ | ⟨g,cap,cur,hv,hbg,hh,_⟩
 ·exact .inl (List.eq_nil_of_length_eq_zero (by simpa using hl))
 ·obtain ⟨rfl,_,_⟩:A=some ⟨g,0,none⟩∧n=n∧c=cap:=by injection hv with h1 h2 h3;exact ⟨h1,rfl,h3⟩
  exact .inr ⟨0,rfl,lt_of_block hh,fun j u hu=>by have:=h'.cells (g:=g) rfl j u hu;rwa [add_lit'] at this⟩
end
def Dr (w w':World):Prop:=∃ q,w'=w.drewN q
theorem Dr.refl (w:World):Dr w w:=⟨0,rfl⟩
theorem Dr.mk (w:World) (q:Nat):Dr w (w.drewN q):=⟨q,rfl⟩
theorem Dr.step {a b:World} (h:Dr a b) (q:Nat):Dr a (b.drewN q):=by
 obtain ⟨p,rfl⟩:=h;exact ⟨p+q,World.drewN_drewN ..⟩
theorem Dr.nw {a b:World} (h:Dr a b):Nw a b:=by
 obtain ⟨q,rfl⟩:=h;exact Nw.drewN a q
theorem quiet2 {P:Program} {f:FuncId} {args:Array Value} {w:World} {a n:Nat} {v:Value} (h:Calls P f args (w.drewN (a+n)) fun e w'=>e=.returned v∧w.drewN (a+n)=w') :
  Calls P f args (w.drewN (a+n)) fun e w''=>e=.returned v∧∃ m,w''=w.drewN (a+m):=h.mono fun _ _ x=>⟨x.1,n,x.2.symm⟩
theorem quiet1 {P:Program} {f:FuncId} {args:Array Value} {w:World} {n:Nat} {v:Value} (h:Calls P f args (w.drewN n) fun e w'=>e=.returned v∧w.drewN n=w') :
  Calls P f args (w.drewN n) fun e w''=>e=.returned v∧∃ m,w''=w.drewN m:=h.mono fun _ _ x=>⟨x.1,n,x.2.symm⟩
theorem cell_past {w:World} {o:Obj} {a:Addr} {v:Value} (h:a.block < w.heap.size) (hc:w.cell? a=some v):(w.alloc o).cell? a=some v :=
 (World.cell?_of_block (Below.heap_alloc w o _ h)).trans hc
abbrev cI (k:IntKind) (zs:List Int):List Value:=zs.map (Value.int k)
abbrev cN (k:IntKind) (xs:List Nat):List Value:=xs.map (fun x:Nat=>Value.int k (x:Int))
abbrev cB (xs:List Bool):List Value:=xs.map Value.bool
end
section
open Go Go.RowKit
structure ElemT (P:Program) (t e:TypeId) (z:Value) (size bytes:Nat):Prop where
 und:P.underlying t=some (.slice e)
 info:∃ i,P.info? e=some i∧i.zero=some z∧i.size=size∧i.bytes=bytes
 cells:z.cells.size=size
 pos:0 < size
theorem ElemT.mk' {P:Program} {t e:TypeId} {z:Value} {size bytes:Nat} (h:P.underlying t=some (.slice e)) (h':(P.info? e).map (fun i=>(i.zero,i.size,i.bytes))=some (some z,size,bytes))
  (hz:z.cells.size=size) (hp:0 < size):ElemT P t e z size bytes:=⟨h,info_parts h',hz,hp⟩
def Ow (w:World) (b:Nat) (e:TypeId) (size:Nat) (A:Option Addr) (n c:Nat) (xs:List Value):Prop :=
 (A=none∧n=0∧c=0∧xs=[]) ∨
 (A=some ⟨b,0,none⟩∧b < w.heap.size∧w.ownsRow 0 e size (.slice A n c) n xs)
section
variable {P:Program} {w w':World} {b g g':Nat} {e:TypeId} {size n c:Nat} {A:Option Addr} {xs:List Value}
theorem Ow.nil (w:World) (b:Nat) (e:TypeId) (size:Nat):Ow w b e size none 0 0 []:=.inl ⟨rfl,rfl,rfl,rfl⟩
theorem Ow.row (h:Ow w b e size A n c xs):w.ownsRow 0 e size (.slice A n c) n xs:=by
 rcases h with ⟨rfl,rfl,rfl,rfl⟩ | ⟨_,_,h⟩
 ·exact World.ownsRow_nil _ _ _ _
 ·exact h
theorem Ow.len (h:Ow w b e size A n c xs):xs.length=n*size:=h.row.1
theorem Ow.rd (h:Ow w b e size A n c xs):Rd w b A xs:=by
 rcases h with ⟨rfl,rfl,rfl,rfl⟩ | ⟨rfl,_,h⟩
 ·exact Rd.nil _ _ _
 ·simpa using Rd.of_own h
theorem Ow.of_row (h:w.ownsRow 0 e size (.slice A n c) n xs) (hb:(Value.slice A n c).ownBlock=some b∨A=none):Ow w b e size A n c xs:=by
 rcases h.2 with ⟨hv,hn⟩ | ⟨g,cap,cur,hv,_,hh,_⟩
 ·injection hv with h1 h2 h3
  subst h1 h2 h3;exact .inl ⟨rfl,rfl,rfl,List.eq_nil_of_length_eq_zero (by simpa using h.1)⟩
 ·injection hv with h1 h2 h3
  subst h1;rcases hb with hb | hb
  ·obtain rfl:g=b:=by simpa [Value.ownBlock] using hb
   exact .inr ⟨rfl,lt_of_block hh,h⟩
  ·cases hb
theorem Ow.kp (h:Ow w b e size A n c xs) (hk:Kp g g' w w') (h1:b≠g) (h2:b≠g'):Ow w' b e size A n c xs:=by
 rcases h with ⟨rfl,rfl,rfl,rfl⟩ | ⟨rfl,hlt,h⟩
 ·exact Ow.nil _ _ _ _
 ·refine .inr ⟨rfl,Nat.lt_of_lt_of_le hlt hk.size,h.1,?_⟩;rcases h.2 with ⟨hv,_⟩ | ⟨g0,cap,cur,hv,hbg,hh,r⟩
  ·cases hv
  ·have hg:b=g0:=by injection hv with x;injection x with x;injection x
   subst hg;exact .inr ⟨b,cap,cur,hv,hbg,(hk.block b hlt h1 h2).trans hh,r⟩
theorem Ow.nw (h:Ow w b e size A n c xs) (hk:Nw w w'):Ow w' b e size A n c xs:=by
 rcases h with ⟨rfl,rfl,rfl,rfl⟩ | ⟨rfl,hlt,h⟩
 ·exact Ow.nil _ _ _ _
 ·refine .inr ⟨rfl,Nat.lt_of_lt_of_le hlt hk.size,h.1,?_⟩;rcases h.2 with ⟨hv,_⟩ | ⟨g0,cap,cur,hv,hbg,hh,r⟩
  ·cases hv
  ·have hg:b=g0:=by injection hv with x;injection x with x;injection x
   subst hg;exact .inr ⟨b,cap,cur,hv,hbg,(hk.block b hlt).trans hh,r⟩
theorem Ow.lt (h:Ow w b e size A n c xs) (hn:0 < n):b < w.heap.size:=by
 rcases h with ⟨rfl,rfl,rfl,rfl⟩ | ⟨_,hlt,_⟩
 ·omega
 ·exact hlt
theorem Ow.cap (h:Ow w b e size A n c xs):n≤c∧c≤9223372036854775807:=by
 rcases h with ⟨rfl,rfl,rfl,rfl⟩ | ⟨_,hlt,h⟩
 ·omega
 ·rcases h.2 with ⟨hv,_⟩ | ⟨g0,cap,cur,hv,hbg,hh,r1,r2,_⟩
  ·injection hv with h1 h2 h3;omega
  ·injection hv with h1 h2 h3
   simp only [maxLen] at r2;omega
theorem Ow.set_ (h:Ow w b e size A n c xs) (j:Nat) (u:Value):Ow (w.setCell ⟨b,j,none⟩ u) b e size A n c (xs.set j u):=by
 rcases h with ⟨rfl,rfl,rfl,rfl⟩ | ⟨rfl,hlt,h⟩
 ·exact .inl ⟨rfl,rfl,rfl,by simp⟩
 ·exact .inr ⟨rfl,by simpa [World.setCell] using hlt,(h.stored j u).1⟩
theorem Ow.at_ (h:Ow w b e size A n c xs) {j:Nat} (hj:j < n*size):A=some ⟨b,0,none⟩∧b < w.heap.size∧w.cell? ⟨b,j,none⟩=xs[j]?∧w.frozen? ⟨b,j,none⟩=false:=by
 rcases h with ⟨rfl,rfl,rfl,rfl⟩ | ⟨rfl,hlt,h⟩
 ·simp at hj
 ·exact ⟨rfl,hlt,h.cellAt j hj,h.frozenAt j⟩
theorem own_slice {v:Value} (h:w.ownsRow 0 e size v n xs):∃ A c,v=.slice A n c:=by
 rcases h.2 with ⟨hv,rfl⟩ | ⟨g,cap,cur,hv,_⟩
 ·exact ⟨none,0,hv⟩
 ·exact ⟨_,_,hv⟩
theorem Ow.empty (w:World) (e:TypeId) (size:Nat):Ow (w.alloc (.cells #[] e)) w.heap.size e size (some ⟨w.heap.size,0,none⟩) 0 0 [] :=
 .inr ⟨rfl,by simp,by simp,.inr ⟨w.heap.size,0,#[],rfl,Nat.zero_le _,heap_alloc_new w _,by omega,by simp [maxLen],by simp,by simp⟩⟩
theorem Ow.lit (w:World) (e:TypeId) (size n:Nat) (cs:Array Value) (hs:cs.size=n*size) (hn:n≤9223372036854775807):Ow (w.alloc (.cells cs e)) w.heap.size e size (some ⟨w.heap.size,0,none⟩) n n cs.toList :=
 .inr ⟨rfl,by simp,by simpa using hs,.inr ⟨w.heap.size,n,cs,rfl,Nat.zero_le _,heap_alloc_new w _,by omega,by simpa [maxLen] using hn,hs,by rw [← hs,← Array.length_toList,List.take_length]⟩⟩
theorem wpList_app {ops:Array Oper} {rest:List Oper} {o:Oper} {a:Act} {Q:Exit→Act→World→Prop} {t:TypeId} {z:Value} {bytes:Nat} (E:ElemT P t e z size bytes) (hgd:o.guard=none) (s x:Operand)
  (ho:o.op=.call { callee:=.builtin .append,args:=#[s,x],argTypes:=#[t,t] })
  (hs:a.eval s=.slice A n c) (hown:Ow w b e size A n c xs)
  {b2:Nat} {A2:Option Addr} {m c2:Nat} {news:List Value} (hx:a.eval x=.slice A2 m c2) (hr:Rd w b2 A2 news) (hl:news.length=m*size) (hnil:A2=none→c2=0) (h1:∀ u∈news,u.oneCell'=true)
  (h63:n+m≤maxLen) (hbytes:(n+m)*bytes≤140737488355328)
  (h:∀ b' A' c' w',Ow w' b' e size A' (n+m) c' (xs++news)→(b'=b∨w.heap.size≤b')→Kp b b w w'→(A=none→Nw w w'∧(w.heap.size≤b'∨A'=none))→wpList P ops Q rest (a.put o.dst (.slice A' (n+m) c')) w') :
  wpList P ops Q (o::rest) a w:=by
 obtain ⟨i,hi,hz,hsz,hby⟩:=E.info;cases A2 with
 | none =>
  obtain rfl:=hnil rfl;have hn0:news=[]:=by
   rcases hr with h | ⟨o,h,_⟩
   ·exact h
   ·cases h
  subst hn0;have hm:m=0:=by
   rcases Nat.mul_eq_zero.1 (by simpa using hl.symm) with h | h
   ·exact h
   ·have:=E.pos;omega
  subst hm;refine wpList_append_own_none hgd s x t ho 0 e i size E.und hi _ n xs hs hown.row hx ?_;have:=h b A c w (by simpa using hown) (.inl rfl) (Kp.refl _ _ _) (fun e=>⟨Nw.refl w,.inr e⟩);simpa using this
 | some ad =>
  have hcells:∀ j u,news[j]? = some u→w.cell? (ad.add j)=some u:=by
   intro j u hu;rcases hr with rfl | ⟨o,h,_,hc⟩
   ·simp at hu
   ·injection h with h
    subst h;rw [add_lit'];exact hc j u hu
  refine wpList_append_own_at w hgd s x t ho 0 e i z size bytes E.und hi hz hsz hby E.cells E.pos _ n xs hs hown.row ad m c2 news hx hl hcells h1 h63 hbytes (Nat.zero_le _) ?_;intro v' w' hown' hgrow hnil' hat;obtain ⟨A',c',rfl⟩:=own_slice hown';have hsize:=hgrow.size;have hkp:Kp b b w w':=(Kp.refl b b w).grown hgrow (by
   intro k hk;rcases hown with ⟨rfl,rfl,rfl,rfl⟩ | ⟨rfl,_,_⟩
   ·simp [Value.ownBlock] at hk
   ·left;simpa [Value.ownBlock] using hk.symm)
  have hnn:A=none→Nw w w':=by
   rintro rfl;exact (Nw.refl w).grown' hgrow (by intro k hk;simp [Value.ownBlock] at hk)
  rcases hat with hat | hat
  ·have hb:(Value.slice A' (n+m) c').ownBlock=some b∨A'=none:=by
    rcases hown with ⟨rfl,rfl,rfl,rfl⟩ | ⟨rfl,_,_⟩
    ·right
     cases A' with
     | none=>rfl
     | some q=>simp [Value.ownBlock] at hat
    ·left;simpa [Value.ownBlock] using hat
   exact h b A' c' w' (Ow.of_row hown' hb) (.inl rfl) hkp (fun e=>⟨hnn e,.inr (by subst e;cases A' with | none=>rfl | some q=>simp [Value.ownBlock] at hat)⟩)
  ·exact h w.heap.size A' c' w' (Ow.of_row hown' (.inl hat)) (.inr (Nat.le_refl _)) hkp (fun e=>⟨hnn e,.inl (Nat.le_refl _)⟩)
theorem wpList_app1 {ops:Array Oper} {rest:List Oper} {o:Oper} {a:Act} {Q:Exit→Act→World→Prop} {t:TypeId} {z:Value} {bytes:Nat} (E:ElemT P t e z 1 bytes) (hgd:o.guard=none) (s x:Operand)
  (ho:o.op=.call { callee:=.builtin .append,args:=#[s,x],argTypes:=#[t,t] })
  (hs:a.eval s=.slice A n c) (hown:Ow w b e 1 A n c xs) {u:Value} (hx:a.eval x=.slice (some ⟨w.heap.size,0,none⟩) 1 1) (h1:u.oneCell'=true)
  (hbytes:(n+1)*bytes≤140737488355328) (hby0:0 < bytes)
  (h:∀ b' A' c' w',Ow w' b' e 1 A' (n+1) c' (xs++[u])→(b'=b∨w.heap.size≤b')→Kp b b w w'→(A=none→Nw w w'∧w.heap.size≤b')→wpList P ops Q rest (a.put o.dst (.slice A' (n+1) c')) w') :
  wpList P ops Q (o::rest) a (w.alloc (.cells #[u] e)):=by
 have hn:n+1≤140737488355328:=Nat.le_trans (Nat.le_mul_of_pos_right _ hby0) hbytes;have hnw:Nw w (w.alloc (.cells #[u] e)):=Nw.alloc' (Nw.refl w) _;refine wpList_app E hgd s x ho hs (hown.nw hnw) (b2:=w.heap.size) (news:=[u]) hx (.inr ⟨0,rfl,by simp,fun j v hj=>?_⟩) (by simp) (by simp) (by intro v hv;simp at hv;subst hv;exact h1)
  (by simp only [maxLen];omega) hbytes ?_
 ·have:=cell_one_new w u e j v hj
  rwa [add_lit'] at this
 ·intro b' A' c' w' h2 h3 h4 h4n;have h5:=h4.size;have h6:=hnw.size;refine h b' A' c' w' h2 (by rcases h3 with h3 | h3;exact .inl h3;right;omega) ?_ ?_
  ·exact (hnw.kp b b).trans h4 (.inl rfl) (.inl rfl)
  ·refine fun e=>⟨Nw.trans hnw (h4n e).1,?_⟩
   rcases (h4n e).2 with h7 | rfl
   ·omega
   ·rcases h2 with ⟨_,h8,_⟩ | ⟨h8,_⟩
    ·omega
    ·cases h8
end
end
end Go.Proofs.YtmmonehfnfbpbaaGreatDoor
namespace Go.Proofs
open Go.Shelf
def Tryz.lays125_ren:Go.Shelf.Ren:=⟨fun | 125=>254 | 128=>299 | 129=>300 | n=>n,fun | 46=>344 | 3=>3 | 51=>69 | 53=>97 | 4=>4 | 5=>5 | 9=>9 | n=>n,fun | n=>n⟩
theorem Tryz.lays125:Go.Proofs.Lays.n125 Tryz.prog Tryz.lays125_ren:={
 mixed:=by kernel_rfl
 f125:=Tryz.func254.trans (congrArg some (by kernel_rfl))
 f128:=Tryz.func299.trans (congrArg some (by kernel_rfl))
 f129:=Tryz.func300.trans (congrArg some (by kernel_rfl))
 t3:=Tryz.underlying3
 a3:=Tryz.isAgg3
 z3:=Tryz.sizeOf3
 v3:=Tryz.zeroValue3
 t4:=Tryz.underlying4
 a4:=Tryz.isAgg4
 z4:=Tryz.sizeOf4
 v4:=Tryz.zeroValue4
 t5:=Tryz.underlying5
 a5:=Tryz.isAgg5
 z5:=Tryz.sizeOf5
 v5:=Tryz.zeroValue5
 t9:=Tryz.underlying9
 a9:=Tryz.isAgg9
 z9:=Tryz.sizeOf9
 v9:=Tryz.zeroValue9
 t46:=Tryz.underlying344
 a46:=Tryz.isAgg344
 z46:=Tryz.sizeOf344
 v46:=Tryz.zeroValue344
 t51:=Tryz.underlying69
 a51:=Tryz.isAgg69
 z51:=Tryz.sizeOf69
 v51:=Tryz.zeroValue69
 t53:=Tryz.underlying97
 a53:=Tryz.isAgg97
 z53:=Tryz.sizeOf97
 v53:=Tryz.zeroValue97 }
theorem Tryz.bits_Len (x:Int) (w:World) (h0:0≤x) (h1:x≤18446744073709551615) :
  Calls Tryz.prog 254 #[.int .u64 x] w fun e w'=>e=.returned (.int .i64 (Lib.bitLen x.toNat))∧w'=w:=Any.bits_Len Tryz.lays125 x w h0 h1
def Tryz.lays134_ren:Go.Shelf.Ren:=⟨fun | 134=>319 | 129=>300 | n=>n,fun | 53=>97 | 3=>3 | 4=>4 | 46=>344 | 5=>5 | 9=>9 | n=>n,fun | n=>n⟩
theorem Tryz.lays134:Go.Proofs.Lays.n134 Tryz.prog Tryz.lays134_ren:={
 mixed:=by kernel_rfl
 f129:=Tryz.func300.trans (congrArg some (by kernel_rfl))
 f134:=Tryz.func319.trans (congrArg some (by kernel_rfl))
 t3:=Tryz.underlying3
 a3:=Tryz.isAgg3
 z3:=Tryz.sizeOf3
 v3:=Tryz.zeroValue3
 t4:=Tryz.underlying4
 a4:=Tryz.isAgg4
 z4:=Tryz.sizeOf4
 v4:=Tryz.zeroValue4
 t5:=Tryz.underlying5
 a5:=Tryz.isAgg5
 z5:=Tryz.sizeOf5
 v5:=Tryz.zeroValue5
 t9:=Tryz.underlying9
 a9:=Tryz.isAgg9
 z9:=Tryz.sizeOf9
 v9:=Tryz.zeroValue9
 t46:=Tryz.underlying344
 a46:=Tryz.isAgg344
 z46:=Tryz.sizeOf344
 v46:=Tryz.zeroValue344
 t53:=Tryz.underlying97
 a53:=Tryz.isAgg97
 z53:=Tryz.sizeOf97
 v53:=Tryz.zeroValue97 }
theorem Tryz.bits_LeadingZeros64 (x:Int) (w:World) (h0:0≤x) (h1:x≤18446744073709551615) :
  Calls Tryz.prog 319 #[.int .u64 x] w fun e w'=>e=.returned (.int .i64 (64 - (Lib.bitLen x.toNat:Int)))∧w'=w:=Any.bits_LeadingZeros64 Tryz.lays134 x w h0 h1
def Tryz.laysnb115_ren:Go.Shelf.Ren:=⟨fun | 115=>40 | n=>n,fun | 37=>22 | 4=>4 | 9=>9 | 5=>5 | n=>n,fun | n=>n⟩
theorem Tryz.laysnb115:Go.Proofs.Lays.nb115 Tryz.prog Tryz.laysnb115_ren:={
 mixed:=by kernel_rfl
 f115:=Tryz.func40.trans (congrArg some (by kernel_rfl))
 t4:=Tryz.underlying4
 a4:=Tryz.isAgg4
 z4:=Tryz.sizeOf4
 v4:=Tryz.zeroValue4
 t9:=Tryz.underlying9
 a9:=Tryz.isAgg9
 z9:=Tryz.sizeOf9
 v9:=Tryz.zeroValue9
 t37:=Tryz.underlying22
 a37:=Tryz.isAgg22
 z37:=Tryz.sizeOf22
 v37:=Tryz.zeroValue22
 t5:=Tryz.underlying5
 a5:=Tryz.isAgg5
 z5:=Tryz.sizeOf5
 v5:=Tryz.zeroValue5 }
theorem Tryz.bytes_Equal_all (p1 p2:Option Addr) (n c m d:Nat) (xs ys:List Int) (w:World) (hx:xs.length=n) (hy:ys.length=m) (h1:Lib.BytesIn w p1 n xs) (h2:Lib.BytesIn w p2 m ys) :
  Calls Tryz.prog 40 #[.slice p1 n c,.slice p2 m d] w fun e w'=>e=.returned (.bool (Lib.bytesOf xs == Lib.bytesOf ys))∧w'=w:=Any.bytes_Equal_all Tryz.laysnb115 p1 p2 n c m d xs ys w hx hy h1 h2
end Go.Proofs
namespace Go.Proofs.YtmmonehfnfbpbaaGreatDoor
open Go.Lib(hid)
section
open Go Go.RowKit
def deB:List Nat:=[0,1,56,2,57,49,28,3,61,58,42,50,38,29,17,4,62,47,59,36,45,43,51,22,53,39,33,30,24,18,12,5,63,55,48,27,60,41,37,16,46,35,44,21,52,32,23,11,54,26,40,15,34,20,31,10,25,14,19,9,13,8,7,6]
def formCells:List Value:=[.int .u64 0,.int .i64 1,.int .i64 0,.int .u64 2,.int .i64 2,.int .i64 7,.int .u64 6,.int .i64 3,.int .i64 12,.int .u64 14,.int .i64 4,.int .i64 32,.int .u64 15,.int .i64 4,.int .i64 64]
structure Gl (w:World):Prop where
 forms:∀ (k:Nat) v,formCells[k]? = some v→w.cell? ⟨0,k,none⟩=some v
 tab:∀ (k:Nat) v,(cN .u8 deB)[k]? = some v→w.cell? ⟨2,k,none⟩=some v
 crc:∀ (k:Nat) v,(cN .u32 ctab)[k]? = some v→w.cell? ⟨1,k,none⟩=some v
 lt:3≤w.heap.size
theorem Gl.kp {w w':World} {g g':Nat} (h:Gl w) (hk:Kp g g' w w') (h1:3≤g) (h2:3≤g'):Gl w' where
 forms k v e:=(World.cell?_of_block (hk.block _ (by have:=h.lt;simp only;omega) (by simp only;omega) (by simp only;omega))).trans (h.forms k v e)
 tab k v e:=(World.cell?_of_block (hk.block _ (by have:=h.lt;simp only;omega) (by simp only;omega) (by simp only;omega))).trans (h.tab k v e)
 crc k v e:=(World.cell?_of_block (hk.block _ (by have:=h.lt;simp only;omega) (by simp only;omega) (by simp only;omega))).trans (h.crc k v e)
 lt:=Nat.le_trans h.lt hk.size
theorem Gl.nw {w w':World} (h:Gl w) (hk:Nw w w'):Gl w':=h.kp (hk.kp 3 3) (Nat.le_refl _) (Nat.le_refl _)
theorem land_neg {x t m:Nat} (hx:x < 18446744073709551616) (e:x=2 ^ t*(2*m+1)):x &&& (18446744073709551616 - x)=2 ^ t:=by
 have h64:t≤63:=by
  by_cases h:t≤63
  ·exact h
  ·have h1:2 ^ 64≤2 ^ t:=Nat.pow_le_pow_right (by omega) (by omega);have h2:2 ^ t≤2 ^ t*(2*m+1):=Nat.le_mul_of_pos_right _ (by omega);rw [pow64] at h1;omega
 have hp:18446744073709551616=2 ^ t*(2*2 ^ (63 - t)):=by
  rw [← pow64,← Nat.pow_succ',← Nat.pow_add];congr 1;omega
 have hm:m < 2 ^ (63 - t):=by
  rw [e,hp] at hx;have:=Nat.lt_of_mul_lt_mul_left hx;omega
 have e2:18446744073709551616 - x=2 ^ t*(2*(2 ^ (63 - t) - 1 - m)+1):=by
  rw [e,hp,← Nat.mul_sub];congr 1
  omega
 have hz:m &&& (2 ^ (63 - t) - 1 - m)=0:=by
  apply Nat.eq_of_testBit_eq
  intro i;rw [Nat.testBit_and,Nat.zero_testBit];have h1:2 ^ (63 - t) - 1 - m=2 ^ (63 - t) - (m+1):=by omega
  rw [h1,Nat.testBit_two_pow_sub_succ hm];cases m.testBit i<;>simp
 rw [e2,e];apply Nat.eq_of_testBit_eq
 intro i;rw [Nat.testBit_and,Nat.testBit_two_pow_mul,Nat.testBit_two_pow_mul,Nat.testBit_two_pow];by_cases hi:t≤i
 ·simp only [hi,decide_true,Bool.true_and];obtain ⟨j,rfl⟩:∃ j,i=t+j:=⟨i - t,by omega⟩;rw [Nat.add_sub_cancel_left];cases j with
  | zero=>simp [Nat.testBit_zero]
  | succ j =>
   rw [Nat.testBit_succ,Nat.testBit_succ,show (2*m+1) / 2=m from by omega,show (2*(2 ^ (63 - t) - 1 - m)+1) / 2=2 ^ (63 - t) - 1 - m from by omega];have:=congrArg (fun n=>Nat.testBit n j) hz;simp only [Nat.testBit_and,Nat.zero_testBit] at this;rw [this];simp
 ·simp [hi];omega
theorem u64_and_nat (a b:Nat) (ha:a < 18446744073709551616) (hb:b < 18446744073709551616):bits .and .u64 (a:Int) (b:Int)=((a &&& b:Nat):Int):=by
 have h:bits .and .u64 (a:Int) (b:Int)=IntKind.u64.wrap (BitVec.ofInt 64 a &&& BitVec.ofInt 64 b).toNat:=rfl;rw [h,BitVec.toNat_and,BitVec.ofInt_natCast,BitVec.ofInt_natCast,BitVec.toNat_ofNat,BitVec.toNat_ofNat,pow64,Nat.mod_eq_of_lt ha,Nat.mod_eq_of_lt hb];have:a &&& b≤a:=Nat.and_le_left;rw [IntWalk.u64_in _ (by omega)]
theorem u64_xor_nat (a b:Nat) (ha:a < 18446744073709551616) (hb:b < 18446744073709551616):bits .xor .u64 (a:Int) (b:Int)=((a ^^^ b:Nat):Int):=by
 have h:bits .xor .u64 (a:Int) (b:Int)=IntKind.u64.wrap (BitVec.ofInt 64 a ^^^ BitVec.ofInt 64 b).toNat:=rfl;rw [h,BitVec.toNat_xor,BitVec.ofInt_natCast,BitVec.ofInt_natCast,BitVec.toNat_ofNat,BitVec.toNat_ofNat,pow64,Nat.mod_eq_of_lt ha,Nat.mod_eq_of_lt hb];have:=xor_lt64 ha hb;rw [IntWalk.u64_in _ (by omega)]
theorem deB_at:∀ t:Fin 64,(2 ^ t.val*285870213051353865 % 18446744073709551616 / 288230376151711744) < 64∧(cN .u8 deB)[2 ^ t.val*285870213051353865 % 18446744073709551616 / 288230376151711744]? = some (.int .u8 (t.val:Int)):=by
 have key:∀ t:Fin 64,(2 ^ t.val*285870213051353865 % 18446744073709551616 / 288230376151711744) < 64∧deB[2 ^ t.val*285870213051353865 % 18446744073709551616 / 288230376151711744]? = some t.val:=by decide +kernel
 intro t;exact ⟨(key t).1,by rw [List.getElem?_map,(key t).2];rfl⟩
theorem tz_mul (p:Nat):IntKind.u64.wrap ((p:Int)*285870213051353865)=((p*285870213051353865 % 18446744073709551616:Nat):Int):=by rw [IntKind.wrap_u64];omega
theorem tz_div (q:Nat):(q:Int) / 288230376151711744=((q / 288230376151711744:Nat):Int):=by omega
theorem tz_and {x t m:Nat} (hx:x < 18446744073709551616) (h0:x≠0) (e:x=2 ^ t*(2*m+1)):bits .and .u64 (x:Int) (IntKind.u64.wrap (-(x:Int)))=((2 ^ t:Nat):Int):=by
 have h3:IntKind.u64.wrap (-(x:Int))=((18446744073709551616 - x:Nat):Int):=by rw [IntKind.wrap_u64];omega
 rw [h3,u64_and_nat _ _ hx (by omega),land_neg hx e]
theorem tz_walk (w:World) (x p q i t:Nat) (h2:((x:Int) == 0)=false) (h4:bits .and .u64 (x:Int) (IntKind.u64.wrap (-(x:Int)))=(p:Int)) (h5:IntKind.u64.wrap ((p:Int)*285870213051353865)=(q:Int)) (h6:(q:Int) / 288230376151711744=(i:Int)) (hi:i < 64) (ht:t < 64)
  (hcell:w.cell? ⟨2,i,none⟩=some (.int .u8 (t:Int))):Calls Tryz.prog 320 #[.int .u64 (x:Int)] w fun e w'=>e=.returned (.int .i64 (t:Int))∧w=w':=by
 go_enter Tryz.func320,Tryz.ntmps320
 go_wp2;go_ret;exact ⟨rfl,rfl⟩
theorem TrailingZeros64_any (w:World) (x:Nat) (hG:Gl w) (h0:x≠0) (hx:x < 18446744073709551616):Calls Tryz.prog 320 #[.int .u64 (x:Int)] w fun e w'=>e=.returned (.int .i64 (tz x:Int))∧w=w':=by
 obtain ⟨m,e,h63⟩:=tz_spec h0 hx;obtain ⟨hi,hc⟩:=deB_at ⟨tz x,by omega⟩;exact tz_walk w x _ _ _ (tz x) (by rw [beq_eq_false_iff_ne];omega) (tz_and hx h0 e) (tz_mul _) (tz_div _) hi (by omega) (hG.tab _ _ hc)
end
section
open Go Go.RowKit Go.ChangeShapes Go.WideShapes Go.Deep
def c2 {α:Type} (f g:α→Value) (l:List α):List Value:=l.flatMap fun x=>[f x,g x]
section
variable {α:Type} {f g:α→Value}
theorem c2_length (l:List α):(c2 f g l).length=2*l.length:=by
 induction l with
 | nil=>rfl
 | cons z zs ih=>simp only [c2,List.flatMap_cons,List.length_append] at ih ⊢;simp only [ih,List.length_cons,List.length_nil];omega
theorem c2_append (a b:List α):c2 f g (a++b)=c2 f g a++c2 f g b:=by simp [c2]
theorem c2_at:∀ (l:List α) (k:Nat) (h:k < l.length),(c2 f g l)[k*2]? = some (f l[k])∧(c2 f g l)[k*2+1]? = some (g l[k]):=by
 intro l;induction l with
 | nil=>intro k h;simp at h
 | cons z zs ih =>
  intro k h;cases k with
  | zero=>exact ⟨rfl,rfl⟩
  | succ k =>
   obtain ⟨h1,h2⟩:=ih k (by simpa using h);exact ⟨by rw [show (k+1)*2=k*2+2 by omega];simpa [c2] using h1,by rw [show (k+1)*2+1=k*2+1+2 by omega];simpa [c2] using h2⟩
theorem c2_one (hf:∀ x,(f x).oneCell'=true) (hg:∀ x,(g x).oneCell'=true) (l:List α):∀ u∈c2 f g l,u.oneCell'=true:=by
 intro u hu;obtain ⟨z,_,hz⟩:=List.mem_flatMap.1 hu;rcases List.mem_cons.1 hz with rfl | hz
 ·exact hf z
 ·rcases List.mem_cons.1 hz with rfl | hz
  ·exact hg z
  ·cases hz
theorem two_at {w:World} {b k:Nat} {A:Option Addr} {l:List α} (h:Rd w b A (c2 f g l)) (hk:k < l.length) :
  ∃ o,A=some ⟨b,o,none⟩∧b < w.heap.size∧w.cell? ⟨b,o+k*2,none⟩=some (f l[k])∧w.cell? ⟨b,o+k*2+1,none⟩=some (g l[k]):=by
 obtain ⟨o,rfl,hob,hc0⟩:=h.get (k:=k*2) (by rw [c2_length];omega);obtain ⟨o',ho',_,hc1⟩:=h.get (k:=k*2+1) (by rw [c2_length];omega);obtain ⟨g0,g1⟩:=c2_at (f:=f) (g:=g) l k hk;rw [(List.getElem_eq_iff _).2 g0] at hc0;rw [(List.getElem_eq_iff _).2 g1] at hc1;injection ho' with ho';injection ho' with _ ho';subst ho'
 exact ⟨o,rfl,hob,hc0,hc1⟩
theorem lt_of_cell {w:World} {b o:Nat} {v:Value} (h:w.cell? ⟨b,o,none⟩=some v):b < w.heap.size:=by
 simp only [World.cell?] at h;cases hb:w.heap[b]? with
 | none=>rw [hb] at h;simp at h
 | some o=>exact (Array.getElem?_eq_some_iff.1 hb).1
end
abbrev Lab:=ByteArray × ByteArray
abbrev Smpl:=Int × Nat
def cL (l:List Lab):List Value:=c2 (fun x:Lab=>.string x.1) (fun x=>.string x.2) l
def cS (l:List Smpl):List Value:=c2 (fun z:Smpl=>.int .i64 z.1) (fun z=>.int .u64 (z.2:Int)) l
def SmpOk (z:Smpl):Prop:=I6 z.1∧z.2 < 18446744073709551616
def InS (l:List Smpl):Prop:=∀ z∈l,SmpOk z
theorem E_smp:ElemT Tryz.prog 63 99 (.agg #[.int .i64 0,.int .u64 0]) 2 16:=ElemT.mk' Tryz.underlying63 (by kernel_rfl) rfl (by omega)
theorem oc_S (l:List Smpl):∀ u∈cS l,u.oneCell'=true:=c2_one (fun _=>rfl) (fun _=>rfl) l
theorem cS_length (zs:List Smpl):(cS zs).length=2*zs.length:=c2_length zs
theorem cS_at (zs:List Smpl) (k:Nat) (h:k < zs.length):(cS zs)[k*2]? = some (.int .i64 zs[k].1)∧(cS zs)[k*2+1]? = some (.int .u64 (zs[k].2:Int)):=c2_at zs k h
structure Ser where
 labs:List Lab
 smps:List Smpl
 bl:Nat
 al:Option Addr
 cl:Nat
 bs:Nat
 as_:Option Addr
 cs:Nat
def cR (l:List Ser):List Value:=c2 (fun s:Ser=>.slice s.al s.labs.length s.cl) (fun s=>.slice s.as_ s.smps.length s.cs) l
structure InLab (w:World) (b:Nat) (A:Option Addr) (n c:Nat) (l:List Lab):Prop where
 rd:Rd w b A (cL l)
 len:n=l.length
 nil:A=none→c=0
 cap:n≤c
 max:c≤9223372036854775807
 small:∀ x∈l,x.1.size≤9223372036854775807∧x.2.size≤9223372036854775807
structure InSmp (w:World) (b:Nat) (A:Option Addr) (n c:Nat) (l:List Smpl):Prop where
 rd:Rd w b A (cS l)
 len:n=l.length
 wf:InS l
 nil:A=none→c=0
 cap:n≤c
 max:c≤9223372036854775807
def SerOk (w:World) (s:Ser):Prop:=InLab w s.bl s.al s.labs.length s.cl s.labs∧InSmp w s.bs s.as_ s.smps.length s.cs s.smps
structure InSer (w:World) (b:Nat) (A:Option Addr) (n c:Nat) (l:List Ser):Prop where
 rd:Rd w b A (cR l)
 len:n=l.length
 nil:A=none→c=0
 cap:n≤c
 max:c≤9223372036854775807
 ok:∀ s∈l,SerOk w s
section
variable {w w':World} {b n c:Nat} {A:Option Addr}
theorem InLab.nw {l:List Lab} (h:InLab w b A n c l) (hN:Nw w w'):InLab w' b A n c l:=⟨h.rd.nw hN,h.len,h.nil,h.cap,h.max,h.small⟩
theorem InSmp.nw {l:List Smpl} (h:InSmp w b A n c l) (hN:Nw w w'):InSmp w' b A n c l:=⟨h.rd.nw hN,h.len,h.wf,h.nil,h.cap,h.max⟩
theorem SerOk.nw {s:Ser} (h:SerOk w s) (hN:Nw w w'):SerOk w' s:=⟨h.1.nw hN,h.2.nw hN⟩
end
section
variable {H:Type} {enc:TypeId × Value→H} {W:World} {base:Nat} {sp:Nat→Bool} {held:Bool} {fuel:Nat}
end
end
section
open Go Go.RowKit Go.ChangeShapes Go.WideShapes Go.ChangeAt Go.Deep
def laid3:List (String × DataW Unit):=[("math/bits.deBruijn64tab",Rows.laid_math_bits_deBruijn64tab),("tsblock/crc.table",Rows.laid_tsblock_crc_table),("tsblock/times.forms",Rows.laid_tsblock_times_forms)]
theorem own:ownKnob Tryz.prog.godebug=none:=by kernel_rfl
theorem gDeb:Tryz.prog.globalNamed "math/bits.deBruijn64tab" = some 2:=by kernel_rfl
theorem gCrc:Tryz.prog.globalNamed "tsblock/crc.table" = some 1:=by kernel_rfl
theorem tCrc:(Tryz.prog.globals[1]?).map (·.type)=some 412:=by kernel_rfl
theorem gForms:Tryz.prog.globalNamed "tsblock/times.forms" = some 0:=by kernel_rfl
theorem tDeb:(Tryz.prog.globals[2]?).map (·.type)=some 429:=by kernel_rfl
theorem tForms:(Tryz.prog.globals[0]?).map (·.type)=some 350:=by kernel_rfl
theorem at_of_cut {cs:List Value} {a n b:Nat} {v:Value} (h:(((cs.drop a).take n).drop b).take 1=[v]):cs[a+b]? = some v:=by
 have h0:=congrArg (fun l:List Value=>l[0]?) h;simp only [List.getElem?_cons_zero,List.getElem?_take,List.getElem?_drop,Nat.add_zero] at h0;simp only [show (0:Nat) < 1 by omega,if_true] at h0;split at h0
 ·exact h0
 ·cases h0
theorem gl_of_laid {W:World} (h:laidMetH Tryz.prog laid3 W):Gl W:=by
 rw [MakeChecks.laidMetH_plain _ _ _ (by kernel_rfl)] at h;have hd:Rows.laid_math_bits_deBruijn64tab=(Lib.tabData .u8 (deB.map fun x:Nat=>(x:Int)):DataW Unit):=rfl;have hT:Lib.TabIs Tryz.prog W "math/bits.deBruijn64tab" .u8 (deB.map fun x:Nat=>(x:Int)):=by
  unfold laid3 at h;rw [hd] at h;exact Lib.tabIs_of_head gDeb tDeb Tryz.underlying429 Tryz.underlying5 (by kernel_rfl) (by kernel_rfl) h
 obtain ⟨ps,⟨g0,t0,cs0,f0,p0,q0,hg0,ht0,hv0,hd0,⟨g2,t2,cs2,f2,p2,q2,hg2,ht2,hv2,hd2,⟨g1,t1,cs1,f1,p1,q1,hg1,ht1,hv1,hd1,_,_⟩,_⟩,_⟩,_,_⟩:=h;obtain rfl:=Option.some.inj (gForms.symm.trans hg1);obtain rfl:=Option.some.inj (tForms.symm.trans ht1);have c84:Tryz.prog.cellsOf 350=15:=by kernel_rfl
 have c83:Tryz.prog.cellsOf 349=3:=by kernel_rfl
 have cU:Tryz.prog.cellsOf 97=1:=by kernel_rfl
 have cI':Tryz.prog.cellsOf 3=1:=by kernel_rfl
 obtain ⟨xs,m1,rfl,hx1,hlen,hn5,hel⟩:=DataW.trod_array Tryz.underlying350 hd1;simp only [Prod.mk.injEq] at hx1;have each:∀ i,i < 5→∀ d0 d1 d2:Int,(xs[i]?).map (·.1)=some (.agg [.lit (.int .u64 d0),.lit (.int .i64 d1),.lit (.int .i64 d2)]) →
   cs1.toList[i*3]? = some (.int .u64 d0)∧cs1.toList[i*3+1]? = some (.int .i64 d1)∧cs1.toList[i*3+2]? = some (.int .i64 d2):=by
  intro i hi d0 d1 d2 hxi;have h0:=hel i hi;rw [c83] at h0;rw [← h0] at hxi;obtain ⟨x,hx,hxd⟩:=Option.map_eq_some_iff.1 hxi;obtain ⟨y0,y1,y2,m,rfl,_,e0,e1,e2⟩:=trod_struct3 Tryz.underlying349 hx;simp only [DataW.agg.injEq,List.cons.injEq,and_true] at hxd;obtain ⟨hy0,hy1,hy2⟩:=hxd;rw [cU] at e0;rw [cI'] at e1 e2;obtain ⟨k0,a0,b0,_⟩:=DataW.trod_int Tryz.underlying97 e0;obtain ⟨k1,a1,b1,_⟩:=DataW.trod_int Tryz.underlying3 e1;obtain ⟨k2,a2,b2,_⟩:=DataW.trod_int Tryz.underlying3 e2;rw [b0] at hy0;rw [b1] at hy1;rw [b2] at hy2;simp only [DataW.lit.injEq,Lit.int.injEq,true_and] at hy0 hy1 hy2;subst hy0 hy1 hy2;exact ⟨at_of_cut (b:=0) a0,at_of_cut (b:=1) a1,at_of_cut (b:=2) a2⟩
 have hxm:xs.map (·.1)=[.agg [.lit (.int .u64 0),.lit (.int .i64 1),.lit (.int .i64 0)],.agg [.lit (.int .u64 2),.lit (.int .i64 2),.lit (.int .i64 7)],.agg [.lit (.int .u64 6),.lit (.int .i64 3),.lit (.int .i64 12)],.agg [.lit (.int .u64 14),.lit (.int .i64 4),.lit (.int .i64 32)],.agg [.lit (.int .u64 15),.lit (.int .i64 4),.lit (.int .i64 64)]]:=by
  have:=hx1.1;unfold Rows.laid_tsblock_times_forms at this;simp only [DataW.agg.injEq] at this;exact this.symm
 have hat:∀ i:Nat,(xs[i]?).map (·.1)=(xs.map (·.1))[i]?:=fun i=>(List.getElem?_map ..).symm
 obtain ⟨a0,a1,a2⟩:=each 0 (by omega) 0 1 0 (by rw [hat,hxm];rfl);obtain ⟨a3,a4,a5⟩:=each 1 (by omega) 2 2 7 (by rw [hat,hxm];rfl);obtain ⟨a6,a7,a8⟩:=each 2 (by omega) 6 3 12 (by rw [hat,hxm];rfl);obtain ⟨a9,a10,a11⟩:=each 3 (by omega) 14 4 32 (by rw [hat,hxm];rfl);obtain ⟨a12,a13,a14⟩:=each 4 (by omega) 15 4 64 (by rw [hat,hxm];rfl);have hcells:cs1.toList=formCells:=by
  rw [c84] at hlen;refine List.ext_getElem (by rw [hlen];rfl) fun j hj hj'=>?_
  have h1:=List.getElem?_eq_getElem hj;have h2:=List.getElem?_eq_getElem hj';have:cs1.toList[j]? = formCells[j]?:=by
   have:j=0∨j=1∨j=2∨j=3∨j=4∨j=5∨j=6∨j=7∨j=8∨j=9∨j=10∨j=11∨j=12∨j=13∨j=14:=by omega
   rcases this with rfl | rfl | rfl | rfl | rfl | rfl | rfl | rfl | rfl | rfl | rfl | rfl | rfl | rfl | rfl
   all_goals first | exact a0 | exact a1 | exact a2 | exact a3 | exact a4 | exact a5 | exact a6 | exact a7 | exact a8 | exact a9 | exact a10 | exact a11 | exact a12 | exact a13 | exact a14
  rw [h1,h2] at this;exact Option.some.inj this
 have hF:∀ (k:Nat) v,formCells[k]? = some v→W.cell? ⟨0,k,none⟩=some v:=by
  intro k v hv;have:=World.var?_cell gForms hv1 k;rw [this,← hcells] at *;simpa using hv
 have hD:∀ (k:Nat) v,(cN .u8 deB)[k]? = some v→W.cell? ⟨2,k,none⟩=some v:=by
  intro k v hv;obtain ⟨hk,hv⟩:=List.getElem?_eq_some_iff.1 hv;have hk':k < (deB.map fun x:Nat=>(x:Int)).length:=by simpa [cN] using hk
  rw [hT.cell gDeb k hk',← hv];simp [cN,List.getD];rw [List.getElem?_eq_getElem (by simpa using hk')];rfl
 have hC:∀ (k:Nat) v,(cN .u32 ctab)[k]? = some v→W.cell? ⟨1,k,none⟩=some v:=by
  obtain rfl:=Option.some.inj (gCrc.symm.trans hg2);obtain rfl:=Option.some.inj (tCrc.symm.trans ht2);have hcr:Rows.laid_tsblock_crc_table=(Lib.tabData .u32 (ctab.map fun x:Nat=>(x:Int)):DataW Unit):=rfl;rw [hcr] at hd2;have hcs:=Lib.cells_of_tab Tryz.underlying412 Tryz.underlying69 (by kernel_rfl) (by kernel_rfl) hd2;intro k v hv;rw [World.var?_cell gCrc hv2 k];rw [← Array.getElem?_toList,hcs];simpa [cN] using hv
 have hl0:=hF 0 _ rfl;have hl1:=hD 0 _ rfl;have hl2:=hC 0 _ rfl;have lt:∀ {g:Nat} {v:Value},W.cell? ⟨g,0,none⟩=some v→g < W.heap.size:=by
  intro g v hv;simp only [World.cell?] at hv;cases hb:W.heap[g]? with
  | none=>rw [hb] at hv;simp at hv
  | some o=>exact (Array.getElem?_eq_some_iff.1 hb).1
 exact ⟨hF,hD,hC,by have:=lt hl0;have:=lt hl1;have:=lt hl2;omega⟩
theorem door_met (os:Os) (args:Array Value):laidMetH Tryz.prog laid3 ((World.doorLaid Tryz.prog 400 os).forCall (fun _ _=>0) ⟨#[],args,[]⟩).memory :=
 laidMetH_of_parts3 (fuel:=8) (laidMet_of_run' 8 (by kernel_rfl) (by kernel_rfl)) (by kernel_rfl) (by kernel_rfl)
end
section
open Go Go.RowKit
def IsRow (k:IntKind) (w:World) (a:Option Addr) (len cap:Nat) (zs:List Int):Prop :=
 (a=none∧len=0∧cap=0∧zs=[]) ∨
 ∃ x,a=some x∧len≤cap∧cap≤maxLen∧zs.length=cap∧(∀ i,i < zs.length→w.cell? (x.add i)=some (.int k (zs.getD i 0)))∧∀ n∈zs,(Lit.int k n).wf=true
theorem nats_of (zs:List Int) (h:∀ z∈zs,0≤z):∃ xs:List Nat,zs=xs.map (fun x:Nat=>(x:Int)):=by
 induction zs with
 | nil=>exact ⟨[],rfl⟩
 | cons z zs ih =>
  obtain ⟨xs,rfl⟩:=ih fun y hy=>h y (by simp [hy])
  have:=h z (by simp);exact ⟨z.toNat::xs,by simp;omega⟩
structure InRow (k:IntKind) (w:World) (b:Nat) (A:Option Addr) (n c:Nat) (xs:List Nat):Prop where
 rd:Rd w b A (cN k xs)
 len:n=xs.length
 wf:∀ x∈xs,(Lit.int k (x:Int)).wf=true
 nil:A=none→c=0
 cap:n≤c
 lt:xs≠[]→b < w.heap.size
 max:c≤9223372036854775807
theorem InRow.of {k:IntKind} {w:World} {a:Option Addr} {len cap:Nat} {zs:List Int} (h:IsRow k w a len cap zs) (hk:∀ z:Int,(Lit.int k z).wf=true→0≤z):∃ b xs,InRow k w b a len cap xs:=by
 rcases h with ⟨rfl,rfl,rfl,rfl⟩ | ⟨x,rfl,hl,hm,hz,hc,hw⟩
 ·exact ⟨0,[],Rd.nil _ _ _,rfl,by simp,fun _=>rfl,Nat.le_refl _,by simp,by omega⟩
 ·obtain ⟨xs,rfl⟩:=nats_of zs fun z hz=>hk z (hw z hz)
  rw [List.length_map] at hz;have hlen:len=(xs.take len).length:=by rw [List.length_take];omega
  refine ⟨x.block,xs.take len,?_,hlen,?_,by simp,hl,?_,by unfold maxLen at hm;exact hm⟩
  ·by_cases h0:len=0
   ·subst h0;simp [cN];exact Rd.nil _ _ _
   ·have h1:=hc 0 (by rw [List.length_map];omega);obtain ⟨b,off,spot⟩:=x;have hspot:spot=none:=by simpa [Addr.add] using World.cell?_spot h1
    subst hspot;refine .inr ⟨off,rfl,?_,fun j u hu=>?_⟩
    ·have:w.cell? (⟨b,off,none⟩:Addr)≠none:=by rw [add_lit'] at h1;rw [show off=off+0 from rfl,h1];simp
     simp only [World.cell?] at this;cases hb:w.heap[b]? with
     | none=>rw [hb] at this;simp at this
     | some o=>exact (Array.getElem?_eq_some_iff.1 hb).1
    ·rw [List.getElem?_map,List.getElem?_take] at hu;split at hu
     ·rename_i hj
      have hjx:j < xs.length:=by omega
      rw [List.getElem?_eq_getElem hjx] at hu;have hcj:=hc j (by rw [List.length_map];exact hjx);rw [add_lit'] at hcj;rw [hcj];simp at hu;rw [← hu,List.getD_eq_getElem?_getD,List.getElem?_map,List.getElem?_eq_getElem hjx];rfl
     ·simp at hu
  ·intro y hy;exact hw _ (List.mem_map.2 ⟨y,List.mem_of_mem_take hy,rfl⟩)
  ·intro hne;have hpos:0 < xs.length:=by
    rcases Nat.eq_zero_or_pos xs.length with h | h
    ·exact absurd (by rw [List.eq_nil_of_length_eq_zero h];simp) hne
    ·exact h
   have h1:=hc 0 (by rw [List.length_map];omega);obtain ⟨b,off,spot⟩:=x;have hspot:spot=none:=by simpa [Addr.add] using World.cell?_spot h1
   subst hspot;have:w.cell? (⟨b,off,none⟩:Addr)≠none:=by rw [add_lit'] at h1;rw [show off=off+0 from rfl,h1];simp
   simp only [World.cell?] at this;cases hb:w.heap[b]? with
   | none=>rw [hb] at this;simp at this
   | some o=>exact (Array.getElem?_eq_some_iff.1 hb).1
theorem InRow.u8 {w:World} {a:Option Addr} {len cap:Nat} {zs:List Int} (h:IsRow .u8 w a len cap zs):∃ b xs,InRow .u8 w b a len cap xs∧∀ x∈xs,x < 256:=by
 obtain ⟨b,xs,h⟩:=InRow.of h fun z hz=>(bounds_u8 hz).1
 exact ⟨b,xs,h,fun x hx=>by have:=(bounds_u8 (h.wf x hx)).2;omega⟩
end
section
open Go Go.RowKit Go.Shelf
def KpB (k:Nat) (A B:World):Prop:=B.heap[k]? = A.heap[k]?∧A.heap.size≤B.heap.size
theorem KpB.trans {k:Nat} {A B C:World} (h:KpB k A B) (h':KpB k B C):KpB k A C:=⟨h'.1.trans h.1,Nat.le_trans h.2 h'.2⟩
theorem kp_putObj (W:World) (l:Nat) (o:Obj):Kp l l W (W.putObj l o):=⟨rfl,rfl,rfl,by simp,fun k _ hk _=>World.putObj_heap_other hk⟩
def SeqW {α:Type} (F:Fence) (n:Nat) (P:Program) (g:Nat) (lb:Array Value) (encs:α→Array Value) (Bx:Nat) (S:List α→Prop) (N:Nat) (w:World):Prop :=
 ∀ (l:Nat) (J:List α→World→Prop) (W:World),Nw w W→(∀ s A B,J s A→Kp Bx Bx A B→J s B) →
  (∀ pre x A,J pre A→pre.length < N→YieldAt F (n - 1) P l (encs x) A fun e B=>e=.returned (.bool true)∧J (pre++[x]) B∧KpB Bx A B) →
  J [] W→CallsIn F n P g (#[.func (.yield l) #[] #[]]++lb) W fun e B=>(∃ v,e=.returned v)∧∃ xs,S xs∧J xs B
def rfPost {α:Type} (B Bx:Nat) (I:List α→World→Prop) (xs:List α) (W:World):Exit→Act→World→Prop
 | .normal,_,W'=>KeepsFrom B W W'∧KpB Bx W W'∧I xs W'
 | _,_,_=>False
def Bides {α:Type} (N0 Bx:Nat) (I:List α→World→Prop):Prop :=
 ∀ s A B k,I s A→Kp k k A B→(k=Bx∨(N0≤k∧∃ o,A.heap[k]? = some o∧o.isCells=false))→I s B
variable {F:Fence} {n:Nat} {P:Program}
theorem rf_law {α:Type} {g:Operand} {ps:Array Tmp} {assign body:Code} {Q:Exit→Act→World→Prop} {a:Act} {w:World}
  (hro:F.round=none) (h1:1≤n) {gf:Nat} {lb:Array Value} (hg:a.eval g=.func (.func gf) #[] lb) (hFg:F.fn gf) (eg:∀ args w,(callFunc gf args).run P w=.ok (.enter gf args) w)
  {encs:α→Array Value} {Bx:Nat} {S:List α→Prop} {N:Nat} (hBx:Bx < w.heap.size) (hseq:SeqW F (n - 1) P gf lb encs Bx S N w) (hps:∀ x,(encs x).size=ps.size)
  (I:List α→World→Prop) (hI:Bides w.heap.size Bx I) (h0:I [] w) (a₁:α→Act)
  (hassign:∀ (l:Nat) (x:α) (W:World) (K:Act→World→Prop),K (a₁ x) W →
   assign.wpIn (F.inRound l) (n - 1 - 1) P (Exit.then K (fun _ _ _=>False)) { tmps:=(ps.zip (encs x)).foldl (fun t (p,v)=>t.setIfInBounds p v) a.tmps,defers:=[] } W)
  (hbody:∀ (l:Nat) (pre:List α) (x:α) (W:World),I pre W→pre.length < N→body.wpIn (F.inRound l) (n - 1 - 1) P (rfPost w.heap.size Bx I (pre++[x]) W) (a₁ x) W)
  (hdone:∀ (D:Nat) (xs:List α) (W:World),w.heap.size≤D→S xs→I xs W→W.heap[D]? = some (.deferred (some []))→Q .normal { a with defers:={ target:=.collected D,args:=#[] }::a.defers } W) :
  (Code.rangeFunc g ps assign body).wpIn F n P Q a w:=by
 refine wpIn_rangeFunc fun fn hfn=>?_
 rw [hro];obtain ⟨rc,hrc⟩:∃ rc:LoopState→Option Code→Loop,rc=fun st pe=>{ state:=st,pending:=pe,fn,tmps:=a.tmps,params:=ps,assign,body,defers:=w.heap.size }:=⟨_,rfl⟩
 obtain ⟨L,hL⟩:∃ L,L=w.heap.size+1:=⟨_,rfl⟩;obtain ⟨W1,hW1⟩:∃ W1,(w.alloc (.deferred (some []))).alloc (.loop (rc .ready none))=W1:=⟨_,rfl⟩;have hN1:Nw w W1:=by rw [← hW1];exact ((Nw.refl w).alloc' _).alloc' _
 have hl1:W1.heap[L]? = some (.loop (rc .ready none)):=by
  have:=heap_alloc_new (w.alloc (.deferred (some []))) (.loop (rc .ready none));rw [World.size_alloc,← hL,hW1] at this;exact this
 have hd1:W1.heap[w.heap.size]? = some (.deferred (some [])):=by
  rw [← hW1];exact (heap_alloc_old _ _ (by simp)).trans (heap_alloc_new w _)
 have turn:∀ (s:List α) (A:World) (r r':Loop),I s A→A.heap[L]? = some (.loop r)→I s (A.putObj L (.loop r')):=fun s A r r' hi hl =>
  hI s A _ L hi (kp_putObj A L _) (.inr ⟨by omega,_,hl,rfl⟩)
 have other:∀ (A:World) (r':Loop),A.heap[w.heap.size]? = some (.deferred (some []))→(A.putObj L (.loop r')).heap[w.heap.size]? = some (.deferred (some [])):=fun A r' hd =>
  (World.putObj_heap_other (by omega)).trans hd
 have kb:∀ (A:World) (r':Loop),KpB Bx A (A.putObj L (.loop r')):=fun A r'=>⟨World.putObj_heap_other (by omega),(kp_putObj A L (.loop r')).size⟩
 have i1:I [] W1:=by
  rw [← hW1];have k1:Kp Bx Bx w (w.alloc (.deferred (some []))):=(Kp.refl _ _ _).alloc' _;have k2:Kp Bx Bx (w.alloc (.deferred (some []))) ((w.alloc (.deferred (some []))).alloc (.loop (rc .ready none))):=(Kp.refl _ _ _).alloc' _;exact hI _ _ _ Bx (hI _ _ _ Bx h0 k1 (.inl rfl)) k2 (.inl rfl)
 refine ⟨L,[{ target:=.collected w.heap.size,args:=#[] }],W1,{ target:=.fn (.func gf) lb,args:=#[.func (.yield L) #[] #[]] },W1,gf,#[.func (.yield L) #[] #[]]++lb,W1,?_,?_,?_,?_,fun _=>h1,?_⟩
 ·rw [← hW1,hrc,hL];exact run_enterLoop_outer _ _ _ _ _
 ·simp only [resolve,hg];simp [go_sem]
 ·intro f' hf';simp [Target.leads] at hf';subst hf';exact hFg
 ·simp [invoke,go_sem,eg]
 ·refine (hseq L (fun pre W=>I pre W∧W.heap[L]? = some (.loop (rc .ready none))∧W.heap[w.heap.size]? = some (.deferred (some []))) W1 hN1 ?_ ?_ ⟨i1,hl1,hd1⟩).mono ?_
  ·rintro s A B ⟨hi,hl,hd⟩ hk;exact ⟨hI s A B Bx hi hk (.inl rfl),(hk.block L (lt_of_block hl) (by omega) (by omega)).trans hl,(hk.block _ (lt_of_block hd) (by omega) (by omega)).trans hd⟩
  ·rintro pre x W ⟨hi,hl,hd⟩ hlen;have hy:=run_yield (P:=P) (args:=encs x) hl (by rw [hrc];exact hps x);rw [hrc] at hy;refine ⟨fn,_,assign,body,hy,roundIn_of_wpIn hfn (hassign _ x W _ ⟨_,run_beginRound hl (by rw [hrc]),?_⟩)⟩;have hl2:(W.putObj L (.loop { rc .ready none with state:=.busy })).heap[L]? = some (.loop { rc .ready none with state:=.busy }):=World.putObj_heap_same (lt_of_block hl);refine wpIn_mono (hbody _ pre x _ (turn _ _ _ _ hi hl) hlen) ?_;rintro e a3 W3 hp;cases e with
   | normal =>
    obtain ⟨k3,b3,i3⟩:=hp;have hl3:=k3.same _ _ (by omega) hl2 rfl;have hd3:=k3.same _ _ (Nat.le_refl _) (other W { rc .ready none with state:=.busy } hd) rfl;have hr:=run_endRound (P:=P) none hl3;rw [hrc] at hr;refine ⟨_,_,hr,rfl,⟨turn _ _ _ _ i3 hl3,?_,other _ _ hd3⟩,((kb W _).trans b3).trans (kb W3 _)⟩;rw [World.putObj_heap_same (lt_of_block hl3),hrc];rfl
   | _=>exact hp.elim
  ·rintro e W2 ⟨⟨v,rfl⟩,xs,hS,hi,hl,hd⟩;have he:=run_endLoop (P:=P) hl (by rw [hrc];simp);rw [hrc] at he;exact ⟨none,_,he,hdone _ xs _ (Nat.le_refl _) hS (turn _ _ _ _ hi hl) (other _ _ hd)⟩
theorem Ow.own {w w':World} {b:Nat} {e:TypeId} {size n c:Nat} {A:Option Addr} {xs:List Value} {row:Option Nat} (hO:Ow w b e size A n c xs) (hg:w.grownBy w' row) (hr:∀ r,row=some r→∃ o:Obj,w.heap[r]? = some o∧o.isCells=false):Ow w' b e size A n c xs:=by
 rcases hO with ⟨rfl,h1,h2,h4⟩ | ⟨rfl,hlt2,hO⟩
 ·exact .inl ⟨rfl,h1,h2,h4⟩
 ·refine .inr ⟨rfl,Nat.lt_of_lt_of_le hlt2 hg.size,hO.1,?_⟩;rcases hO.2 with ⟨hv,_⟩ | ⟨g0,cap,cur,hv,hbg,hh,r⟩
  ·cases hv
  ·have hg0:b=g0:=by injection hv with x;injection x with x;injection x
   subst hg0;refine .inr ⟨b,cap,cur,hv,hbg,(hg.block b hlt2 ?_).trans hh,r⟩;intro e;obtain ⟨o,h1,h2⟩:=hr _ e.symm;rw [hh] at h1;cases h1;cases h2
theorem Ow.blk {w:World} {b:Nat} {e:TypeId} {size n c:Nat} {p:Addr} {xs:List Value} (h:Ow w b e size (some p) n c xs):∃ cs fr,w.heap[b]? = some (.cells cs e fr):=by
 rcases h with ⟨h,_⟩ | ⟨h,_,hO⟩
 ·cases h
 ·rcases hO.2 with ⟨hv,_⟩ | ⟨g0,cap,cur,hv,hbg,hh,r⟩
  ·cases hv
  ·injection h with h
   subst h;have hg0:b=g0:=by injection hv with x;injection x with x;injection x
   subst hg0;exact ⟨_,_,hh⟩
theorem wpListIn_lies {F:Fence} {n:Nat} {P:Program} (w:World) {ops:Array Oper} {rest:List Oper} {o:Oper} {a:Act} {Q:Exit→Act→World→Prop}
  (hg:o.guard=none) (s x:Operand) (t:TypeId) (hop:o.op=Op.call { callee:=Callee.builtin Builtin.append,args:=#[s,x],argTypes:=#[t,t] })
  (base:Nat) (e:TypeId) (i:TypeInfo) (z:Value) (size bytes:Nat) (h1:P.underlying t=some (.slice e)) (h2:P.info? e=some i) (h3:i.zero=some z) (h4:i.size=size) (h5:i.bytes=bytes) (h6:z.cells.size=size) (h7:0 < size)
  (v:Value) (k:Nat) (xs:List Value) (hs:a.eval s=v) (hown:w.ownsRow base e size v k xs) (ad:Addr) (m c:Nat) (news:List Value) (hx:a.eval x=.slice (some ad) m c) (hn:news.length=m*size)
  (hc:∀ j u,news[j]? = some u→w.cell? (ad.add j)=some u) (h1c:∀ u∈news,u.oneCell'=true) (hm:0 < m) (b1:k+m≤maxLen) (b2:(k+m)*bytes≤140737488355328) (b3:base≤w.heap.size)
  (hK:∀ g cap w',w'.ownsRow base e size (.slice (some ⟨g,0,none⟩) (k+m) cap) (k+m) (xs++news)→w.grownBy w' v.ownBlock→(v.ownBlock=some g∨g=w.heap.size)→g < w'.heap.size→wpListIn F n P ops Q rest (a.put o.dst (.slice (some ⟨g,0,none⟩) (k+m) cap)) w') :
  wpListIn F n P ops Q (o::rest) a w:=by
 refine wpListIn_plain hg fun K hK'=>?_
 obtain ⟨g,cap,w',hrun,r1,r2,r3,r4⟩:=run_append_lies (P:=P) w t o.type base e i z size bytes h1 h2 h3 h4 h5 h6 h7 v k xs hown ad m c news hn hc h1c hm b1 b2 b3 _ rfl;unfold Oper.wpIn;refine ⟨?_,?_⟩
 ·simp [Oper.about,hop,resolve,Target.leads,Sem.run_pure]
 ·rw [Oper.semAt_plain F _ _ (by rw [hop];intro c hc';cases hc')];simp [execOp,hop,resolve,invoke,builtin,hs,hx,hrun,Result.andThen];exact hK' _ _ (hK g cap w' r1 r2 r3 r4)
theorem Ow.ownBlock {w:World} {b:Nat} {e:TypeId} {size n c:Nat} {A:Option Addr} {xs:List Value} (h:Ow w b e size A n c xs):∀ r,(Value.slice A n c).ownBlock=some r→r=b∧A≠none:=by
 intro r hr;rcases h with ⟨rfl,_⟩ | ⟨rfl,_⟩
 ·simp [Value.ownBlock] at hr
 ·simp [Value.ownBlock] at hr;exact ⟨hr.symm,by simp⟩
theorem wpListIn_app1 {F:Fence} {k:Nat} {P:Program} {w:World} {b:Nat} {e:TypeId} {n c:Nat} {A:Option Addr} {xs:List Value} {ops:Array Oper} {rest:List Oper} {o:Oper} {a:Act} {Q:Exit→Act→World→Prop} {t:TypeId} {z:Value} {bytes:Nat} (E:ElemT P t e z 1 bytes) (hgd:o.guard=none) (s x:Operand)
  (ho:o.op=.call { callee:=.builtin .append,args:=#[s,x],argTypes:=#[t,t] })
  (hs:a.eval s=.slice A n c) (hown:Ow w b e 1 A n c xs) {u:Value} (hx:a.eval x=.slice (some ⟨w.heap.size,0,none⟩) 1 1) (h1:u.oneCell'=true)
  (hbytes:(n+1)*bytes≤140737488355328) (hby0:0 < bytes)
  (h:∀ g c' w',Ow w' g e 1 (some ⟨g,0,none⟩) (n+1) c' (xs++[u])→(g=b∧A≠none∨w.heap.size < g)→Kp b b w w'→(A=none→Nw w w')→wpListIn F k P ops Q rest (a.put o.dst (.slice (some ⟨g,0,none⟩) (n+1) c')) w') :
  wpListIn F k P ops Q (o::rest) a (w.alloc (.cells #[u] e)):=by
 obtain ⟨i,hi,hz,hsz,hby⟩:=E.info;have hn:n+1≤140737488355328:=Nat.le_trans (Nat.le_mul_of_pos_right _ hby0) hbytes;have hnw:Nw w (w.alloc (.cells #[u] e)):=Nw.alloc' (Nw.refl w) _;refine wpListIn_lies _ hgd s x t ho 0 e i z 1 bytes E.und hi hz hsz hby E.cells (by omega) _ n xs hs (hown.nw hnw).row ⟨w.heap.size,0,none⟩ 1 1 [u] hx rfl (cell_one_new w _ _) (by intro v hv;simp at hv;subst hv;exact h1) (by omega) (by simp only [maxLen];omega) hbytes (Nat.zero_le _) ?_;intro g cap w2 r1 r2 r3 r4;refine h g cap w2 (.inr ⟨rfl,r4,r1⟩) ?_ ((hnw.kp b b).grown r2 (fun k e=>.inl (hown.ownBlock k e).1)) (fun e=>hnw.grown' r2 (fun k e'=>((hown.ownBlock k e').2 e).elim));rcases r3 with e' | e'
 ·exact .inl (hown.ownBlock g e')
 ·right;rw [e'];simp
end
section
open Go Go.RowKit Go.Shelf
variable {F:Fence} {n:Nat} {P:Program}
def KtyL (T:List TypeId) (W W':World):Prop:=(∀ (k:Nat) (o:Obj),W.heap[k]? = some o→(∀ cs e fr,e∈T→o≠.cells cs e fr)→W'.heap[k]? = some o)∧W.heap.size≤W'.heap.size
theorem KtyL.trans {T:List TypeId} {A B C:World} (h:KtyL T A B) (h':KtyL T B C):KtyL T A C:=⟨fun k o ho hne=>h'.1 k o (h.1 k o ho hne) hne,Nat.le_trans h.2 h'.2⟩
theorem KtyL.refl (T:List TypeId) (A:World):KtyL T A A:=⟨fun _ _ h _=>h,Nat.le_refl _⟩
theorem KtyL.nw {T:List TypeId} {A B:World} (h:Nw A B):KtyL T A B:=⟨fun k _ ho _=>(h.block k (lt_of_block ho)).trans ho,h.size⟩
theorem KtyL.get {T:List TypeId} {A B:World} (h:KtyL T A B) {k:Nat} {cs:Array Value} {e:TypeId} {fr:Nat × Nat} (hk:A.heap[k]? = some (.cells cs e fr)) (he:e ∉ T):B.heap[k]? = some (.cells cs e fr) :=
 h.1 k _ hk (fun _ _ _ hm q=>by cases q;exact he hm)
end
section
def vint (x:Nat):List Nat:=if x < 128 then [x] else (x % 128+128)::vint (x / 128)
termination_by x
decreasing_by omega
theorem vint_small {x:Nat} (h:x < 128):vint x=[x]:=by rw [vint,if_pos h]
theorem vint_big {x:Nat} (h:128≤x):vint x=(x % 128+128)::vint (x / 128):=by rw [vint,if_neg (by omega)]
theorem vint_byte:∀ (n x:Nat),x≤n→∀ c∈vint x,c < 256:=by
 intro n;induction n with
 | zero=>intro x hx c hc;rw [vint_small (by omega)] at hc;simp at hc;omega
 | succ n ih =>
  intro x hx c hc;by_cases h:x < 128
  ·rw [vint_small h] at hc;simp at hc;omega
  ·rw [vint_big (by omega)] at hc;rcases List.mem_cons.1 hc with rfl | hc
   ·omega
   ·exact ih (x / 128) (by omega) c hc
theorem vint_lt (x:Nat):∀ c∈vint x,c < 256:=vint_byte x x (Nat.le_refl _)
theorem vint_pos (x:Nat):1≤(vint x).length:=by
 by_cases h:x < 128
 ·rw [vint_small h];simp
 ·rw [vint_big (by omega)];simp
theorem vint_len_aux:∀ (n x:Nat),x < 128 ^ (n+1)→(vint x).length≤n+1:=by
 intro n;induction n with
 | zero=>intro x hx;rw [vint_small (by simpa using hx)];simp
 | succ n ih =>
  intro x hx;by_cases h:x < 128
  ·rw [vint_small h];simp
  ·rw [vint_big (by omega),List.length_cons];have:=ih (x / 128) (by rw [Nat.pow_succ] at hx;exact Nat.div_lt_of_lt_mul (by rw [Nat.mul_comm];exact hx));omega
theorem vint_len (x:Nat) (h:x < 18446744073709551616):(vint x).length≤10:=vint_len_aux 9 x (by omega)
def vgetA:Nat→Nat→List Nat→Except Nat (Nat × List Nat)
 | _,_,[]=>.error 3
 | i,acc,c::r =>
  if i=9∧1 < c then .error 6
  else if c=0∧0 < i then .error 5
  else if c < 128 then .ok (acc+c % 128*128 ^ i,r)
  else vgetA (i+1) (acc+c % 128*128 ^ i) r
def vget0 (l:List Nat):Except Nat (Nat × List Nat):=vgetA 0 0 l
theorem vgetA_vint (r:List Nat):∀ (n x i acc:Nat),i+n=9→x < 2*128 ^ n→(i=0∨0 < x)→vgetA i acc (vint x++r)=.ok (acc+x*128 ^ i,r):=by
 intro n;induction n with
 | zero =>
  intro x i acc hi hx h0;have hx':x < 2:=by simpa using hx
  rw [vint_small (by omega),List.singleton_append,vgetA,if_neg (by omega),if_neg (by omega),if_pos (by omega),Nat.mod_eq_of_lt (by omega)]
 | succ n ih =>
  intro x i acc hi hx h0;by_cases h:x < 128
  ·rw [vint_small h,List.singleton_append,vgetA,if_neg (by omega),if_neg (by omega),if_pos h,Nat.mod_eq_of_lt h]
  ·rw [vint_big (by omega),List.cons_append,vgetA,if_neg (by omega),if_neg (by omega),if_neg (by omega)];rw [ih (x / 128) (i+1) _ (by omega) (by rw [Nat.pow_succ] at hx;omega) (.inr (by omega))];rw [show (x % 128+128) % 128=x % 128 by omega,Nat.pow_succ];have e:x / 128*(128 ^ i*128)=(128*(x / 128))*128 ^ i:=by
    rw [Nat.mul_comm (128 ^ i) 128,← Nat.mul_assoc,Nat.mul_comm (x / 128) 128]
   rw [e,Nat.add_assoc,← Nat.add_mul,show x % 128+128*(x / 128)=x from by omega]
theorem vget_vint (x:Nat) (h:x < 18446744073709551616) (r:List Nat):vget0 (vint x++r)=.ok (x,r):=by
 unfold vget0;rw [vgetA_vint r 9 x 0 0 (by omega) (by omega) (.inl rfl)];simp
theorem vgetA_inv:∀ (l:List Nat) (i acc x:Nat) (r:List Nat),i≤9→(∀ c∈l,c < 256)→vgetA i acc l=.ok (x,r)→∃ y,x=acc+y*128 ^ i∧l=vint y++r∧(i=0∨0 < y)∧y < 2*128 ^ (9 - i):=by
 intro l;induction l with
 | nil=>intro i acc x r _ _ h;simp [vgetA] at h
 | cons c l ih =>
  intro i acc x r hi hb h;have hc:=hb c (List.mem_cons_self ..);rw [vgetA] at h;by_cases h1:i=9∧1 < c
  ·rw [if_pos h1] at h;cases h
  ·rw [if_neg h1] at h;by_cases h2:c=0∧0 < i
   ·rw [if_pos h2] at h;cases h
   ·rw [if_neg h2] at h;by_cases h3:c < 128
    ·rw [if_pos h3] at h;injection h with h
     injection h with e1 e2
     refine ⟨c,by rw [← e1,Nat.mod_eq_of_lt h3],by rw [vint_small h3,e2];rfl,by omega,?_⟩;by_cases h9:i=9
     ·subst h9;simp;omega
     ·have:128 ^ 1≤128 ^ (9 - i):=Nat.pow_le_pow_right (by omega) (by omega);omega
    ·rw [if_neg h3] at h;have hi9:i≠9:=by omega
     obtain ⟨y,e1,e2,e3,e4⟩:=ih (i+1) _ x r (by omega) (fun d hd=>hb d (List.mem_cons_of_mem _ hd)) h;have hy:0 < y:=by omega
     have hd:(c % 128+128*y) / 128=y:=by omega
     have hm:(c % 128+128*y) % 128=c % 128:=by omega
     refine ⟨c % 128+128*y,?_,?_,.inr (by omega),?_⟩
     ·rw [e1,Nat.pow_succ,Nat.add_mul,Nat.add_assoc];congr 2
      rw [Nat.mul_comm (128 ^ i) 128,← Nat.mul_assoc,Nat.mul_comm y 128]
     ·rw [vint_big (by omega),hd,hm,e2,show c % 128+128=c by omega];rfl
     ·rw [show 9 - i=(9 - (i+1))+1 by omega,Nat.pow_succ];omega
theorem varget_inv {l:List Nat} {x:Nat} {r:List Nat} (hb:∀ c∈l,c < 256) (h:vget0 l=.ok (x,r)):l=vint x++r∧x < 18446744073709551616:=by
 obtain ⟨y,e1,e2,_,e4⟩:=vgetA_inv l 0 0 x r (by omega) hb h;simp at e1;subst e1;exact ⟨e2,by simpa using e4⟩
end
section
open Go Go.RowKit Go.Shelf
attribute [local go_sem] Oper.semAt_some
abbrev Grp:={ y:Nat × Bool // y.1 < 128 }
def grp (x:Nat):List Grp:=if h:x < 128 then [⟨(x,true),h⟩] else ⟨(x % 128,false),by show x % 128 < 128;omega⟩::grp (x / 128)
termination_by x
decreasing_by omega
theorem grp_small {x:Nat} (h:x < 128):grp x=[⟨(x,true),h⟩]:=by rw [grp,dif_pos h]
theorem grp_big {x:Nat} (h:128≤x):grp x=⟨(x % 128,false),by show x % 128 < 128;omega⟩::grp (x / 128):=by rw [grp,dif_neg (by omega)]
theorem groups_any (w:World) (x:Int):Calls Tryz.prog 236 #[.int .u64 x] w fun e w'=>e=.returned (.func (.func 286) #[] #[.pointer (some ⟨w.heap.size,0,none⟩)])∧w'=w.alloc (.cells #[.int .u64 x] 97):=by
 go_enter Tryz.func236,Tryz.ntmps236
 go_wp2;go_ret;exact ⟨rfl,rfl⟩
def numAt (w:World) (B:Nat):Nat:=match w.cell? ⟨B,0,none⟩ with | some (.int _ v)=>v.toNat | _=>0
theorem numAt_of {w:World} {B y:Nat} {t:TypeId} {k:IntKind} (h:w.heap[B]? = some (.cells #[.int k (y:Int)] t (0,0))):numAt w B=y:=by
 have hc:w.cell? ⟨B,0,none⟩=some (.int k (y:Int)):=by simp [World.cell?,h]
 unfold numAt;rw [hc];simp
theorem box_set {w:World} {B:Nat} {u v:Value} {t:TypeId} (h:w.heap[B]? = some (.cells #[u] t (0,0))):(w.setCell ⟨B,0,none⟩ v).heap[B]? = some (.cells #[v] t (0,0)):=by
 simp [World.setCell,Array.getElem?_modify,h]
set_option maxRecDepth 100000 in
theorem groups_stops (n:Nat) (hn:1≤n) (w:World) (B x:Nat) (hx:x < 18446744073709551616) (hB:w.heap[B]? = some (.cells #[.int .u64 (x:Int)] 97 (0,0))) :
  SeqW Fence.wide n Tryz.prog 286 #[.pointer (some ⟨B,0,none⟩)] (fun y:Grp=>#[.int .u8 (y.1.1:Int),.bool y.1.2]) B (fun xs=>xs=grp x) (grp x).length w:=by
 intro lp J W hW hJ hY h0;have hBW:=(hW.block B (lt_of_block hB)).trans hB;have HY:=hid hY;have HJ:=hid hJ;clear hB hY hJ;refine callsIn_of_wp Tryz.func286 rfl trivial ?_ rfl;simp only [Tryz.ntmps286,List.size_toArray,List.length_cons,List.length_nil,Nat.reduceAdd,Nat.reduceSub,Array.replicate_succ,Array.replicate_zero,List.push_toArray,List.append_toArray,List.nil_append,List.cons_append]
 gi_wp2
 gi_loopw [] (fun wr=>∃ (pre:List Grp) (y:Nat),y < 18446744073709551616∧Hid (grp x=pre++grp y)∧Hid (J pre wr)∧Hid (wr.heap[B]? = some (.cells #[.int .u64 (y:Int)] 97 (0,0)))) (fun wr=>numAt wr B)
 case atStart=>exact ⟨[],x,hx,hid rfl,hid h0,hid hBW⟩
 case round =>
  obtain ⟨pre,y,hy,HG,HJp,HB⟩:=hrel;have hc:wr.cell? ⟨B,0,none⟩=some (.int .u64 (y:Int)):=by simp [World.cell?,HB.out]
  by_cases hlt:128≤y
  ·have hG:=HG.out;rw [grp_big (x:=y) hlt] at hG;have hplen:pre.length < (grp x).length:=by rw [hG];simp
   obtain ⟨fn,tmps,assign,body,hyd,hR⟩:=HY.out pre ⟨(y % 128,false),by show y % 128 < 128;omega⟩ wr HJp.out hplen;have e1:((y % 128:Nat):Int)=(y:Int) % 128:=by omega
   dsimp only at hyd;rw [e1] at hyd;have HR:=hid hR;have HG2:=hid hG;clear hR hG hplen e1
   gi_wp2
   refine HR.out.mono ?_;rintro e W3 ⟨rfl,hJ3,hk3⟩;have hB3:=hk3.1.trans HB.out;have hc3:W3.cell? ⟨B,0,none⟩=some (.int .u64 (y:Int)):=by simp [World.cell?,hB3]
   have hf3:W3.frozen? ⟨B,0,none⟩=false:=by simp [World.frozen?,hB3]
   have HJ3:=hid hJ3;have HB3:=hid hB3;clear hJ3 hk3 hB3
   gi_wp2
   have e2:(y:Int) / 128=((y / 128:Nat):Int):=by omega
   go_roundw
   case rel =>
    rw [e2];exact ⟨pre++[⟨(y % 128,false),by show y % 128 < 128;omega⟩],y / 128,by omega,hid (by rw [HG2.out];simp),hid (HJ.out _ _ _ HJ3.out ((Kp.refl B B W3).setCell' (.inl rfl) _)),hid (box_set HB3.out)⟩
   case measure=>rw [e2,numAt_of (box_set HB3.out),numAt_of HB.out];omega
  ·have hG:=HG.out;rw [grp_small (x:=y) (by omega)] at hG;have hplen:pre.length < (grp x).length:=by rw [hG];simp
   obtain ⟨fn,tmps,assign,body,hyd,hR⟩:=HY.out pre ⟨(y,true),by show y < 128;omega⟩ wr HJp.out hplen;dsimp only at hyd;have HR:=hid hR;have HG2:=hid hG;clear hR hG hplen
   gi_wp2
   refine ⟨fun _ h=>(by cases h),?_⟩
   gi_wp2
   refine HR.out.mono ?_;rintro e W3 ⟨rfl,hJ3,hk3⟩;have HJ3:=hid hJ3;clear hJ3 hk3
   gi_wp2
   go_end0
   exact ⟨⟨_,rfl⟩,_,HG2.out.symm,HJ3.out⟩
def gByte (y:Grp):Nat:=if y.1.2 then y.1.1 else y.1.1+128
theorem grp_bytes:∀ (n x:Nat),x≤n→(grp x).map gByte=vint x:=by
 intro n;induction n with
 | zero=>intro x hx;rw [grp_small (x:=x) (by omega),vint_small (by omega)];rfl
 | succ n ih =>
  intro x hx;by_cases h:x < 128
  ·rw [grp_small h,vint_small h];rfl
  ·rw [grp_big (by omega),vint_big (by omega),List.map_cons,ih (x / 128) (by omega)];rfl
theorem E_u8:ElemT Tryz.prog 22 5 (.int .u8 0) 1 1:=ElemT.mk' Tryz.underlying22 (by kernel_rfl) rfl (by omega)
def AppB (w:World) (b:Nat) (A:Option Addr) (n:Nat) (xs news:List Nat) (e:Ending) (w':World):Prop :=
 ∃ b' A' c',e=.returned (.slice A' (n+news.length) c')∧Ow w' b' 5 1 A' (n+news.length) c' (cN .u8 (xs++news))∧(b'=b∧A≠none∨w.heap.size≤b'∨A'=none)∧Kp b b w w'∧(A=none→Nw w w')
def VaI (w:World) (b n:Nat) (A:Option Addr) (xs:List Nat) (pre:List Grp) (W:World):Prop :=
 ∃ bp Ap cp,W.heap[w.heap.size]? = some (.cells #[.slice Ap (n+pre.length) cp] 22 (0,0))∧Ow W bp 5 1 Ap (n+pre.length) cp (cN .u8 (xs++pre.map gByte))∧(bp=b∧A≠none∨w.heap.size+1 < bp∨Ap=none)∧Kp b b w W∧(A=none→Nw w W)∧w.heap.size+1 < W.heap.size
theorem VaI.bides {w:World} {b n N0:Nat} {A:Option Addr} {xs:List Nat} (hN:w.heap.size+1 < N0) (hb:A≠none→b < w.heap.size):Bides N0 (w.heap.size+1) (VaI w b n A xs):=by
 rintro pre X Y k ⟨bp,Ap,cp,h1,h2,h3,h4,h5,h6⟩ hk hc;have hkw:w.heap.size+1≤k:=by rcases hc with h | ⟨h,_⟩<;>omega
 refine ⟨bp,Ap,cp,(hk.block _ (lt_of_block h1) (by omega) (by omega)).trans h1,?_,h3,h4.trans hk (.inr (.inr (by omega))) (.inr (.inr (by omega))),fun e=>Kp.nw (h5 e) hk (by omega) (by omega),Nat.lt_of_lt_of_le h6 hk.size⟩;cases Ap with
 | none =>
  rcases h2 with ⟨_,q1,q2,q3⟩ | ⟨q,_⟩
  ·exact .inl ⟨rfl,q1,q2,q3⟩
  ·cases q
 | some p =>
  have hne:bp≠k:=by
   rintro rfl;rcases h3 with ⟨rfl,h⟩ | h | h
   ·have:=hb h;omega
   ·rcases hc with h' | ⟨_,o,ho,hoc⟩
    ·omega
    ·obtain ⟨cs,fr,hcs⟩:=h2.blk;rw [hcs] at ho;cases ho;cases hoc
   ·cases h
  exact h2.kp hk hne hne
theorem or128:∀ y:Fin 128,bits .or .u8 (y.val:Int) 128=((y.val+128:Nat):Int):=by decide +kernel
theorem VaI.step {w W w2:World} {b n bp cp g c2:Nat} {A Ap:Option Addr} {xs:List Nat} {pre:List Grp} {y:Grp} (hb:A≠none→b < w.heap.size) (h1:W.heap[w.heap.size]? = some (.cells #[.slice Ap (n+pre.length) cp] 22 (0,0)))
  (h2:Ow W bp 5 1 Ap (n+pre.length) cp (cN .u8 (xs++pre.map gByte))) (h3:bp=b∧A≠none∨w.heap.size+1 < bp∨Ap=none) (h4:Kp b b w W) (h5:A=none→Nw w W) (hl:w.heap.size+1 < W.heap.size)
  (r1:Ow w2 g 5 1 (some ⟨g,0,none⟩) (n+pre.length+1) c2 (cN .u8 (xs++pre.map gByte)++[.int .u8 (gByte y:Int)])) (r2:g=bp∧Ap≠none∨W.heap.size < g) (r3:Kp bp bp W w2) (r4:Ap=none→Nw W w2) :
  (w2.cell? ⟨w.heap.size,0,none⟩=some (.slice Ap (n+pre.length) cp)∧w2.frozen? ⟨w.heap.size,0,none⟩=false) ∧
  ∀ ac,rfPost (w.heap.size+2) (w.heap.size+1) (VaI w b n A xs) (pre++[y]) W .normal ac (w2.setCell ⟨w.heap.size,0,none⟩ (.slice (some ⟨g,0,none⟩) (n+pre.length+1) c2)):=by
 have same:∀ k,k < W.heap.size→(Ap=none∨k≠bp)→w2.heap[k]? = W.heap[k]?:=fun k hk h=>by
  rcases h with h | h
  ·exact (r4 h).block k hk
  ·exact r3.block k hk h h
 have hS:Ap=none∨w.heap.size≠bp:=by
  rcases h3 with ⟨e,h⟩ | h | h
  ·have:=hb h;right;omega
  ·right;omega
  ·exact .inl h
 have hS1:Ap=none∨w.heap.size+1≠bp:=by
  rcases h3 with ⟨e,h⟩ | h | h
  ·have:=hb h;right;omega
  ·right;omega
  ·exact .inl h
 have hlS:=lt_of_block h1;have e1:=(same _ hlS hS).trans h1;have hst:Kp w.heap.size w.heap.size w2 (w2.setCell ⟨w.heap.size,0,none⟩ (.slice (some ⟨g,0,none⟩) (n+pre.length+1) c2)):=(Kp.refl _ _ _).setCell' (p:=⟨w.heap.size,0,none⟩) (.inl rfl) _;have hs3:=r3.size;have hgS:g≠w.heap.size∧(g=b∧A≠none∨w.heap.size+1 < g):=by
  rcases r2 with ⟨rfl,h⟩ | h
  ·rcases h3 with ⟨rfl,h'⟩ | h' | h'
   ·have:=hb h';exact ⟨by omega,.inl ⟨rfl,h'⟩⟩
   ·exact ⟨by omega,.inr h'⟩
   ·exact (h h').elim
  ·exact ⟨by omega,.inr (by omega)⟩
 refine ⟨⟨by simp [World.cell?,e1],by simp [World.frozen?,e1]⟩,fun ac=>⟨⟨Nat.le_trans hs3 hst.size,fun k o hk ho hoc=>?_⟩,⟨?_,Nat.le_trans hs3 hst.size⟩,?_⟩⟩
 ·have hkl:=lt_of_block ho;refine (hst.block k (by omega) (by omega) (by omega)).trans ((same k hkl ?_).trans ho);by_cases h:Ap=none
  ·exact .inl h
  ·right
   rintro rfl;cases Ap with
   | none=>exact h rfl
   | some p =>
    obtain ⟨cs,fr,hcs⟩:=h2.blk;rw [hcs] at ho;cases ho;cases hoc
 ·exact (hst.block _ (by omega) (by omega) (by omega)).trans (same _ hl hS1)
 ·refine ⟨g,some ⟨g,0,none⟩,c2,?_,?_,?_,?_,fun e=>?_,by have:=hst.size;omega⟩
  ·rw [List.length_append,List.length_singleton,← Nat.add_assoc];exact box_set e1
  ·rw [List.length_append,List.length_singleton,← Nat.add_assoc,List.map_append,List.map_singleton,← List.append_assoc];have h:=r1.kp hst hgS.1 hgS.1;unfold cN at h ⊢;rw [List.map_append,List.map_singleton];exact h
  ·rcases hgS.2 with h | h
   ·exact .inl h
   ·exact .inr (.inl h)
  ·have hk2:Kp b b w w2:=by
    rcases h3 with ⟨rfl,_⟩ | h | h
    ·exact h4.trans r3 (.inl rfl) (.inl rfl)
    ·exact h4.trans r3 (.inr (.inr (by omega))) (.inr (.inr (by omega)))
    ·exact h4.nw' (r4 h)
   exact hk2.setCell' (.inr (.inr (by exact Nat.le_refl _))) _
  ·have hn2:Nw w w2:=by
    rcases h3 with ⟨_,h⟩ | h | h
    ·exact (h e).elim
    ·exact Kp.nw (h5 e) r3 (by omega) (by omega)
    ·exact (h5 e).trans (r4 h)
   exact hn2.setCell' (by exact Nat.le_refl _) _
set_option maxRecDepth 100000 in
theorem VAppend_any (w:World) (b:Nat) (A:Option Addr) (n c:Nat) (xs:List Nat) (x:Nat) (hO:Ow w b 5 1 A n c (cN .u8 xs)) (hx:x < 18446744073709551616) (hn:n≤1000000000000) :
  Calls Tryz.prog 166 #[.slice A n c,.int .u64 (x:Int)] w (AppB w b A n xs (vint x)):=by
 have hb:A≠none→b < w.heap.size:=fun h=>by
  rcases hO with ⟨q,_⟩ | ⟨_,q,_⟩
  ·exact (h q).elim
  ·exact q
 have HG:=hid (grp_bytes x x (Nat.le_refl _));have HL:=hid (vint_len x hx);have HC:=hid fun W=>groups_any W (x:Int)
 have hw1:Nw w (w.alloc (.cells #[.slice A n c] 22)):=(Nw.refl w).alloc' _;refine (callsIn_wide (n:=4)).1 ?_;refine callsIn_of_wp_marks Tryz.func166 rfl trivial ?_ rfl;simp only [Tryz.ntmps166,List.size_toArray,List.length_cons,List.length_nil,Nat.reduceAdd,Nat.reduceSub,Array.replicate_succ,Array.replicate_zero,List.push_toArray,List.append_toArray,List.nil_append,List.cons_append]
 gi_wp2_with (first | (refine ⟨trivial,?_⟩;gi_at_call 236;refine (callsIn_wide.2 (HC.out _)).mono ?_;rintro e w2 ⟨rfl,rfl⟩) | (gi_at_call 236;refine (callsIn_wide.2 (HC.out _)).mono ?_;rintro e w2 ⟨rfl,rfl⟩))
 have hsz:((w.alloc (.cells #[.slice A n c] 22)).alloc (.cells #[.int .u64 (x:Int)] 97)).heap.size=w.heap.size+2:=by simp
 have hbb:((w.alloc (.cells #[.slice A n c] 22)).alloc (.cells #[.int .u64 (x:Int)] 97)).heap[w.heap.size+1]? = some (.cells #[.int .u64 (x:Int)] 97 (0,0)):=by
  have:=heap_alloc_new (w.alloc (.cells #[.slice A n c] 22)) (.cells #[.int .u64 (x:Int)] 97)
  rwa [World.size_alloc] at this
 have hW0:Nw w ((w.alloc (.cells #[.slice A n c] 22)).alloc (.cells #[.int .u64 (x:Int)] 97)):=hw1.alloc' _;refine rf_law (F:=Fence.wide) (n:=4) rfl (by omega) (gf:=286) (lb:=#[.pointer (some ⟨w.heap.size+1,0,none⟩)]) rfl trivial (enters_of Tryz.func286 (by kernel_rfl) rfl)
  (Bx:=w.heap.size+1) (by omega) (groups_stops 3 (by omega) _ (w.heap.size+1) x hx hbb) (fun _=>rfl)
  (VaI w b n A xs) (VaI.bides (by have:=hsz;omega) hb) ?start ?a1 ?assign ?body ?done
 case assign =>
  intro l x W K hK
  gi_wp2
  exact hK
 case start =>
  refine ⟨b,A,c,(heap_alloc_old _ _ (by simp)).trans (heap_alloc_new w _),by simpa using hO.nw hW0,?_,hW0.kp _ _,fun _=>hW0,by omega⟩;by_cases h:A=none
  ·exact .inr (.inr h)
  ·exact .inl ⟨rfl,h⟩
 case body =>
  intro lq pre y W hI hlt;obtain ⟨bp,Ap,cp,h1,h2,h3,h4,h5,hl2⟩:=hI;have hlen:=HL.out;rw [← HG.out,List.length_map] at hlen;have hpl:pre.length≤10:=by omega
  have hc0:W.cell? ⟨w.heap.size,0,none⟩=some (.slice Ap (n+pre.length) cp):=by simp [World.cell?,h1]
  obtain ⟨⟨yv,yl⟩,hy⟩:=y;have hyv:yv < 128:=hy;have H2:=hid h2;have H3:=hid h3;have H4:=hid h4;have H5:=hid h5;have H1:=hid h1;clear h1 h2 h3 h4 h5 hlen hlt hO;cases yl with
  | true =>
   gi_wp2_with (gi_at_builtin;refine wpListIn_app1 E_u8 rfl (.tmp 15) (.tmp 17) rfl rfl H2.out (u:=.int .u8 (yv:Int)) rfl rfl (by omega) (by omega) ?_;intro g c2 w2 r1 r2 r3 r4;obtain ⟨⟨q1,q2⟩,q3⟩:=VaI.step (y:=⟨(yv,true),hy⟩) hb H1.out H2.out H3.out H4.out H5.out hl2 r1 r2 r3 r4;have Q3:=hid q3;clear q3 r1 r2 r3 r4)
   rw [hsz];exact Q3.out _
  | false =>
   have hor:=or128 ⟨yv,hyv⟩;dsimp only at hor
   gi_wp2_with (gi_at_builtin;refine wpListIn_app1 E_u8 rfl (.tmp 15) (.tmp 17) rfl rfl H2.out (u:=.int .u8 ((yv+128:Nat):Int)) rfl rfl (by omega) (by omega) ?_;intro g c2 w2 r1 r2 r3 r4;obtain ⟨⟨q1,q2⟩,q3⟩:=VaI.step (y:=⟨(yv,false),hy⟩) hb H1.out H2.out H3.out H4.out H5.out hl2 r1 r2 r3 r4;have Q3:=hid q3;clear q3 r1 r2 r3 r4)
   rw [hsz];exact Q3.out _
 case done =>
  intro D ys W hD hS hI hK;obtain ⟨bp,Ap,cp,h1,h2,h3,h4,h5,_⟩:=hI;have hc:W.cell? ⟨w.heap.size,0,none⟩=some (.slice Ap (n+ys.length) cp):=by simp [World.cell?,h1]
  have HYS:=hid hS;have hg:=grownBy_putObj' W D (.deferred none);have h2':=h2.own hg (fun k e=>by cases e;exact ⟨_,hK,rfl⟩);have h4':=h4.grown hg (fun k e=>by cases e;exact .inr (.inr (by have:=hsz;omega)));have h5':=fun e=>(h5 e).grown' hg (fun k e=>by cases e;have:=hsz;omega)
  have H2:=hid h2';have H3:=hid h3;have H4:=hid h4';have H5:=hid h5';clear h1 h2 h3 h4 h5 h2' h4' h5' hS hg
  gi_wp2
  refine ⟨by simp,.inl ⟨_,_,rfl,run_takeDeferred hK,?_⟩⟩;have hl:ys.length=(vint x).length:=by rw [HYS.out,← HG.out,List.length_map]
  refine ⟨_,results_tmp rfl _ _ _,bp,Ap,cp,by rw [hl];rfl,?_,?_,H4.out,H5.out⟩
  ·have:=H2.out;rw [HYS.out,HG.out,← HYS.out,hl] at this;exact this
  ·rcases H3.out with h | h | h
   ·exact .inl h
   ·exact .inr (.inl (by omega))
   ·exact .inr (.inr h)
theorem Ow.nilc {w:World} {b n c:Nat} {e:TypeId} {size:Nat} {A:Option Addr} {xs:List Value} (h:Ow w b e size A n c xs):A=none→c=0:=by
 rintro rfl;rcases h with ⟨_,_,h,_⟩ | ⟨h,_⟩
 ·exact h
 ·cases h
def NewB (w:World) (l:List Nat) (e:Ending) (w':World):Prop :=
 ∃ b' A' c',e=.returned (.slice A' l.length c')∧Ow w' b' 5 1 A' l.length c' (cN .u8 l)∧w.heap.size≤b'∧Nw w w'
end
section
open Go Go.RowKit
theorem u32_and_nat (a b:Nat) (ha:a < 4294967296) (hb:b < 4294967296):bits .and .u32 (a:Int) (b:Int)=((a &&& b:Nat):Int):=by
 have h:bits .and .u32 (a:Int) (b:Int)=IntKind.u32.wrap (BitVec.ofInt 32 a &&& BitVec.ofInt 32 b).toNat:=rfl;rw [h,BitVec.toNat_and,BitVec.ofInt_natCast,BitVec.ofInt_natCast,BitVec.toNat_ofNat,BitVec.toNat_ofNat,show (2:Nat) ^ 32=4294967296 from rfl,Nat.mod_eq_of_lt ha,Nat.mod_eq_of_lt hb];have:a &&& b≤a:=Nat.and_le_left;rw [IntWalk.u32_in _ (by omega)]
theorem u32_xor_nat (a b:Nat) (ha:a < 4294967296) (hb:b < 4294967296):bits .xor .u32 (a:Int) (b:Int)=((a ^^^ b:Nat):Int):=by
 have h:bits .xor .u32 (a:Int) (b:Int)=IntKind.u32.wrap (BitVec.ofInt 32 a ^^^ BitVec.ofInt 32 b).toNat:=rfl;rw [h,BitVec.toNat_xor,BitVec.ofInt_natCast,BitVec.ofInt_natCast,BitVec.toNat_ofNat,BitVec.toNat_ofNat,show (2:Nat) ^ 32=4294967296 from rfl,Nat.mod_eq_of_lt ha,Nat.mod_eq_of_lt hb];have:=xor_lt32 ha hb;rw [IntWalk.u32_in _ (by omega)]
theorem and15 (a:Nat):a &&& 15=a % 16:=Nat.and_two_pow_sub_one_eq_mod a 4
theorem half_byte {w:World} (hG:Gl w) (t:Nat) (ht:t < 4294967296):∃ v:Nat,v < 4294967296∧w.cell? ⟨1,t % 16,none⟩=some (.int .u32 (v:Int))∧bits .xor .u32 (v:Int) ((t:Int) / 16)=((bstep4 t:Nat):Int):=by
 have h16:t % 16 < 16:=by omega
 have hc:=ctab_eq (t % 16) h16;have hg:ctab[t % 16]? = some (bstep4 (t % 16)):=by
  rw [hc,List.getD_eq_getElem?_getD];have:t % 16 < ctab.length:=by show t % 16 < 16;exact h16
  rw [List.getElem?_eq_getElem this];rfl
 have hv:bstep4 (t % 16) < 4294967296:=bstep4_lt (by omega);refine ⟨bstep4 (t % 16),hv,hG.crc _ _ (by rw [List.getElem?_map,hg];rfl),?_⟩;rw [show (t:Int) / 16=((t / 16:Nat):Int) by omega,u32_xor_nat _ _ hv (by omega),← bstep4_tab]
set_option maxRecDepth 100000 in
theorem Update_any (w:World) (s b:Nat) (A:Option Addr) (n c:Nat) (l:List Nat) (hn:n=l.length) (hm:n≤1000000000000) (hr:Rd w b A (cN .u8 l)) (hl:∀ x∈l,x < 256) (hs:s < 4294967296) (hG:Gl w) :
  Calls Tryz.prog 274 #[.int .u32 (s:Int),.slice A n c] w fun e w'=>e=.returned (.int .u32 (crcU s l:Nat))∧w=w':=by
 subst hn;have HR:=hid hr;have HL:=hid hl;have HG:=hid hG;have HS:=hid hs;clear hr hl hG hs;go_enter Tryz.func274,Tryz.ntmps274
 go_wp2
 go_loop [0,9] (fun v i=>∃ k S:Nat,k≤l.length∧i=.int .i64 k∧v=.int .u32 (S:Int)∧Hid (S < 4294967296)∧Hid (S=crcU s (l.take k))) (fun _ i=>l.length - (intOf i).toNat)
 case atStart=>exact ⟨0,s,by omega,rfl,rfl,HS,hid rfl⟩
 case round =>
  obtain ⟨k,S,hk,rfl,rfl,HS2,HE⟩:=hrel;by_cases hlt:k < l.length
  ·have hltI:(k:Int) < (l.length:Int):=by omega
   obtain ⟨o,rfl,_,hc⟩:=HR.out.get (k:=k) (by simpa using hlt);rw [List.getElem_map] at hc;have hxl:=HL.out l[k] (List.getElem_mem hlt);have HT:=hid (show crcU s (l.take (k+1))=cstep (crcU s (l.take k)) l[k] from by rw [List.take_succ_eq_append_getElem hlt,crcU_snoc]);generalize l[k]=x at *;have ht:S ^^^ x < 4294967296:=xor_lt32 HS2.out (by omega);have x1:=u32_xor_nat S x HS2.out (by omega);obtain ⟨T,hT⟩:∃ T,S ^^^ x=T:=⟨_,rfl⟩;rw [hT] at x1 ht;have a1:bits .and .u32 (T:Int) 15=((T % 16:Nat):Int):=(u32_and_nat T 15 ht (by omega)).trans (by rw [and15]);obtain ⟨v1,hv1,c1,y1⟩:=half_byte HG.out T ht;have ht2:=bstep4_lt ht;obtain ⟨U,hU⟩:∃ U,bstep4 T=U:=⟨_,rfl⟩;rw [hU] at y1 ht2;have a2:bits .and .u32 (U:Int) 15=((U % 16:Nat):Int):=(u32_and_nat U 15 ht2 (by omega)).trans (by rw [and15]);obtain ⟨v2,hv2,c2,y2⟩:=half_byte HG.out U ht2;have ht3:=bstep4_lt ht2;obtain ⟨Z,hZ⟩:∃ Z,bstep4 U=Z:=⟨_,rfl⟩;rw [hZ] at y2 ht3;have HZ:=hid (show Z=cstep S x from by rw [← hZ,← hU,← hT];rfl);have HZ3:=hid ht3;have hT16:T % 16 < 16:=by omega
   have hU16:U % 16 < 16:=by omega
   obtain ⟨i1,hi1⟩:∃ i,T % 16=i:=⟨_,rfl⟩;obtain ⟨i2,hi2⟩:∃ i,U % 16=i:=⟨_,rfl⟩;rw [hi1] at a1 c1 hT16;rw [hi2] at a2 c2 hU16;have d1:IntKind.u32.wrap ((x:Int))=(x:Int):=IntWalk.u32_in _ (by omega);clear ht3 hZ hU hT hi1 hi2;go_wp2
   go_round
   case rel=>exact ⟨k+1,Z,by omega,by go_num,rfl,HZ3,hid (by rw [HT.out,← HE.out,HZ.out])⟩
   case measure=>simp [intOf];omega
  ·obtain rfl:k=l.length:=by omega
   go_wp2;go_ret;refine ⟨?_,rfl⟩;rw [HE.out,List.take_length];rfl
set_option maxRecDepth 100000 in
theorem Sum_any (w:World) (b:Nat) (A:Option Addr) (n c:Nat) (l:List Nat) (hn:n=l.length) (hm:n≤1000000000000) (hr:Rd w b A (cN .u8 l)) (hl:∀ x∈l,x < 256) (hG:Gl w) :
  Calls Tryz.prog 219 #[.slice A n c] w fun e w'=>e=.returned (.int .u32 (crc l:Nat))∧w=w':=by
 have HU:=hid (Update_any w 4294967295 b A n c l hn hm hr hl (by omega) hG);have hlt:=crcU_lt l 4294967295 (by omega) hl;have HC:=hid (show crc l=4294967295 - crcU 4294967295 l from rfl);obtain ⟨U,hU⟩:∃ U,crcU 4294967295 l=U:=⟨_,rfl⟩;rw [hU] at HU HC hlt;have HLT:=hid hlt;clear hn hm hr hl hG hU hlt;go_enter Tryz.func219,Tryz.ntmps219
 go_wp2_with (go_at_call 274;refine HU.out.mono ?_;rintro e w1 ⟨rfl,hw⟩;subst hw)
 go_ret;have hx:bits .xor .u32 IntKind.u32.max (U:Int)=((4294967295 - U:Nat):Int):=by
  rw [show IntKind.u32.max=((4294967295:Nat):Int) from rfl,u32_xor_nat _ _ (by omega) HLT.out,Nat.xor_comm,xor_ones HLT.out]
 refine ⟨?_,rfl⟩;rw [HC.out,← hx];rfl
end
section
open Go Go.RowKit Go.Lib
def sB (s:ByteArray):List Nat:=s.data.toList.map (·.toNat)
def bS (l:List Nat):ByteArray:=⟨(l.map UInt8.ofNat).toArray⟩
theorem sB_length (s:ByteArray):(sB s).length=s.size:=by unfold sB;rw [List.length_map];rfl
theorem sB_lt (s:ByteArray):∀ x∈sB s,x < 256:=by
 intro x hx;obtain ⟨u,_,rfl⟩:=List.mem_map.1 hx;exact u.toNat_lt
theorem sB_bS {l:List Nat} (h:∀ x∈l,x < 256):sB (bS l)=l:=by
 simp only [sB,bS,List.map_map]
 conv=>rhs;rw [← List.map_id l]
 apply List.map_congr_left
 intro x hx;have:=h x hx;simp [Nat.mod_eq_of_lt this]
theorem bS_size (l:List Nat):(bS l).size=l.length:=by show (l.map UInt8.ofNat).toArray.size=_;simp
theorem sB_inj {a b:ByteArray} (h:sB a=sB b):a=b:=by
 obtain ⟨⟨x⟩⟩:=a;obtain ⟨⟨y⟩⟩:=b;have:x=y:=by
  simp only [sB] at h;exact (List.map_inj_right (fun u v e=>UInt8.toNat_inj.1 e)).1 h
 rw [this]
def lenB (l:List Nat):List Nat:=vint l.length++l
def frame (id:Nat) (l:List Nat):List Nat:=addCrc (id::lenB l)
theorem run_str {w:World} {b:Nat} {A:Option Addr} {n c:Nat} {l:List Nat} (hn:n=l.length) (hr:Rd w b A (cN .u8 l)) :
  (convert 22 9 (.slice A n c)).run Tryz.prog w=.ok (.string (bS l)) w:=by
 subst hn;rcases hr with h | ⟨o,rfl,_,hc⟩
 ·have h0:l=[]:=List.map_eq_nil_iff.1 h;subst h0;cases A with
  | none=>exact run_convert_bytes_nil w 22 5 Tryz.underlying22 Tryz.underlying5 0 c 9 Tryz.underlying9
  | some a =>
   have:=run_convert_bytes_back w 22 9 5 a c [] Tryz.underlying22 Tryz.underlying5 Tryz.underlying9 (fun j hj=>by simp at hj);exact this
 ·have h:=run_convert_bytes_arg w 22 5 Tryz.underlying22 Tryz.underlying5 b o l.length c (l.map fun x:Nat=>(x:Int)) (List.length_map _) (fun i hi=>by
   refine hc i _ ?_;rw [List.getElem?_map,List.getElem?_eq_getElem hi,List.getD_eq_getElem?_getD,List.getElem?_map,List.getElem?_eq_getElem hi];rfl) 9 Tryz.underlying9
  rw [h];unfold strOfNums bS;rw [List.map_map];rfl
section
variable {P:Program} {w:World} {b:Nat} {e:TypeId} {n c:Nat} {A:Option Addr} {xs:List Value}
end
theorem AppB.own {w w0 W:World} {b n:Nat} {A:Option Addr} {xs news:List Nat} {e:Ending} (K:List Nat) (h:AppB W b A n xs news e w) (hN:Nw w0 W) (hb:(w0.heap.size≤b∧b ∉ K)∨A=none) (hK:∀ k∈K,k < W.heap.size) :
  ∃ b' A' c',e=.returned (.slice A' (n+news.length) c')∧Ow w b' 5 1 A' (n+news.length) c' (cN .u8 (xs++news))∧((w0.heap.size≤b'∧b' ∉ K)∨A'=none)∧Nw w0 w∧(∀ k∈K,w.heap[k]? = W.heap[k]?)∧∀ k∈K,k < w.heap.size:=by
 obtain ⟨b',A',c',he,hO,hb',hk,hn⟩:=h;have hsz:=hN.size;have hs2:=hk.size;refine ⟨b',A',c',he,hO,?_,?_,fun k hkK=>?_,fun k hkK=>Nat.lt_of_lt_of_le (hK k hkK) hs2⟩
 ·rcases hb' with ⟨rfl,h⟩ | h | h
  ·rcases hb with h' | h'
   ·exact .inl h'
   ·exact (h h').elim
  ·left;exact ⟨by omega,fun hm=>by have:=hK _ hm;omega⟩
  ·exact .inr h
 ·rcases hb with h' | h'
  ·exact Kp.nw hN hk h'.1 h'.1
  ·exact hN.trans (hn h')
 ·rcases hb with h' | h'
  ·exact hk.block k (hK k hkK) (fun e=>h'.2 (e ▸ hkK)) (fun e=>h'.2 (e ▸ hkK))
  ·exact (hn h').block k (hK k hkK)
end
section
open Go Go.RowKit Go.Sort
structure Gp where
 n:Nat
 os:Array Obj
instance:Inhabited Gp:=⟨⟨0,#[]⟩⟩
abbrev Gr (w w':World):Prop:=∃ p:Gp,w'=grow (w.drewN p.n) p.os
theorem Gr.refl (w:World):Gr w w:=⟨⟨0,#[]⟩,by rw [grow_empty];rfl⟩
theorem Gr.trans {a b c:World} (h:Gr a b) (k:Gr b c):Gr a c:=by
 obtain ⟨⟨n,os⟩,rfl⟩:=h;obtain ⟨⟨m,os'⟩,rfl⟩:=k;exact ⟨⟨n+m,os++os'⟩,by show grow (grow ((a.drewN n).drewN m) os) os'=_;rw [grow_grow,World.drewN_drewN]⟩
theorem Gr.alloc (w:World) (o:Obj):Gr w (w.alloc o):=⟨⟨0,#[o]⟩,by rw [alloc_eq_grow];rfl⟩
theorem Gr.drewN (w:World) (n:Nat):Gr w (w.drewN n):=⟨⟨n,#[]⟩,by rw [grow_empty]⟩
theorem Gr.nw {w w':World} (h:Gr w w'):Nw w w':=by
 obtain ⟨⟨n,os⟩,rfl⟩:=h;refine ⟨rfl,rfl,rfl,by simp [grow],fun k hk=>?_⟩;exact heap_grow_old (w.drewN n) os hk
theorem Calls.gr {P:Program} {f:FuncId} {args:Array Value} {w:World} {p:Gp} {v:Value} (h:Calls P f args (grow (w.drewN p.n) p.os) fun e w'=>e=.returned v∧Gr (grow (w.drewN p.n) p.os) w') :
  Calls P f args (grow (w.drewN p.n) p.os) fun e w''=>e=.returned v∧∃ q:Gp,w''=grow (w.drewN q.n) q.os:=h.mono fun _ _ x=>⟨x.1,Gr.trans ⟨p,rfl⟩ x.2⟩
theorem cell_gr {w:World} {a:Addr} {v:Value} (hb:a.block < w.heap.size) (h:w.cell? a=some v) (p:Gp):(grow (w.drewN p.n) p.os).cell? a=some v:=by
 rw [cell?_grow _ _ _ (by exact hb)];exact h
theorem cell_old {w w':World} {a:Addr} {v:Value} (hN:Nw w w') (hg:a.block < w.heap.size) (h:w.cell? a=some v):w'.cell? a=some v :=
 (World.cell?_of_block (hN.block _ hg)).trans h
theorem Gr.alloc' {a w:World} (h:Gr a w) (o:Obj):Gr a (w.alloc o):=h.trans (Gr.alloc w o)
theorem Gr.drewO (w:World):Gr w w.drew:=Gr.drewN w 1
theorem Gr.block {a w:World} (h:Gr a w) (k:Nat) (hk:k < a.heap.size):w.heap[k]? = a.heap[k]?:=h.nw.block k hk
theorem Nw.drewP {a w:World} (h:Nw a w):Nw a w.drew:=Nw.trans h ⟨rfl,rfl,rfl,Nat.le_refl _,fun _ _=>rfl⟩
theorem Nw.drewO (w:World):Nw w w.drew:=⟨rfl,rfl,rfl,Nat.le_refl _,fun _ _=>rfl⟩
section
variable {P:Program} {ops:Array Oper} {md:Region.Mode} {C:World→Prop}
theorem wp_region_gr {id:Nat} {Q:Exit→Act→World→Prop} {a:Act} {w:World} {l:List Oper} (hm:P.follows .mixedOrders=true) (hB:Region.lexB .any l.toArray=true)
  (h:wpQuiet P l.toArray (fun w'=>∃ p:Gp,w'=grow (w.drewN p.n) p.os) (fun a'=>∀ w',(∃ p:Gp,w'=grow (w.drewN p.n) p.os)→Q .normal a' w') l a):(Code.region id l.toArray true).wp P Q a w :=
 wp_region_quiet (C:=fun w'=>∃ p:Gp,w'=grow (w.drewN p.n) p.os) hm hB ⟨⟨1,#[]⟩,by rw [grow_empty];rfl⟩ (by simpa using h)
def wpAnyLC (P:Program) (md:Region.Mode) (ops:Array Oper) (C:World→Prop) (n:Nat) (L:Array Bool→Act→Prop):Nat→Array Bool→Act→Prop
 | 0,listed,a=>L listed a
 | f+1,listed,a =>
  Region.ready md ops listed≠[]∧∀ i∈Region.ready md ops listed,i < n∧qOp P ops C i (wpAnyLC P md ops C n L f (listed.setIfInBounds i true)) a
theorem wpAny_of_headC {n g:Nat} {L:Array Bool→Act→Prop} {Q':Exit→Act→World→Prop} (hL:∀ listed a w,C w→L listed a→wpAny P md ops Q' g listed a w) :
  ∀ (f:Nat) (listed:Array Bool) (a:Act) (w:World),C w→wpAnyLC P md ops C n L f listed a→wpAny P md ops Q' (f+g) listed a w
 | 0,listed,a,w,hw,h=>by rw [Nat.zero_add];exact hL _ _ _ hw h
 | f+1,listed,a,w,hw,h=>by
  rw [show f+1+g=(f+g)+1 by omega];exact ⟨fun h0=>absurd h0 h.1,fun i hi=>wpOp_of_qOp hw (fun a' w' hw' h'=>wpAny_of_headC hL f _ a' w' hw' h') (h.2 i hi).2⟩
theorem wpAnyLC_first {n i:Nat} {oi:Oper} {v:Value} {L:Array Bool→Act→Prop} (hi:ops[i]? = some oi) (hsel:∀ (j:Nat) (o:Oper) cs b,ops[j]? = some o→o.op≠.select cs b)
  (hs:Region.sinkB md ops n=true) (hc:Region.chainB md ops n=true) (hn:n < ops.size) (hin:i < n)
  (hdone:∀ listed a,L listed a→∀ j∈Region.ready md ops listed,n≤j) :
  ∀ (f:Nat) (listed:Array Bool) (a:Act),HeadInv md ops n listed →
   (∀ j oj,ops[j]? = some oj→j≠i→listed.getD j true=false→(∀ e∈oj.after,Region.binds md e=true→e.on≠i)→oi.apart ops oj=true) →
   i∈Region.ready md ops listed→YieldsIn P ops C oi v a →
   wpAnyLC P md ops C n L f (listed.setIfInBounds i true) (a.put oi.dst v)→wpAnyLC P md ops C n L (f+1) listed a:=by
 intro f;induction f with
 | zero =>
  intro listed a inv _ hr hy H;have hun:=(mem_ready.1 hr).1;refine ⟨fun h=>(by rw [h] at hr;cases hr),fun j hj=>?_⟩;have hjn:j < n:=by
   rcases Nat.lt_or_ge j n with h | h
   ·exact h
   ·exact absurd hj (tail_waits hs hc hn inv _ i rfl hin hun j h)
  refine ⟨hjn,?_⟩;by_cases hji:j=i
  ·subst hji;exact hy.qOp hi H
  ·have:=hdone _ _ H j (ready_mono hj hji);omega
 | succ f ih =>
  intro listed a inv hfree hr hy H;have hun:=(mem_ready.1 hr).1;refine ⟨fun h=>(by rw [h] at hr;cases hr),fun j hj=>?_⟩;have hjn:j < n:=by
   rcases Nat.lt_or_ge j n with h | h
   ·exact h
   ·exact absurd hj (tail_waits hs hc hn inv _ i rfl hin hun j h)
  refine ⟨hjn,?_⟩;by_cases hji:j=i
  ·subst hji;exact hy.qOp hi H
  ·have h1:=(H.2 j (ready_mono hj hji)).2;obtain ⟨hjun,oj,hoj,hall⟩:=mem_ready.1 hj;have hnot:∀ e∈oj.after,Region.binds md e=true→e.on≠i:=fun e he hb heq=>by
    have h1:=hall e he hb;rw [heq,getD_both hun] at h1;cases h1
   have h2:=qOp_put hoj (hfree j oj hoj hji hjun hnot) (fun cs b=>hsel i oi cs b hi) (fun cs b=>hsel j oj cs b hoj) hy h1;have hfree':∀ k ok,ops[k]? = some ok→k≠i→(listed.setIfInBounds j true).getD k true=false →
     (∀ e∈ok.after,Region.binds md e=true→e.on≠i)→oi.apart ops ok=true:=fun k ok hk hki hun hno=>by
    refine hfree k ok hk hki ?_ hno;by_cases hjk:j=k
    ·subst hjk;exact hjun
    ·rw [getD_set_ne true hjk] at hun;exact hun
   refine qOp_mono (fun a' h3=>ih (listed.setIfInBounds j true) a' (inv.set hj hjn) hfree' (ready_mono hr (Ne.symm hji)) h3.1 ?_) h2;rw [Array.setIfInBounds_comm _ _ hji];exact h3.2
theorem wpAnyLC_lex {n g:Nat} {Lq:Act→Prop} (hsel:Region.noSelect ops=true) (hs:Region.sinkB md ops n=true) (hc:Region.chainB md ops n=true) (hn:n < ops.size) :
  ∀ (l:List Oper) (k:Nat) (listed:Array Bool) (a:Act),(∀ j,j < l.length→l[j]? = ops[k+j]?)→k+l.length=n→HeadInv md ops n listed →
  Region.lexHead md ops g l.length k listed=true→wpQuiet P ops C Lq l a →
  wpAnyLC P md ops C n (fun listed' a'=>Region.seqB md ops g n listed'=true∧Lq a') l.length listed a
 | [],k,listed,a,_,hk,_,hB,h=>by
  have:k=n:=by simpa using hk
  subst this;exact ⟨by simpa [Region.lexHead] using hB,h⟩
 | o::l,k,listed,a,hl,hk,inv,hB,h=>by
  have h0:ops[k]? = some o:=by simpa using (hl 0 (by simp)).symm
  simp only [List.length_cons,Region.lexHead,Bool.and_eq_true] at hB;obtain ⟨⟨hr,hf⟩,hB'⟩:=hB;have hkn:k < n:=by simp only [List.length_cons] at hk;omega
  have hr':k∈Region.ready md ops listed:=by simpa using hr
  have hst:qOp P ops C k (wpQuiet P ops C Lq l) a:=by unfold qOp;simp only [h0];exact h
  obtain ⟨v,hy,hK⟩:=yieldsIn_of_qOp h0 hst;exact wpAnyLC_first h0 (Region.noSelect_spec hsel) hs hc hn hkn (fun listed' a' hL=>seqB_ready hL.1) l.length listed a inv (Region.free_spec h0 hf) hr' hy
   (wpAnyLC_lex hsel hs hc hn l (k+1) _ _ (fun j hj=>by have:=hl (j+1) (by simp;omega);simpa [Nat.add_assoc,Nat.add_comm 1 j] using this) (by simp only [List.length_cons] at hk;omega) (inv.set hr' hkn) hB' hK)
theorem wp_region_gr_tail {id:Nat} {Q:Exit→Act→World→Prop} {a:Act} {w:World} {l:List Oper} (n:Nat) (hm:P.follows .mixedOrders=true) (hB:Region.lexTailB .any l.toArray n=true)
  (h:wpQuiet P l.toArray (fun w'=>∃ p:Gp,w'=grow (w.drewN p.n) p.os) (fun a'=>∀ w',(∃ p:Gp,w'=grow (w.drewN p.n) p.os)→wpList P l.toArray Q (l.drop n) a' w') (l.take n) a):(Code.region id l.toArray true).wp P Q a w:=by
 simp only [Region.lexTailB,Bool.and_eq_true,decide_eq_true_eq] at hB;obtain ⟨⟨⟨⟨hsel,hn⟩,hs⟩,hc⟩,hlex⟩:=hB;have hn':n < l.length:=by simpa using hn
 have htl:(l.take n).length=n:=by simp;omega
 have hdl:(l.drop n).length=l.toArray.size - n:=by simp
 have inv0:HeadInv .any l.toArray n (Array.replicate l.toArray.size false) :=
  ⟨by simp,fun j oj _ hl=>(by rw [getD_replicate_false] at hl;cases hl),fun t _ ht=>getD_in (by simpa using ht) (getD_replicate_false _ _)⟩
 have H:=wpAnyLC_lex (md:=.any) (g:=l.toArray.size - n) hsel hs hc hn (l.take n) 0 _ a (fun j hj=>by
  have hj':j < n:=by rw [htl] at hj;exact hj
  simp [hj']) (by simpa using htl) inv0 (by rw [htl];exact hlex) h
 refine wp_region_any hm ?_;have:=wpAny_of_headC (Q':=Q) (g:=l.toArray.size - n) (fun listed a' w' hw hL=>by
  have:=wpAny_of_seq (md:=.any) (Q':=Q) (l.drop n) n listed a' w' (fun j=>by simp [List.getElem?_drop]) (by rw [hdl];exact hL.1) (hL.2 w' hw)
  rwa [hdl] at this) _ _ _ { w with drawn:=w.drawn+1 } ⟨⟨1,#[]⟩,by rw [grow_empty];rfl⟩ H
 rw [htl,show n+(l.toArray.size - n)=l.toArray.size by omega] at this;exact this
end
end
section
open Go Go.RowKit
def smpSum (l:List Ser):Nat:=(l.map fun s=>s.smps.length).sum
theorem smpSum_snoc {l:List Ser} {k:Nat} (h:k < l.length):smpSum (l.take (k+1))=smpSum (l.take k)+l[k].smps.length:=by
 unfold smpSum;rw [List.take_succ_eq_append_getElem h,List.map_append,List.sum_append];simp only [List.map_cons,List.map_nil,List.sum_cons,List.sum_nil,Nat.add_zero]
theorem smpSum_take (l:List Ser) (k:Nat):smpSum (l.take k)≤smpSum l:=by
 unfold smpSum
 conv=>rhs;rw [← List.take_append_drop k l,List.map_append,List.sum_append]
 omega
theorem Samples_any (w:World) (b:Nat) (A:Option Addr) (n c:Nat) (l:List Ser) (hI:InSer w b A n c l) (hs:smpSum l≤1000000000) (hn:n≤1000000000) :
  Calls Tryz.prog 184 #[.slice A n c] w fun e w'=>e=.returned (.int .i64 (smpSum l:Int))∧Nw w w':=by
 have hl:=hI.len;subst hl;have HR:=hid hI.rd;clear hI;go_enter Tryz.func184,Tryz.ntmps184
 go_wp2;go_loopw [3,8] (fun v i wr=>∃ k:Nat,k≤l.length∧i=.int .i64 k∧∃ N:Nat,v=.int .i64 N∧N≤1000000000∧Hid (N=smpSum (l.take k))∧Hid (Nw w wr)) (fun _ i _=>l.length - (intOf i).toNat)
 case atStart=>exact ⟨0,by omega,rfl,0,rfl,by omega,hid rfl,hid (Nw.refl _)⟩
 case round =>
  obtain ⟨k,hk,rfl,N,rfl,hN,HS,HN⟩:=hrel;by_cases hlt:k < l.length
  ·have hltI:(k:Int) < (l.length:Int):=by omega
   obtain ⟨o,rfl,_,hc0,hc1⟩:=two_at (HR.out.nw HN.out) hlt;have HNX:=hid (smpSum_snoc hlt);have htk:=smpSum_take l (k+1);rw [HNX.out,← HS.out] at htk;generalize l[k]=s at *;go_wp2;go_roundw
   case rel=>exact ⟨k+1,by omega,by go_num,N+s.smps.length,by go_num,by omega,hid (by rw [HNX.out,← HS.out]),hid (HN.out.alloc' _)⟩
   case measure=>simp [intOf];omega
  ·obtain rfl:k=l.length:=by omega
   go_wp2;go_ret;have h:=HS.out;rw [List.take_length] at h;rw [h];exact ⟨rfl,HN.out⟩
theorem mcheck_any (w:World) (b:Nat) (A:Option Addr) (n c:Nat) (l:List Ser) (hI:InSer w b A n c l) (hs:smpSum l≤10000000) (hn:n≤100000) :
  Calls Tryz.prog 113 #[.slice A n c] w fun e w'=>e=.returned (.int .i64 0)∧Nw w w':=by
 have HS:=hid (Samples_any w b A n c l hI (by omega) (by omega));have h1:decide ((1048576:Int) < (n:Int))=false:=by rw [decide_eq_false_iff_not];omega
 generalize smpSum l=S at *;have h2:decide ((16777216:Int) < (S:Int))=false:=by rw [decide_eq_false_iff_not];omega
 clear hI;go_enter Tryz.func113,Tryz.ntmps113
 go_wp2_with (go_at_call 184;refine HS.out.mono ?_;rintro e w1 ⟨rfl,hN⟩)
 go_ret;exact ⟨rfl,hN⟩
end
section
open Go Go.RowKit
abbrev cT (l:List ByteArray):List Value:=l.map Value.string
theorem E_str:ElemT Tryz.prog 106 9 (.string .empty) 1 16:=ElemT.mk' Tryz.underlying106 (by kernel_rfl) rfl (by omega)
theorem E_lab:ElemT Tryz.prog 84 96 (.agg #[.string .empty,.string .empty]) 2 32:=ElemT.mk' Tryz.underlying84 (by kernel_rfl) rfl (by omega)
def strsOf (l:List Lab):List ByteArray:=l.flatMap fun x=>[x.1,x.2]
theorem cT_strs (l:List Lab):cT (strsOf l)=cL l:=by
 unfold cT strsOf cL c2;rw [List.map_flatMap];rfl
theorem strsOf_length (l:List Lab):(strsOf l).length=2*l.length:=by
 rw [← c2_length (f:=fun x:Lab=>Value.string x.1) (g:=fun x=>.string x.2) l];show _=(cL l).length
 rw [← cT_strs,List.length_map]
end
end Go.Proofs.YtmmonehfnfbpbaaGreatDoor
