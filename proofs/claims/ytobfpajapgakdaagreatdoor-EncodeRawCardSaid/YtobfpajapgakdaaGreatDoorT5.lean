/- Laws that the last text builds on. -/
import Derived.Test.YtobfpajapgakdaaGreatDoorT4
namespace Go.Proofs.YtobfpajapgakdaaGreatDoor
open Go.Lib(hid)
section
open Go
def wd (c:Nat):Nat:=if c=0 then 0 else Lib.bitLen (c - 1)
theorem bitLenAux_spec:∀ (f x:Nat),x < 2 ^ f→x < 2 ^ Lib.bitLenAux f x∧(x≠0→2 ^ (Lib.bitLenAux f x - 1)≤x∧0 < Lib.bitLenAux f x):=by
 intro f;induction f with
 | zero=>intro x h;simp [Lib.bitLenAux];omega
 | succ f ih =>
  intro x h;rw [Nat.pow_succ] at h;unfold Lib.bitLenAux;by_cases h0:x=0
  ·simp [h0]
  ·rw [if_neg h0];obtain ⟨h1,h2⟩:=ih (x / 2) (by omega);rw [Nat.add_comm 1,Nat.pow_succ,Nat.add_sub_cancel];refine ⟨by omega,fun _=>⟨?_,by omega⟩⟩;by_cases h3:x / 2=0
   ·have:Lib.bitLenAux f (x / 2)=0:=by rw [h3];cases f<;>simp [Lib.bitLenAux]
    rw [this];simp;omega
   ·obtain ⟨h4,h5⟩:=h2 h3;have e:2 ^ Lib.bitLenAux f (x / 2)=2 ^ (Lib.bitLenAux f (x / 2) - 1)*2:=by rw [← Nat.pow_succ];congr 1;omega
    omega
theorem wd_spec (c:Nat) (h:c≤18446744073709551616):c≤2 ^ wd c∧∀ n,c≤2 ^ n→wd c≤n:=by
 unfold wd;by_cases h0:c=0
 ·simp [h0]
 ·rw [if_neg h0];have h64:(2:Nat) ^ 64=18446744073709551616:=by decide
  obtain ⟨h1,h2⟩:=bitLenAux_spec 64 (c - 1) (by omega);refine ⟨by unfold Lib.bitLen;omega,fun n hn=>?_⟩;by_cases h3:c - 1=0
  ·have:Lib.bitLen (c - 1)=0:=by rw [h3];decide
   omega
  ·obtain ⟨h4,h5⟩:=h2 h3;unfold Lib.bitLen;rcases Nat.lt_or_ge n (Lib.bitLenAux 64 (c - 1)) with hlt | hge
   ·have:=Nat.pow_le_pow_right (n:=2) (by omega) (show n≤Lib.bitLenAux 64 (c - 1) - 1 from by omega);omega
   ·exact hge
theorem wd_eq (c n:Nat) (h:c≤18446744073709551616) (h1:c≤2 ^ n) (h2:n=0∨2 ^ (n - 1) < c):wd c=n:=by
 obtain ⟨a,b⟩:=wd_spec c h;have:=b n h1;rcases h2 with h2 | h2
 ·omega
 ·rcases Nat.lt_or_ge (wd c) n with hlt | hge
  ·have:=Nat.pow_le_pow_right (n:=2) (by omega) (show wd c≤n - 1 from by omega);omega
  ·omega
theorem wd_le (c:Nat) (h:c≤128):wd c≤7:=(wd_spec c (by omega)).2 7 (by simpa using h)
theorem wd_le64 (c:Nat) (h:c≤18446744073709551616):wd c≤64:=(wd_spec c h).2 64 (by simpa using h)
theorem asc_ext:∀ (a b:List Nat),a.Pairwise (· < ·)→b.Pairwise (· < ·)→(∀ x,x∈a↔x∈b)→a=b:=by
 intro a;induction a with
 | nil =>
  intro b _ _ h;cases b with
  | nil=>rfl
  | cons y l=>exact absurd ((h y).2 (by simp)) (by simp)
 | cons x l ih =>
  intro b ha hb h;cases b with
  | nil=>exact absurd ((h x).1 (by simp)) (by simp)
  | cons y m =>
   rw [List.pairwise_cons] at ha hb;have e:x=y:=by
    have h1:=(h x).1 (by simp);have h2:=(h y).2 (by simp);rw [List.mem_cons] at h1 h2;rcases h1 with h1 | h1
    ·exact h1
    ·rcases h2 with h2 | h2
     ·exact h2.symm
     ·have:=ha.1 y h2;have:=hb.1 x h1;omega
   subst e;congr 1
   refine ih m ha.2 hb.2 fun z=>?_
   have hz:=h z;rw [List.mem_cons,List.mem_cons] at hz;constructor
   ·intro hl;rcases hz.1 (.inr hl) with e | e
    ·have:=ha.1 z hl;omega
    ·exact e
   ·intro hl;rcases hz.2 (.inr hl) with e | e
    ·have:=hb.1 z hl;omega
    ·exact e
def ins (x:Nat):List Nat→List Nat
 | []=>[x]
 | y::l=>if x < y then x::y::l else if x=y then y::l else y::ins x l
def dict (l:List Nat):List Nat:=l.foldl (fun d x=>ins x d) []
theorem ins_mem (x z:Nat) (d:List Nat):z∈ins x d↔z=x∨z∈d:=by
 induction d with
 | nil=>simp [ins]
 | cons y l ih =>
  unfold ins;split
  ·simp
  ·split
   ·rename_i h;subst h;simp
   ·simp only [List.mem_cons,ih];constructor
    ·rintro (h | h | h)<;>simp [h]
    ·rintro (h | h | h)<;>simp [h]
theorem ins_asc (x:Nat) (d:List Nat) (h:d.Pairwise (· < ·)):(ins x d).Pairwise (· < ·):=by
 induction d with
 | nil=>simp [ins]
 | cons y l ih =>
  rw [List.pairwise_cons] at h;unfold ins;split
  ·rename_i hxy
   rw [List.pairwise_cons,List.pairwise_cons];refine ⟨fun z hz=>?_,h.1,h.2⟩;rw [List.mem_cons] at hz;rcases hz with rfl | hz
   ·exact hxy
   ·have:=h.1 z hz;omega
  ·split
   ·rw [List.pairwise_cons];exact h
   ·rw [List.pairwise_cons];refine ⟨fun z hz=>?_,ih h.2⟩;rcases (ins_mem x z l).1 hz with rfl | hz
    ·omega
    ·exact h.1 z hz
theorem foldl_ins (l:List Nat):∀ d:List Nat,d.Pairwise (· < ·)→(l.foldl (fun d x=>ins x d) d).Pairwise (· < ·)∧∀ z,z∈l.foldl (fun d x=>ins x d) d↔z∈l∨z∈d:=by
 induction l with
 | nil=>intro d h;exact ⟨h,fun z=>by simp⟩
 | cons x l ih =>
  intro d h;obtain ⟨h1,h2⟩:=ih (ins x d) (ins_asc x d h);refine ⟨h1,fun z=>?_⟩;rw [List.foldl_cons,h2 z,ins_mem,List.mem_cons];constructor
  ·rintro (h | h | h)<;>simp [h]
  ·rintro ((h | h) | h)<;>simp [h]
theorem dict_asc (l:List Nat):(dict l).Pairwise (· < ·):=(foldl_ins l [] List.Pairwise.nil).1
theorem dict_mem (l:List Nat) (x:Nat):x∈dict l↔x∈l:=by
 have:=(foldl_ins l [] List.Pairwise.nil).2 x;simpa [dict] using this
theorem dict_eq (l d:List Nat) (h1:d.Pairwise (· < ·)) (h2:∀ x,x∈d↔x∈l):d=dict l :=
 asc_ext _ _ h1 (dict_asc l) fun x=>by rw [h2,dict_mem]
theorem dict_snoc (l:List Nat) (x:Nat):dict (l++[x])=ins x (dict l):=by simp [dict]
theorem ins_length (x:Nat) (d:List Nat):(ins x d).length≤d.length+1:=by
 induction d with
 | nil=>simp [ins]
 | cons y l ih =>
  unfold ins;split
  ·simp
  ·split
   ·simp
   ·simp;omega
theorem dict_length (l:List Nat):(dict l).length≤l.length:=by
 have:∀ (l d:List Nat),(l.foldl (fun d x=>ins x d) d).length≤d.length+l.length:=by
  intro l;induction l with
  | nil=>intro d;simp
  | cons x l ih =>
   intro d;have:=ih (ins x d);have:=ins_length x d;rw [List.foldl_cons,List.length_cons];omega
 simpa [dict] using this l []
theorem dict_nil_iff (l:List Nat):dict l=[]↔l=[]:=by
 constructor
 ·intro h;cases l with
  | nil=>rfl
  | cons x l=>have:=(dict_mem (x::l) x).2 (by simp);rw [h] at this;cases this
 ·rintro rfl;rfl
def putBits (l:List Nat):List Bool :=
 if l=[] then [] else bitsOf ((dict l).length - 1) 7++(dict l).flatMap (bitsOf · 64)++l.flatMap (fun x=>bitsOf ((dict l).idxOf x) (wd (dict l).length))
end
section
open Go Go.RowKit
theorem Width_any (w:World) (x:Int) (h0:-9223372036854775808≤x) (h1:x≤9223372036854775807) :
  Calls Tryz.prog 199 #[.int .i64 x] w fun e w'=>e=.returned (.int .i64 (wd x.toNat:Nat))∧w=w':=by
 by_cases hx:x < 1
 ·have HX:=hid hx;go_enter Tryz.func199,Tryz.ntmps199
  go_wp2_with fail;go_ret;have e:x.toNat=0:=by have:=HX.out;omega
  exact ⟨ret_int (by rw [e];rfl),rfl⟩
 ·have HX:=hid hx;have hlo:1≤x:=by omega
  clear hx;go_enter Tryz.func199,Tryz.ntmps199
  have e1:IntKind.u64.wrap (x - 1)=x - 1:=IntWalk.u64_in _ (by omega);go_wp2_with (go_at_call 172;refine (Tryz.bits_Len (x - 1) w (by omega) (by omega)).mono ?_;rintro e w' ⟨rfl,rfl⟩)
  go_ret;exact ⟨ret_int (by unfold wd;rw [if_neg (by omega)]),rfl⟩
theorem RWidth_any (w:World) (x:Int) (h0:-9223372036854775808≤x) (h1:x≤1152921504606846976) :
  Calls Tryz.prog 179 #[.int .i64 x] w fun e w'=>e=.returned (.int .i64 (wd x.toNat:Nat))∧w=w':=by
 go_enter Tryz.func179,Tryz.ntmps179
 go_wp2
 go_loop [3,4] (fun n k=>∃ j:Nat,j≤60∧n=.int .i64 j∧k=.int .i64 (2 ^ j:Nat)∧(j=0∨((2 ^ (j - 1):Nat):Int) < x)) (fun n _=>62 - (intOf n).toNat)
 case atStart=>exact ⟨0,by omega,rfl,rfl,.inl rfl⟩
 case round =>
  obtain ⟨j,hj,rfl,rfl,hor⟩:=hrel;have h60:2 ^ j≤2 ^ 60:=Nat.pow_le_pow_right (by omega) (by omega);have h60':(2:Nat) ^ 60=1152921504606846976:=by decide
  rw [h60'] at h60;clear h60';by_cases hlt:((2 ^ j:Nat):Int) < x
  ·have hj59:j < 60:=by
    rcases Nat.lt_or_ge j 60 with h | h
    ·exact h
    ·obtain rfl:j=60:=by omega
     exfalso
     have:((2 ^ 60:Nat):Int)=1152921504606846976:=by decide
     omega
   have HP:=hid (show 2 ^ (j+1)=2 ^ j*2 from Nat.pow_succ ..);have HJ:=hid (show 2 ^ (j+1 - 1)=2 ^ j from rfl);have HO:=hid hor;clear hor;generalize 2 ^ j=p at *;go_wp2
   go_round
   case rel=>exact ⟨j+1,by omega,by go_num,by rw [HP.out];go_num,.inr (by rw [HJ.out];exact hlt)⟩
   case measure=>simp [intOf];omega
  ·have hw:wd x.toNat=j:=wd_eq x.toNat j (by omega) (Int.toNat_le.2 (Int.not_lt.1 hlt)) (hor.imp id Int.lt_toNat.2);have HW:=hid hw;clear hw hor;generalize 2 ^ j=p at *;go_wp2;go_ret;exact ⟨ret_int (by rw [HW.out]),rfl⟩
theorem BinarySearch_hit (w:World) (b:Nat) (A:Option Addr) (n c:Nat) (xs:List Nat) (x:Nat) (hn:n=xs.length) (hm:n≤4611686018427387904) (hr:Rd w b A (cN .u64 xs)) (hs:xs.Pairwise (· < ·)) (hx:x∈xs) :
  Calls Tryz.prog 200 #[.slice A n c,.int .u64 (x:Int)] w fun e w'=>e=.returned (.tuple #[.int .i64 (xs.idxOf x:Nat),.bool true])∧w=w':=by
 subst hn;obtain ⟨p,hp,hpx⟩:=List.getElem_of_mem hx;have hix:xs.idxOf x=p:=by
  refine idxOf_hit xs x p hp hpx ?_;intro h;obtain ⟨q,hq,hqx⟩:=List.getElem_of_mem h;rw [List.length_take] at hq;rw [List.getElem_take] at hqx;have:=List.pairwise_iff_getElem.1 hs q p (by omega) hp (by omega);omega
 rw [hix];have HIX:=hid hpx;have hmono:∀ i (hi:i < xs.length),(i < p→xs[i] < x)∧(p≤i→x≤xs[i]):=by
  intro i hi;constructor
  ·intro h;have:=List.pairwise_iff_getElem.1 hs i p hi hp h;omega
  ·intro h;rcases Nat.lt_or_ge p i with h' | h'
   ·have:=List.pairwise_iff_getElem.1 hs p i hp hi h';omega
   ·obtain rfl:i=p:=by omega
    omega
 have HM:=hid hmono;clear hmono hix hpx hs hx;go_enter Tryz.func200,Tryz.ntmps200
 go_wp2
 go_loop [7,8] (fun i j=>∃ l r:Nat,l≤p∧p≤r∧r≤xs.length∧i=.int .i64 l∧j=.int .i64 r) (fun i j=>((intOf j) - (intOf i)).toNat)
 case atStart=>exact ⟨0,xs.length,by omega,by omega,by omega,rfl,rfl⟩
 case round =>
  obtain ⟨l,r,h1,h2,h3,rfl,rfl⟩:=hrel;by_cases hlt:l < r
  ·have hh:(l+r) / 2 < xs.length:=by omega
   obtain ⟨o,rfl,_,hc⟩:=hr.get (k:=(l+r) / 2) (by simpa using hh);rw [List.getElem_map] at hc;have HV:=hid (HM.out ((l+r) / 2) hh);generalize hq:(l+r) / 2=q at *;have q1:2*q≤l+r:=by omega
   have q2:l+r < 2*q+2:=by omega
   have HQ:=hid hq;clear hq;have e1:IntKind.u64.wrap ((l:Int)+(r:Int))=(l:Int)+(r:Int):=IntWalk.u64_in _ (by omega);have e2:((l:Int)+(r:Int)) / 2=(q:Int):=by omega
   have e3:IntKind.i64.wrap (q:Int)=(q:Int):=IntWalk.i64_in _ (by omega);have i1:(q:Int) < (xs.length:Int):=by omega
   by_cases hc2:xs[q] < x
   ·go_wp2_with (go_at_call 225;refine (Less_any _ _ _).mono ?_;rintro e w' ⟨rfl,rfl⟩)
    go_round
    case rel =>
     have hqp:q < p:=by
      have:=HV.out.2;omega
     exact ⟨q+1,r,by omega,by omega,by omega,by go_num,rfl⟩
    case measure=>simp [intOf];omega
   ·go_wp2_with (go_at_call 225;refine (Less_any _ _ _).mono ?_;rintro e w' ⟨rfl,rfl⟩)
    go_round
    case rel =>
     have hqp:p≤q:=by
      have:=HV.out.1;omega
     exact ⟨l,q,by omega,by omega,by omega,rfl,rfl⟩
    case measure=>simp [intOf];omega
  ·obtain rfl:l=p:=by omega
   obtain rfl:r=l:=by omega
   obtain ⟨o,rfl,_,hc⟩:=hr.get (k:=r) (by simpa using hp);rw [List.getElem_map] at hc;have hv:=HIX.out;rw [hv] at hc;clear hv;go_wp2_with (go_at_call 226;refine (isNaN'_any _ _).mono ?_;rintro e w' ⟨rfl,rfl⟩)
   go_ret2;exact ⟨rfl,rfl⟩
theorem ins_split (d:List Nat) (x k:Nat) (hk:k≤d.length) (h1:∀ i (h:i < d.length),i < k→d[i] < x) (h2:∀ i (h:i < d.length),k≤i→x < d[i]):ins x d=d.take k++x::d.drop k:=by
 induction d generalizing k with
 | nil=>simp [ins]
 | cons y l ih =>
  unfold ins;cases k with
  | zero =>
   have:=h2 0 (by simp) (by omega);simp at this;simp [this]
  | succ k =>
   have:=h1 0 (by simp) (by omega);simp at this;rw [if_neg (by omega),if_neg (by omega),ih k (by simpa using hk) (fun i h h'=>by have:=h1 (i+1) (by simp;omega) (by omega);simpa using this) (fun i h h'=>by have:=h2 (i+1) (by simp;omega) (by omega);simpa using this)];simp
theorem ins_of_mem (d:List Nat) (x:Nat) (hd:d.Pairwise (· < ·)) (h:x∈d):ins x d=d :=
 asc_ext _ _ (ins_asc x d hd) hd fun z=>by rw [ins_mem];exact ⟨fun h'=>h'.elim (fun e=>e ▸ h) id,.inr⟩
def gap (d:List Nat) (k v:Nat):List Nat:=d.take k++v::d.drop k
theorem gap_length (d:List Nat) (k v:Nat) (hk:k≤d.length):(gap d k v).length=d.length+1:=by
 simp [gap];omega
theorem gap_prev (d:List Nat) (k v:Nat) (hk:k < d.length):(gap d (k+1) v)[k]? = some d[k]:=by
 unfold gap;rw [List.getElem?_append_left (by simp;omega),List.getElem?_take];simp [hk]
theorem gap_shift (d:List Nat) (k v:Nat) (hk:k < d.length):(gap d (k+1) v).set (k+1) d[k]=gap d k d[k]:=by
 unfold gap;rw [List.set_append_right _ _ (by simp;omega)];simp only [List.length_take];rw [show k+1 - min (k+1) d.length=0 from by omega,List.set_cons_zero,List.take_succ_eq_append_getElem hk,List.append_assoc];congr 1
 rw [List.singleton_append,← List.drop_eq_getElem_cons hk]
theorem gap_fill (d:List Nat) (k v x:Nat) (hk:k≤d.length):(gap d k v).set k x=gap d k x:=by
 unfold gap;rw [List.set_append_right _ _ (by simp;omega)];simp only [List.length_take];rw [show k - min k d.length=0 from by omega,List.set_cons_zero]
theorem RDict_any (w:World) (b:Nat) (A:Option Addr) (n c:Nat) (l:List Nat) (hn:n=l.length) (hm:n≤1000000000000) (hr:Rd w b A (cN .u64 l)) :
  Calls Tryz.prog 177 #[.slice A n c] w fun e w'=>∃ b' A' c',e=.returned (.slice A' (dict l).length c')∧Ow w' b' 92 1 A' (dict l).length c' (cN .u64 (dict l))∧w.heap.size≤b'∧Nw w w':=by
 subst hn;go_enter Tryz.func177,Tryz.ntmps177
 go_wp2;go_loopw [3,4] (fun s i wr=>∃ k:Nat,k≤l.length∧i=.int .i64 k∧∃ bk Ak ck,s=.slice Ak (dict (l.take k)).length ck∧Ow wr bk 92 1 Ak (dict (l.take k)).length ck (cN .u64 (dict (l.take k)))∧w.heap.size≤bk∧Nw w wr) (fun _ i _=>l.length - (intOf i).toNat)
 case atStart=>exact ⟨0,by omega,rfl,w.heap.size,none,0,rfl,Ow.nil _ _ _ _,Nat.le_refl _,Nw.refl w⟩
 case round =>
  obtain ⟨k,hk,rfl,bk,Ak,ck,rfl,hO,hbk,hN⟩:=hrel;by_cases hlt:k < l.length
  ·have hdl:(dict (l.take k)).length≤k:=by have:=dict_length (l.take k);rw [List.length_take] at this;omega
   obtain ⟨o,rfl,hbs,hc⟩:=(hr.nw hN).get (k:=k) (by simpa using hlt);have hb0:b < w.heap.size:=by
    rcases hr with h | ⟨_,_,h,_⟩
    ·simp at h;subst h;simp at hlt
    ·exact h
   rw [List.getElem_map] at hc;have HD:=hid (show dict (l.take (k+1))=ins l[k] (dict (l.take k)) from by rw [List.take_succ_eq_append_getElem hlt,dict_snoc]);have HA:=hid (dict_asc (l.take k));generalize hx:l[k]=x at *;generalize hd:dict (l.take k)=d at *;have HF:=hid (find_any wr bk Ak d.length ck d x rfl (by omega) hO.rd);have HO:=hid hO;have HX:=hid hx;clear hO hd hx;by_cases hin:x∈d
   ·have hfi:0≤findI d x:=by unfold findI;rw [if_pos hin];omega
    have HI:=hid hin;clear hin;go_wp2_with (go_at_call 178;refine HF.out.mono ?_;rintro e w' ⟨rfl,rfl⟩)
    go_roundw
    case rel =>
     refine ⟨k+1,by omega,by go_num,bk,Ak,ck,?_,?_,hbk,hN⟩<;>rw [HD.out,ins_of_mem d x HA.out HI.out]
     exact HO.out
    case measure=>simp [intOf];omega
   ·have hfi:¬ 0≤findI d x:=by unfold findI;rw [if_neg hin];omega
    have HI:=hid hin;clear hin;go_wp2_with (first | (go_at_call 178;refine HF.out.mono ?_;rintro e w' ⟨rfl,rfl⟩) | (at_builtin;refine wpList_app1 E_u64 rfl (.tmp 21) (.tmp 22) rfl rfl HO.out rfl rfl (by omega) (by omega) ?_;intro b1 A1 c1 w1 h1 h2 h3 h4))
    have hb1w:w.heap.size≤b1:=by
     have:=hN.size;rcases h2 with rfl | h2<;>omega
    have hN1:Nw w w1:=Kp.nw hN h3 hbk hbk;have h1':Ow w1 b1 92 1 A1 (d.length+1) c1 (cN .u64 (gap d d.length 0)):=by simpa [gap] using h1
    have H1:=hid h1';clear h1 h1' h3 h4 hc;go_loopw [5] (fun i w2=>∃ j v:Nat,j≤d.length∧i=.int .i64 j∧Ow w2 b1 92 1 A1 (d.length+1) c1 (cN .u64 (gap d j v))∧(∀ i (h:i < d.length),j≤i→x < d[i])∧Nw w w2) (fun i _=>(intOf i).toNat)
    case atStart=>exact ⟨d.length,0,by omega,rfl,H1.out,fun i h h'=>by omega,hN1⟩
    case round =>
     rename_i w2
     obtain ⟨j,v,hj,rfl,hO2,hgt,hN2⟩:=hrel;have HG:=hid hgt;clear hgt;have hcl:=(hr.nw hN2).get (k:=k) (by simpa using hlt);obtain ⟨o',ho',hbs2,hcl⟩:=hcl;obtain rfl:o=o':=by simpa using ho'
     rw [List.getElem_map,HX.out] at hcl;have i0:(k:Int) < (l.length:Int):=by omega
     have hbne:¬ b=b1:=by omega
     by_cases hj0:0 < j
     ·obtain ⟨j,rfl⟩:∃ i,j=i+1:=⟨j - 1,by omega⟩;have hjd:j < d.length:=by omega
      obtain ⟨rfl,hb1s,hcj,hfj⟩:=hO2.at_ (j:=j) (by omega);obtain ⟨_,_,hcj1,hfj1⟩:=hO2.at_ (j:=j+1) (by omega);rw [List.getElem?_map,gap_prev d j v hjd,Option.map_some] at hcj;rw [List.getElem?_map,List.getElem?_eq_getElem (by rw [gap_length _ _ _ hj];omega),Option.map_some] at hcj1;have hw1:(0:Int) < ((j+1:Nat):Int):=by omega
      have e1:IntKind.i64.wrap (((j+1:Nat):Int) - 1)=(j:Int):=by rw [IntWalk.i64_in _ (by omega)];omega
      have e2:IntKind.i64.wrap (j:Int)=(j:Int):=IntWalk.i64_in _ (by omega);have i1:(j:Int) < ((d.length+1:Nat):Int):=by omega
      have i2:(j:Int) < (d.length:Int)+1:=by omega
      have i3:(0:Int)≤(j:Int)+1:=by omega
      have i4:(j:Int)+1 < (d.length:Int)+1:=by omega
      have i5:((j:Int)+1).toNat=j+1:=by omega
      have HO2:=hid hO2;clear hO2;by_cases hcmp:x < d[j]
      ·go_wp2;go_quiet (fail)
       go_wp2;go_roundw
       case rel =>
        refine ⟨j,d[j],by omega,rfl,?_,?_,(hN2.drewN' nq).setCell' (by exact hb1w) _⟩
        ·have hs:=(HO2.out.nw (Nw.drewN wr nq)).set_ (j+1) (.int .u64 (d[j]:Nat));have e:(cN .u64 (gap d (j+1) v)).set (j+1) (.int .u64 (d[j]:Nat))=cN .u64 (gap d j d[j]):=by
          rw [← gap_shift d j v hjd];exact (List.map_set ..).symm
         rwa [e] at hs
        ·intro i h h';rcases Nat.lt_or_ge j i with h4 | h4
         ·exact HG.out i h h4
         ·obtain rfl:i=j:=by omega
          exact hcmp
       case measure=>simp [intOf]
      ·have hlo:∀ i (h:i < d.length),i < j+1→d[i] < x:=by
        intro i h h';have hne:d[j]≠x:=fun e=>HI.out (e ▸ List.getElem_mem _)
        rcases Nat.lt_or_ge i j with h4 | h4
        ·have:=List.pairwise_iff_getElem.1 HA.out i j h hjd h4;omega
        ·obtain rfl:i=j:=by omega
         omega
       have HI2:=hid (ins_split d x (j+1) hj hlo HG.out);clear hlo;go_wp2;go_quiet (fail)
       go_wp2;go_roundw
       case rel =>
        have hl:(ins x d).length=d.length+1:=by rw [HI2.out];simp;omega
        have hs:=(HO2.out.nw (Nw.drewN wr nq)).set_ (j+1) (.int .u64 (x:Int));have e:(cN .u64 (gap d (j+1) v)).set (j+1) (.int .u64 (x:Int))=cN .u64 (ins x d):=by
         rw [HI2.out,show d.take (j+1)++x::d.drop (j+1)=gap d (j+1) x from rfl,← gap_fill d (j+1) v x hj];exact (List.map_set ..).symm
        rw [e] at hs;exact ⟨k+1,by omega,by go_num,b1,some ⟨b1,0,none⟩,c1,by rw [HD.out,hl],by rw [HD.out,hl];exact hs,hb1w,(hN2.drewN' nq).setCell' (by exact hb1w) _⟩
       case measure=>simp [intOf];omega
     ·obtain rfl:j=0:=by omega
      have hd0:decide (((0:Nat):Int) > 0)=false:=by decide
      obtain ⟨rfl,hb1s,hcj,hfj⟩:=hO2.at_ (j:=0) (by omega);rw [List.getElem?_map,List.getElem?_eq_getElem (by rw [gap_length _ _ _ hj];omega),Option.map_some] at hcj;have HO2:=hid hO2;have i3:(0:Int) < (d.length:Int)+1:=by omega
      have HI2:=hid (ins_split d x 0 hj (fun i h h'=>by omega) HG.out);clear hO2;go_wp2;go_quiet (fail)
      go_wp2;go_roundw
      case rel =>
       have hl:(ins x d).length=d.length+1:=by rw [HI2.out];simp
       have hs:=(HO2.out.nw (Nw.drewN wr nq)).set_ 0 (.int .u64 (x:Int));have e:(cN .u64 (gap d 0 v)).set 0 (.int .u64 (x:Int))=cN .u64 (ins x d):=by
        rw [HI2.out,show d.take 0++x::d.drop 0=gap d 0 x from rfl,← gap_fill d 0 v x hj];exact (List.map_set ..).symm
       rw [e] at hs;exact ⟨k+1,by omega,by go_num,b1,some ⟨b1,0,none⟩,c1,by rw [HD.out,hl],by rw [HD.out,hl];exact hs,hb1w,(hN2.drewN' nq).setCell' (by exact hb1w) _⟩
      case measure=>simp [intOf];omega
  ·go_wp2;go_ret;rw [List.take_of_length_le (by omega)] at hO;exact ⟨bk,Ak,ck,by simp [List.take_of_length_le (show l.length≤k from by omega)],hO,hbk,hN⟩
end
end Go.Proofs.YtobfpajapgakdaaGreatDoor
