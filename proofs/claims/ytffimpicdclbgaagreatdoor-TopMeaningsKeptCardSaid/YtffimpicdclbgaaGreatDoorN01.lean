/- Walks of functions, and plain facts. -/
import Derived.WalkKit
import Derived.WalkLawsBesides
import Derived.WalkSpells
import Derived.Deep.QuietTactic
import Derived.BigQuiet
import Derived.IntWalk
import Derived.Lib.Hide
import Derived.Handy
import Derived.Lib.Strings
import Derived.Lib.Atoi
import Derived.Lib.AtoiAll
import Derived.Lib.TrimByte
import Derived.Test.YtffimpicdclbgaaGreatDoorProg
import Derived.Shelf.Strings.Prefix
import Derived.Shelf.Strings.Builder1
import Derived.Shelf.Strings.Trim
import Derived.Shelf.Small.Utf8
import Derived.Shelf.Small.Strs
import Derived.Shelf.Strings.BuilderF
import Derived.Shelf.Strings.BuilderK
import Derived.Shelf.Strconv.Atoi
import Derived.Shelf.Strconv.Itoa0
import Derived.Shelf.Strconv.Itoa1
import Derived.Shelf.LaysM
import Derived.Shelf.Strconv.Itoa2
import Derived.Shelf.Strconv.Itoa3
import Derived.Shelf.Strconv.AtoiErrFast
import Derived.Shelf.Strconv.ParseIntEmpty
import Derived.Shelf.Strconv.AtoiFail
import Derived.Shelf.Strconv.Clone
import Derived.Shelf.Strconv.SyntaxError
import Derived.Shelf.LaysC
import Derived.Shelf.Strconv.ToError
import Derived.Shelf.Strconv.Lower
import Derived.Shelf.Strconv.ParseUint10
import Derived.Shelf.Strconv.ParseUint10Empty
import Derived.Shelf.Strconv.ParseUint10Any
import Derived.Shelf.Strconv.ParseInt10
import Derived.Shelf.Strconv.AtoiLong
import Derived.Shelf.Strconv.AtoiInnerAll
import Derived.Shelf.Strconv.RangeError
import Derived.Shelf.Strconv.ToErrorRange
import Derived.Shelf.Strconv.AtoiAll
import Derived.Shelf.Strings.Search1
import Derived.Shelf.Strings.Fields
import Derived.Shelf.Strings.SplitShaped
import Derived.Shelf.Unicode.Latin
import Derived.Shelf.Strings.Runes
import Derived.Shelf.Strings.AsciiSet
import Derived.Shelf.Unicode.DecodeSlow
import Derived.Shelf.Unicode.Is16White
import Derived.Shelf.Unicode.IsSpaceAny
import Derived.Shelf.Unicode.Is16Any
import Derived.Shelf.Unicode.Is32Any
import Derived.Shelf.Unicode.ExclAny
import Derived.Shelf.Strings.BuilderCap
import Derived.Shelf.Slices.Turned
set_option linter.unusedVariables false
set_option linter.unusedSimpArgs false
set_option maxHeartbeats 20000000
set_option maxRecDepth 100000
namespace Go.Proofs.YtffimpicdclbgaaGreatDoor
open Go.Proofs.Tryz
open Go.RowKit
theorem Q2c(l:List UInt8):(ByteArray.mk l.toArray).size=l.length:=by simp[ByteArray.size]
@[go_sem] theorem Qsx(l:List UInt8)(k:Nat)(h:k<(ByteArray.mk l.toArray).size):(ByteArray.mk l.toArray)[k]'h=l[k]'(by rw[Q2c]at h;exact h):=rfl
attribute [go_sem] ByteArray.extract_mk ByteArray.toList_eq
@[go_sem] theorem Qsy{α:Type}(s:List α)(k:Nat):List.take (s.length-k) (List.drop k s)=List.drop k s:=List.take_of_length_le (by simp)
@[go_sem] theorem Qsw(a b:List UInt8):ByteArray.mk a.toArray++ByteArray.mk b.toArray=ByteArray.mk (a++b).toArray:=by apply ByteArray.ext;simp
theorem Qns{k:IntKind}{a b:Int}(h:a=b):Ending.returned (.int k a)=.returned (.int k b):=by rw[h]
theorem Qk{a b:Bool}(h:a=b):Ending.returned (.bool a)=.returned (.bool b):=by rw[h]
theorem Qd7{a b:List UInt8}(h:a=b):Ending.returned (.string ⟨a.toArray⟩)=.returned (.string ⟨b.toArray⟩):=by rw[h]
theorem qh{p:Prop}(h:p):RowKit.Hid p:=h
theorem qs{a b c:World}(h:RowKit.Hid (RowKit.Below a.heap.size a b))(k:RowKit.Below b.heap.size b c):RowKit.Hid (RowKit.Below a.heap.size a c):=h.out.trans (k.mono h.out.size)
theorem qt{a b c:World}(h:RowKit.Hid (RowKit.Below a.heap.size a b))(k:RowKit.Hid (RowKit.Below b.heap.size b c)):RowKit.Hid (RowKit.Below a.heap.size a c):=h.out.trans (k.out.mono h.out.size)
end Go.Proofs.YtffimpicdclbgaaGreatDoor
namespace Go.Proofs.YtffimpicdclbgaaGreatDoor
open Go.Proofs.Tryz
def Z0(c:Int):Bool:=(decide (97≤c)&&decide (c≤122))||(decide (65≤c)&&decide (c≤90))
def Qh(c:Int):Bool:=(decide (48≤c)&&decide (c≤57))
def Q3(c:Int):Bool:=Z0 c||Qh c
def Jh(c:Int):Bool:=(c==32)||(c==9)||(c==13)||(c==10)
def Zc(c:Int):Bool:=c !=10
def Q1(p:Int→Bool):List UInt8→Nat
 | []=>0
 | c::r=>if p c.toNat then Q1 p r+1 else 0
theorem Yf(p:Int→Bool)(l:List UInt8):Q1 p l≤l.length:=by
 induction l with
 | nil=>simp[Q1]
 | cons c r ih=>simp only[Q1];split<;>simp<;>omega
theorem Qo7{p:Int→Bool}{l:List UInt8}{k:Nat}(h:k<l.length)(hp:p (l[k].toNat)=true):Q1 p (l.drop k)=Q1 p (l.drop (k+1))+1:=by rw[List.drop_eq_getElem_cons h];simp[Q1,hp]
theorem Qo8{p:Int→Bool}{l:List UInt8}{k:Nat}(h:k<l.length)(hp:p (l[k].toNat)=false):Q1 p (l.drop k)=0:=by rw[List.drop_eq_getElem_cons h];simp[Q1,hp]
def skip:Bool→List UInt8→Nat
 | _,[]=>0
 | true,c::r=>if c.toNat=10 then skip false r+1 else skip true r+1
 | false,c::r=>if c.toNat=35 then skip true r+1 else if Jh c.toNat then skip false r+1 else 0
theorem Q26(b:Bool)(l:List UInt8):skip b l≤l.length:=by
 induction l generalizing b with
 | nil=>simp[skip]
 | cons c r ih=>have h1:=ih true;have h2:=ih false;cases b<;>simp only[skip]<;>(repeat' split)<;>simp<;>omega
theorem Qpo(l:List UInt8):skip false l=Q1 Jh l+skip false (l.drop (Q1 Jh l)):=by
 induction l with
 | nil=>simp[skip,Q1]
 | cons c r ih=>
  by_cases h:c.toNat=35
  ·have:Jh c.toNat=false:=by simp[Jh,h]
   simp[Q1,this]
  ·cases hb:Jh c.toNat
   ·simp[Q1,hb]
   ·simp only[Q1,hb,if_true,skip,h,if_false,List.drop_succ_cons];omega
theorem Qpp(r:List UInt8):skip true r=Q1 Zc r+skip false (r.drop (Q1 Zc r)):=by
 induction r with
 | nil=>simp[skip,Q1]
 | cons c r ih=>
  by_cases h:c.toNat=10
  ·have h1:Zc c.toNat=false:=by simp[Zc,h]
   have h2:Jh c.toNat=true:=by simp[Jh,h]
   rw[skip,if_pos h,Q1,if_neg (by simp[h1]),List.drop_zero,skip,if_neg (by omega),if_pos h2];omega
  ·have h1:Zc c.toNat=true:=by simp[Zc];omega
   simp only[Q1,h1,if_true,skip,h,if_false,List.drop_succ_cons];omega
theorem Qpq{l:List UInt8}(h:Lib.hasPrefix l [35]=true):skip false l=Q1 Zc l+skip false (l.drop (Q1 Zc l)):=by
 cases l with
 | nil=>simp[Lib.hasPrefix]at h
 | cons c r=>
  have hc:c=35:=by
   have:(35:UInt8)=c:=by simpa[Lib.hasPrefix,List.isPrefixOf]using h
   exact this.symm
  subst hc;have:=Qpp r;simp only[skip,Q1];rw[if_pos (by rfl),if_pos (by simp[Zc]),List.drop_succ_cons];omega
theorem Qo4{l:List UInt8}(h:Lib.hasPrefix l [35]=true):0<Q1 Zc l:=by
 cases l with
 | nil=>simp[Lib.hasPrefix]at h
 | cons c r=>
  have hc:c=35:=by
   have:(35:UInt8)=c:=by simpa[Lib.hasPrefix,List.isPrefixOf]using h
   exact this.symm
  subst hc;rw[Q1,if_pos (by simp[Zc])];omega
theorem Qpr{l:List UInt8}(h:Lib.hasPrefix l [35]=false)(hb:Q1 Jh l=0):skip false l=0:=by
 cases l with
 | nil=>rfl
 | cons c r=>
  have hc:¬ c.toNat=35:=by intro e;have:c=35:=UInt8.toNat_inj.1 e;simp[Lib.hasPrefix,List.isPrefixOf,this]at h
  simp only[Q1]at hb;simp only[skip,hc,if_false];split
  ·rename_i h';simp[h']at hb
  ·rfl
def Q1d:Nat→List UInt8→Option Nat
 | n,[]=>some n
 | n,c::r=>if 1048576<10*n+(c.toNat-48)then none else Q1d (10*n+(c.toNat-48)) r
def Q4a:List UInt8:=[59,44,58,40,41,123,125,43,45,61,60]
def Zv:List UInt8→Nat
 | []=>0
 | [c]=>if Q4a.contains c then 1 else 0
 | c::d::_=>if d=61∧(c=60∨c=33)then 2 else if Q4a.contains c then 1 else 0
theorem Q2t(l:List UInt8):Zv l≤l.length:=by
 match l with
 | []=>simp[Zv]
 | [c]=>simp only[Zv];split<;>simp
 | c::d::r=>simp only[Zv];(repeat' split)<;>simp
def tok(l:List UInt8):Except (Nat×Nat) (Nat×Nat):=
 if Q1 Q3 l=0 then
  if Zv l=0 then .error (0,4)else .ok (2,Zv l)
 else if Q1 Z0 l=0 then
  if Q1 Qh l<Q1 Q3 l then .error (Q1 Qh l,4)
  else if(Q1d 0 (l.take (Q1 Q3 l))).isNone then .error (0,2)
  else .ok (1,Q1 Q3 l)
 else if 24<Q1 Q3 l then .error (0,8)
 else .ok (0,Q1 Q3 l)
structure Tok where
 kind:Int
 text:List UInt8
 pos:Int
deriving DecidableEq
def Qw:Nat→Nat→List UInt8→Except (Nat×Nat) (List Tok)
 | 0,_,_=>.ok []
 | f+1,p,l=>
  let k:=skip false l
  match l.drop k with
  | []=>.ok [⟨3,[],((p+k:Nat):Int)⟩]
  | c::r=>
   match tok (c::r)with
   | .error (d,e)=>.error (p+k+d,e)
   | .ok (kind,n)=>
    match Qw f (p+k+n) ((c::r).drop n)with
    | .error x=>.error x
    | .ok ts=>.ok (⟨kind,(c::r).take n,((p+k:Nat):Int)⟩::ts)
def scan(l:List UInt8):Except (Nat×Nat) (List Tok):=if 65536<l.length then .error (0,13)else Qw (l.length+1) 0 l
def dv(n:Nat)(l:List UInt8):Nat:=l.foldl (fun n c=>10*n+(c.toNat-48)) n
theorem Qbg(n:Nat):dv n []=n:=rfl
theorem Q0x(n:Nat)(c:UInt8)(r:List UInt8):dv n (c::r)=dv (10*n+(c.toNat-48)) r:=by unfold dv;rw[List.foldl_cons]
theorem Q4v(l:List UInt8):∀n,n*10 ^ l.length≤dv n l:=by
 induction l with
 | nil=>intro n;simp[Qbg]
 | cons c r ih=>
  intro n;have e:n*10 ^ (c::r).length=10*n*10 ^ r.length:=by rw[List.length_cons,Nat.pow_succ,Nat.mul_comm (10 ^ r.length) 10,←Nat.mul_assoc,Nat.mul_comm n 10]
  rw[e];have e2:dv n (c::r)=dv (10*n+(c.toNat-48)) r:=Q0x n c r;rw[e2];have h1:10*n≤10*n+(c.toNat-48):=Nat.le_add_right _ _;have h2:=Nat.mul_le_mul_right (10 ^ r.length) h1;exact Nat.le_trans h2 (ih _)
theorem Q9r(l:List UInt8):∀n,n≤1048576→Q1d n l=if dv n l≤1048576 then some (dv n l)else none:=by
 induction l with
 | nil=>intro n h;simp[Q1d,Qbg,h]
 | cons c r ih=>
  intro n h;have e:dv n (c::r)=dv (10*n+(c.toNat-48)) r:=Q0x n c r;rw[e,Q1d];by_cases hg:1048576<10*n+(c.toNat-48)
  ·have h1:=Q4v r (10*n+(c.toNat-48))
   have h2:0<10 ^ r.length:=Nat.pow_pos (by omega);have h3:10*n+(c.toNat-48)≤(10*n+(c.toNat-48))*10 ^ r.length:=Nat.le_mul_of_pos_right _ h2;rw[if_pos hg,if_neg (by omega)]
  ·rw[if_neg hg];exact ih _ (by omega)
theorem Qbi(l:List UInt8):dv 0 (l.dropWhile (·==48))=dv 0 l:=by
 induction l with
 | nil=>rfl
 | cons c r ih=>
  by_cases h:c=48
  ·subst h;rw[List.dropWhile_cons_of_pos (by rfl),ih];rfl
  ·have:(c==(48:UInt8))=false:=by simpa using h
   simp[List.dropWhile,this]
theorem Qi5{l:List UInt8}(hd:∀c∈l,Qh c.toNat=true)(h:7<(l.dropWhile (·==48)).length):1048576<dv 0 l:=by
 rw[←Qbi];match hm:l.dropWhile (·==48),h with
 | c::r,h=>
  have hne:¬ c=48:=by intro e;have:=List.head_dropWhile_not (p:=(·==(48:UInt8))) (l:=l) (by rw[hm];simp);simp[hm,e]at this
  have hmem:c∈l:=by
   have:c∈l.dropWhile (·==48):=by rw[hm];simp
   exact(List.dropWhile_sublist _).subset this
  have hdc:=hd c hmem;simp only[Qh,Bool.and_eq_true,decide_eq_true_eq]at hdc;have hn:¬ c.toNat=48:=fun e=>hne (UInt8.toNat_inj.1 e)
  have h1:=Q4v r (10*0+(c.toNat-48));rw[Q0x];have h2:7≤r.length:=by simp at h;omega
  have h3:10 ^ 7≤10 ^ r.length:=Nat.pow_le_pow_right (by omega) h2;have h4:1*10 ^ r.length≤(10*0+(c.toNat-48))*10 ^ r.length:=Nat.mul_le_mul_right _ (by omega);omega
theorem Qhu(l:List UInt8)(hd:∀c∈l,Qh c.toNat=true):∀n,Lib.decFrom n l=some (dv n l):=by
 induction l with
 | nil=>intro n;rfl
 | cons c r ih=>
  intro n;have hdc:=hd c (by simp);simp only[Qh,Bool.and_eq_true,decide_eq_true_eq]at hdc;have:Lib.digitVal c=some (c.toNat-48):=by unfold Lib.digitVal;rw[if_pos (by omega)]
  rw[Lib.decFrom,this,Q0x];simp only;rw[ih (fun c h=>hd c (by simp[h])),Nat.mul_comm]
theorem Qg0(l:List UInt8)(hd:∀c∈l,Qh c.toNat=true):Lib.atoi (48::l)=some ((dv 0 l:Nat):Int):=by
 have h0:Lib.decNat (48::l)=some (dv 0 l):=by
  unfold Lib.decNat
  rw[if_neg (by simp),Qhu _ (fun c h=>(List.mem_cons.1 h).elim (fun e=>by rw[e];rfl) (hd c))];rfl
 simp[Lib.atoi,h0]
theorem Qr7{l:List UInt8}(hd:∀c∈l,Qh c.toNat=true):∀c∈l.dropWhile (·==(48:UInt8)),Qh c.toNat=true:=fun c h=>hd c ((List.dropWhile_sublist _).subset h)
def Q11(l:List UInt8):Bool:=decide (1048576<dv 0 l)
theorem Qbv(l:List UInt8):Q11 l=(Q1d 0 l).isNone:=by
 rw[Q9r l 0 (by omega),Q11];split
 ·simp;omega
 ·simp;omega
theorem Qdb{p:Int→Bool}{l:List UInt8}(h:Q1 p l=l.length):∀c∈l,p c.toNat=true:=by
 induction l with
 | nil=>simp
 | cons c r ih=>
  simp only[Q1]at h;split at h
  ·rename_i hc
   intro x hx;rcases List.mem_cons.1 hx with rfl|hx
   ·exact hc
   ·exact ih (by simpa using h) x hx
  ·simp at h
theorem Qde(p:Int→Bool)(l:List UInt8):∀c∈l.take (Q1 p l),p c.toNat=true:=by
 induction l with
 | nil=>simp
 | cons c r ih=>
  simp only[Q1];split
  ·rename_i hc
   intro x hx;rcases List.mem_cons.1 (by simpa using hx)with rfl|hx
   ·exact hc
   ·exact ih x hx
  ·simp
theorem Q47{p:Int→Bool}{l:List UInt8}:∀{n:Nat},n≤l.length→Q1 p (l.take n)=min n (Q1 p l):=by
 induction l with
 | nil=>intro n h;simp[Q1]
 | cons c r ih=>
  intro n h;cases n with
  | zero=>simp[Q1]
  | succ n=>
   simp only[List.take_succ_cons,Q1];split
   ·rw[ih (by simpa using h)];omega
   ·simp
def Qq:List (List UInt8):=[[60,61],[33,61],[59],[44],[58],[40],[41],[123],[125],[43],[45],[61],[60]]
def Jq:List (List UInt8)→List UInt8→List UInt8
 | [],_=>[]
 | x::r,s=>if Lib.hasPrefix s x then x else Jq r s
theorem Qbw(a c:UInt8)(x r:List UInt8):Lib.hasPrefix (c::r) (a::x)=(a==c&&Lib.hasPrefix r x):=rfl
theorem Qbx(r:List UInt8):Lib.hasPrefix r []=true:=by cases r<;>rfl
theorem Qje(a:UInt8)(x:List UInt8):Lib.hasPrefix [] (a::x)=false:=rfl
theorem Q2g(l:List UInt8):Jq Qq l=l.take (Zv l):=by
 match l with
 | []=>decide
 | [c]=>
  simp only[Jq,Qq,Qbw,Qbx,Qje,Bool.and_false,Bool.and_true,Zv,Q4a];by_cases h1:c=59;· subst h1;decide
  by_cases h2:c=44;· subst h2;decide
  by_cases h3:c=58;· subst h3;decide
  by_cases h4:c=40;· subst h4;decide
  by_cases h5:c=41;· subst h5;decide
  by_cases h6:c=123;· subst h6;decide
  by_cases h7:c=125;· subst h7;decide
  by_cases h8:c=43;· subst h8;decide
  by_cases h9:c=45;· subst h9;decide
  by_cases h10:c=61;· subst h10;decide
  by_cases h11:c=60;· subst h11;decide
  simp[Ne.symm h1,Ne.symm h2,Ne.symm h3,Ne.symm h4,Ne.symm h5,Ne.symm h6,Ne.symm h7,Ne.symm h8,Ne.symm h9,Ne.symm h10,Ne.symm h11,h1,h2,h3,h4,h5,h6,h7,h8,h9,h10,h11]
 | c::d::r=>
  simp only[Jq,Qq,Qbw,Qbx,Bool.and_true,Zv,Q4a];by_cases hd:d=61
  ·subst hd
   by_cases h11:c=60;· subst h11;simp
   by_cases h12:c=33;· subst h12;simp
   by_cases h1:c=59;· subst h1;simp
   by_cases h2:c=44;· subst h2;simp
   by_cases h3:c=58;· subst h3;simp
   by_cases h4:c=40;· subst h4;simp
   by_cases h5:c=41;· subst h5;simp
   by_cases h6:c=123;· subst h6;simp
   by_cases h7:c=125;· subst h7;simp
   by_cases h8:c=43;· subst h8;simp
   by_cases h9:c=45;· subst h9;simp
   by_cases h10:c=61;· subst h10;simp
   simp[Ne.symm h1,Ne.symm h2,Ne.symm h3,Ne.symm h4,Ne.symm h5,Ne.symm h6,Ne.symm h7,Ne.symm h8,Ne.symm h9,Ne.symm h10,Ne.symm h11,Ne.symm h12,h1,h2,h3,h4,h5,h6,h7,h8,h9,h10,h11,h12]
  ·by_cases h11:c=60;· subst h11;simp[hd,Ne.symm hd]
   by_cases h1:c=59;· subst h1;simp[hd]
   by_cases h2:c=44;· subst h2;simp[hd]
   by_cases h3:c=58;· subst h3;simp[hd]
   by_cases h4:c=40;· subst h4;simp[hd]
   by_cases h5:c=41;· subst h5;simp[hd]
   by_cases h6:c=123;· subst h6;simp[hd]
   by_cases h7:c=125;· subst h7;simp[hd]
   by_cases h8:c=43;· subst h8;simp[hd]
   by_cases h9:c=45;· subst h9;simp[hd]
   by_cases h10:c=61;· subst h10;simp[hd]
   simp[hd,Ne.symm hd,Ne.symm h1,Ne.symm h2,Ne.symm h3,Ne.symm h4,Ne.symm h5,Ne.symm h6,Ne.symm h7,Ne.symm h8,Ne.symm h9,Ne.symm h10,Ne.symm h11,h1,h2,h3,h4,h5,h6,h7,h8,h9,h10,h11]
theorem Q5v(l:List UInt8):∀b,skip false (l.drop (skip b l))=0:=by
 induction l with
 | nil=>intro b;simp[skip]
 | cons c r ih=>
  intro b;cases b
  ·simp only[skip]
   split
   ·exact ih true
   ·split
    ·exact ih false
    ·rename_i h1 h2;simp[skip,h1,h2]
  ·simp only[skip]
   split
   ·exact ih false
   ·exact ih true
theorem Q0d{l:List UInt8}{kind n:Nat}(h:tok l=.ok (kind,n)):0<n∧n≤l.length:=by have hw:=Yf Q3 l;have hs:=Q2t l;unfold tok at h;(repeat' split at h)<;>simp at h<;>omega
theorem Qdj(f:Nat):∀(g p:Nat) (l:List UInt8),l.length<f→l.length<g→Qw f p l=Qw g p l:=by
 induction f with
 | zero=>intro g p l h;omega
 | succ f ih=>
  intro g p l hf hg;cases g with
  | zero=>omega
  | succ g=>
   have hk:=Q26 false l;simp only[Qw];split
   ·rfl
   ·rename_i c r hd
    have hlen:(c::r).length=l.length-skip false l:=by rw[←hd];simp
    cases ht:tok (c::r)with
    | error x=>rfl
    | ok x=>obtain⟨kind,n⟩:=x;have hp:=Q0d ht;simp only[];rw[ih g _ _ (by simp only[List.length_drop];omega) (by simp only[List.length_drop];omega)]
def Z5(p:Nat)(l:List UInt8):Except (Nat×Nat) (List Tok):=Qw (l.length+1) p l
def app(ts:List Tok):Except (Nat×Nat) (List Tok)→Except (Nat×Nat) (List Tok)
 | .ok us=>.ok (ts++us)
 | .error x=>.error x
theorem Qa5(a b:List Tok)(x:Except (Nat×Nat) (List Tok)):app a (app b x)=app (a++b) x:=by cases x<;>simp[app]
theorem Qfk(x:Except (Nat×Nat) (List Tok)):app [] x=x:=by cases x<;>rfl
theorem Q48(p:Nat)(l:List UInt8):Z5 p l=Z5 (p+skip false l) (l.drop (skip false l)):=by
 have hk:=Q26 false l;rw[Z5,Z5,Qw,Qw,Q5v];simp only[List.drop_zero,Nat.add_zero];split
 ·rfl
 ·rename_i c r hd
  have hlen:(c::r).length=l.length-skip false l:=by rw[←hd];simp
  cases ht:tok (c::r)with
  | error x=>rfl
  | ok x=>obtain⟨kind,n⟩:=x;have hp:=Q0d ht;simp only[];rw[Qdj l.length (l.drop (skip false l)).length _ _ (by simp only[List.length_drop];omega) (by simp only[List.length_drop];omega)]
theorem Qdm(p:Nat):Z5 p []=.ok [⟨3,[],p⟩]:=by simp[Z5,Qw,skip]
theorem Qdl{p:Nat}{l:List UInt8}{d e:Nat}(h0:skip false l=0)(hl:l≠[])(ht:tok l=.error (d,e)):Z5 p l=.error (p+d,e):=by
 match l,hl with
 | c::r,_=>simp[Z5,Qw,h0,ht]
theorem Q93{p:Nat}{l:List UInt8}{kind n:Nat}(h0:skip false l=0)(hl:l≠[])(ht:tok l=.ok (kind,n)):
  Z5 p l=app [⟨kind,l.take n,p⟩] (Z5 (p+n) (l.drop n)):=by
 match l,hl with
 | c::r,_=>
  have hp:=Q0d ht;have hle:(c::r).length<(c::r).length+1:=by omega
  rw[Z5,Z5,Qw,h0];simp only[List.drop_zero,ht,Nat.add_zero];rw[Qdj (c::r).length (((c::r).drop n).length+1) _ _ (by simp only[List.length_drop];omega) (by omega)];cases Qw (((c::r).drop n).length+1) (p+n) ((c::r).drop n)<;>simp[app]
theorem Qdp{l:List UInt8}(h:l.length≤65536):scan l=Z5 0 l:=by rw[scan,if_neg (by omega),Z5]
def Qu(l:List UInt8):Nat×Nat×Nat:=
 if Q1 Z0 l=0 then
  if Q1 Qh l<l.length then(0,Q1 Qh l,4)
  else if Q11 l then(0,0,2)
  else(1,0,0)
 else if 24<l.length then(0,0,8)
 else(0,0,0)
theorem Qse(l:List UInt8):(Qu l).2.1≤l.length:=by have:=Yf Qh l;unfold Qu;(repeat' split)<;>simp<;>omega
theorem Q9u{l:List UInt8}(h:0<Q1 Q3 l):
  tok l=if(Qu (l.take (Q1 Q3 l))).2.2=0 then .ok ((Qu (l.take (Q1 Q3 l))).1,Q1 Q3 l)
   else .error ((Qu (l.take (Q1 Q3 l))).2.1,(Qu (l.take (Q1 Q3 l))).2.2):=by
 have hle:=Yf Q3 l;have h1:=Q47 (p:=Z0) (l:=l) hle;have h2:=Q47 (p:=Qh) (l:=l) hle;have h3:(l.take (Q1 Q3 l)).length=Q1 Q3 l:=by simp;omega
 by_cases a:Q1 Z0 l=0
 ·by_cases b:Q1 Qh l<Q1 Q3 l
  ·have hw:Qu (l.take (Q1 Q3 l))=(0,Q1 Qh l,4):=by
    rw[Qu,h1,h2,h3,if_pos (by omega),if_pos (by omega),Nat.min_eq_right (by omega)]
   rw[hw,tok,if_neg (by omega),if_pos a,if_pos b];rfl
  ·cases g:(Q1d 0 (l.take (Q1 Q3 l))).isNone
   ·have hw:Qu (l.take (Q1 Q3 l))=(1,0,0):=by
     rw[Qu,h1,h2,h3,if_pos (by omega),if_neg (by omega),Qbv,g];rfl
    rw[hw,tok,if_neg (by omega),if_pos a,if_neg b,g];rfl
   ·have hw:Qu (l.take (Q1 Q3 l))=(0,0,2):=by
     rw[Qu,h1,h2,h3,if_pos (by omega),if_neg (by omega),Qbv,g];rfl
    rw[hw,tok,if_neg (by omega),if_pos a,if_neg b,g];rfl
 ·by_cases b:24<Q1 Q3 l
  ·have hw:Qu (l.take (Q1 Q3 l))=(0,0,8):=by
    rw[Qu,h1,h3,if_neg (by omega),if_pos b]
   rw[hw,tok,if_neg (by omega),if_neg a,if_pos b];rfl
  ·have hw:Qu (l.take (Q1 Q3 l))=(0,0,0):=by
    rw[Qu,h1,h3,if_neg (by omega),if_neg b]
   rw[hw,tok,if_neg (by omega),if_neg a,if_neg b];rfl
theorem Q62{l:List UInt8}(h:Q1 Q3 l=0):tok l=if(Jq Qq l)=[]then .error (0,4)else .ok (2,(Jq Qq l).length):=by
 have hs:=Q2t l;rw[Q2g];unfold tok;rw[if_pos h];by_cases h0:Zv l=0
 ·simp[h0]
 ·rw[if_neg h0,if_neg]
  ·rw[List.length_take,Nat.min_eq_left hs]
  ·intro e
   have:=congrArg List.length e;rw[List.length_take,List.length_nil]at this;omega
section
inductive Syn where
 | mk (kind:Int) (text:List UInt8) (num:Int) (pos:Int) (kids:List Syn)
def Syn.kind:Syn→Int|.mk k _ _ _ _=>k
def Syn.text:Syn→List UInt8|.mk _ t _ _ _=>t
def Syn.num:Syn→Int|.mk _ _ n _ _=>n
def Syn.pos:Syn→Int|.mk _ _ _ p _=>p
def Syn.kids:Syn→List Syn|.mk _ _ _ _ l=>l
def Z6:Syn:=.mk 0 [] 0 0 []
inductive Out (α:Type) where
 | none
 | err (pos:Int) (e:Nat)
 | ok (a:α) (i:Nat)
def Out.bind{α β:Type}(x:Out α)(f:α→Nat→Out β):Out β:=match x with|.none=>.none|.err p e=>.err p e|.ok a i=>f a i
def Out.map{α β:Type}(x:Out α)(f:α→β):Out β:=x.bind fun a i=>.ok (f a) i
theorem Out.bind_ok(o:Out Syn):o=o.bind fun x j=>.ok x j:=by cases o<;>rfl
theorem Out.bind_assoc{α β γ:Type}(o:Out α)(f:α→Nat→Out β)(g:β→Nat→Out γ):(o.bind f).bind g=o.bind fun a i=>(f a i).bind g:=by cases o<;>rfl
def Q9f:Tok:=⟨3,[],0⟩
def tk(T:List Tok)(i:Nat):Tok:=T.getD i Q9f
def isW(T:List Tok)(ws:List (List UInt8))(i:Nat):Bool:=(decide ((tk T i).kind=2)||decide ((tk T i).kind=0))&&ws.contains (tk T i).text
def nx(T:List Tok)(i:Nat):Nat:=if i+1<T.length then i+1 else i
def fail{α:Type}(T:List Tok)(e:Nat)(i:Nat):Out α:=.err (tk T i).pos e
def need(T:List Tok)(s:List UInt8)(i:Nat):Out Tok:=if isW T [s] i then .ok (tk T i) (nx T i)else fail T 4 i
section
variable (res:List UInt8→Bool) (T:List Tok)
def name(i:Nat):Out Syn:=if(tk T i).kind≠0∨res (tk T i).text=true then fail T 4 i else .ok (.mk 8 (tk T i).text 0 (tk T i).pos []) (nx T i)
def number(i:Nat):Out Syn:=if(tk T i).kind≠1 then fail T 4 i else .ok (.mk 9 [] (dv 0 (tk T i).text:Nat) (tk T i).pos []) (nx T i)
abbrev Rd:=Nat→Nat→Out Syn
def within(r:Rd):Rd:=fun lv i=>if 128<lv+1 then fail T 12 i else r (lv+1) i
def parens(r:Rd):Rd:=fun lv i=>(need T [40] i).bind fun _ i=>(within T r lv i).bind fun x i=>(need T [41] i).bind fun _ i=>.ok x i
def Jo:List Rd→Nat→Nat→Out (List Syn)
 | [],_,i=>.ok [] i
 | r::rs,lv,i=>(r lv i).bind fun x i=>(argsMore rs lv i).bind fun xs i=>.ok (x::xs) i
where
 argsMore:List Rd→Nat→Nat→Out (List Syn)
 | [],_,i=>.ok [] i
 | r::rs,lv,i=>(need T [44] i).bind fun _ i=>(r lv i).bind fun x i=>(argsMore rs lv i).bind fun xs i=>.ok (x::xs) i
def arguments(word:Tok)(rs:List Rd):Rd:=fun lv i=>(need T [40] i).bind fun _ i=>if 128<lv+1 then fail T 12 i else(Jo T rs (lv+1) i).bind fun xs i=>(need T [41] i).bind fun _ i=>.ok (.mk 10 word.text 0 word.pos xs) i
def binary(op:List UInt8)(num:Int)(a b:Syn):Syn:=.mk 11 op num a.pos [a,b]
def Z7(r:Rd)(ops:List (List UInt8))(lv:Nat):Nat→Syn→Nat→Out Syn
 | 0,_,_=>.none
 | g+1,x,i=>if isW T ops i then(r lv (nx T i)).bind fun y j=>Z7 r ops lv g (binary (tk T i).text 0 x y) j else .ok x i
def left(r:Rd)(ops:List (List UInt8)):Rd:=fun lv i=>(r lv i).bind fun x i=>Z7 T r ops lv (T.length+1) x i
inductive NT where
 | cond|conj|neg|sum|unit|scheme|term|factor|atom|formula|disj|meet|lit
deriving DecidableEq
def kNot:List UInt8:=[110,111,116]
def kOr:List UInt8:=[111,114]
def kAnd:List UInt8:=[97,110,100]
def Q09:Nat→List Syn→Nat→Out (List Syn)
 | 0,_,_=>.none
 | g+1,xs,i=>if isW T [[44]] i then(number T (nx T i)).bind fun y j=>Q09 g (xs++[y]) j else .ok xs i
def setR(i:Nat):Out Syn:=
 if isW T [[101,118,101,114,121,111,110,101]] i then .ok (.mk 14 (tk T i).text 0 (tk T i).pos []) (nx T i)
 else(need T [123] i).bind fun _ j=>
  if isW T [[125]] j then .ok (.mk 14 [] 0 (tk T i).pos []) (nx T j)
  else(number T j).bind fun x j=>(Q09 T (T.length+1) [x] j).bind fun xs j=>(need T [125] j).bind fun _ j=>.ok (.mk 14 [] 0 (tk T i).pos xs) j
def notR(r:Rd):Rd:=fun lv i=>(within T r lv (nx T i)).bind fun x j=>.ok (.mk 12 [] 0 (tk T i).pos [x]) j
def rd:Nat→NT→Rd
 | 0,_=>fun _ _=>.none
 | f+1,.cond=>left T (rd f .conj) [kOr]
 | f+1,.conj=>left T (rd f .neg) [kAnd]
 | f+1,.neg=>fun lv i=>
  if isW T [kNot] i then notR T (rd f .neg) lv i
  else if isW T [[97,108,108],[115,111,109,101]] i then
   (name res T (nx T i)).bind fun v j=>(need T [58] j).bind fun _ j=>(within T (rd f .cond) lv j).bind fun x j=>.ok (.mk 13 (tk T i).text 0 (tk T i).pos [v,x]) j
  else(rd f .sum lv i).bind fun x j=>
   if isW T [[61],[33,61],[60],[60,61]] j then(rd f .sum lv (nx T j)).bind fun y l=>.ok (binary (tk T j).text 0 x y) l
   else .ok x j
 | f+1,.sum=>left T (rd f .unit) [[43],[45]]
 | f+1,.unit=>fun lv i=>
  if(tk T i).kind=1 then number T i
  else if isW T [[105,110],[111,117,116]] i then arguments T (tk T i) [rd f .sum] lv (nx T i)
  else if isW T [[104,101,97,114,115]] i then arguments T (tk T i) [rd f .sum,rd f .sum] lv (nx T i)
  else if isW T [[99,111,117,110,116]] i then
   (name res T (nx T i)).bind fun v j=>(parens T (rd f .cond) lv j).bind fun x j=>.ok (.mk 13 (tk T i).text 0 (tk T i).pos [v,x]) j
  else if isW T [[40]] i then parens T (rd f .cond) lv i
  else name res T i
 | f+1,.scheme=>left T (rd f .term) [kOr]
 | f+1,.term=>left T (rd f .factor) [kAnd]
 | f+1,.factor=>fun lv i=>(rd f .atom lv i).bind fun x j=>
  if isW T [[116,104,101,110]] j then(number T (nx T j)).bind fun n j=>(within T (rd f .factor) lv j).bind fun y j=>.ok (binary [116,104,101,110] n.num x y) j
  else .ok x j
 | f+1,.atom=>fun lv i=>
  if isW T [[99,114,97,115,104],[115,101,110,100],[114,101,99,101,105,118,101],[111,109,105,116],[112,97,114,116,105,116,105,111,110]] i then arguments T (tk T i) [fun _=>number T] lv (nx T i)
  else if isW T [[115,110,97,112,115,104,111,116]] i then .ok (.mk 10 (tk T i).text 0 (tk T i).pos []) (nx T i)
  else if isW T [[103,114,97,112,104,115]] i then arguments T (tk T i) [rd f .cond] lv (nx T i)
  else if isW T [[40]] i then parens T (rd f .scheme) lv i
  else name res T i
 | f+1,.formula=>fun lv i=>(rd f .disj lv i).bind fun x j=>
  if isW T [[117,110,116,105,108]] j then(within T (rd f .formula) lv (nx T j)).bind fun y j=>.ok (binary [117,110,116,105,108] 0 x y) j
  else .ok x j
 | f+1,.disj=>left T (rd f .meet) [kOr]
 | f+1,.meet=>left T (rd f .lit) [kAnd]
 | f+1,.lit=>fun lv i=>
  if isW T [kNot] i then notR T (rd f .lit) lv i
  else if isW T [[116,114,117,101]] i then .ok (.mk 10 (tk T i).text 0 (tk T i).pos []) (nx T i)
  else if isW T [[40]] i then parens T (rd f .formula) lv i
  else if isW T [[105,110,112,117,116],[104,101,97,114,100],[100,101,99,105,100,101,100]] i then arguments T (tk T i) [fun _=>number T,fun _=>number T] lv (nx T i)
  else if isW T [[103,105,118,101,110],[102,97,117,108,116,121],[97,116]] i then arguments T (tk T i) [fun _=>number T] lv (nx T i)
  else if isW T [[75]] i then arguments T (tk T i) [fun _=>number T,rd f .formula] lv (nx T i)
  else if isW T [[69],[68],[67]] i then arguments T (tk T i) [fun _=>setR T,rd f .formula] lv (nx T i)
  else if isW T [[110,101,120,116],[97,108,119,97,121,115],[101,118,101,110,116,117,97,108,108,121]] i then arguments T (tk T i) [rd f .formula] lv (nx T i)
  else fail T 4 i
def part(f:Nat)(kind:Int):Rd:=fun lv i=>(rd res T f .cond lv (nx T i)).bind fun x j=>.ok (.mk kind [] 0 (tk T i).pos [x]) j
def whole(r:Rd):Out Syn:=(r 0 0).bind fun x i=>if(tk T i).kind=3 then .ok x i else fail T 4 i
end
end
mutual
/- Two trees are alike up to their offsets, which P relates. -/
inductive Twin (P:Int→Int→Prop):Syn→Syn→Prop
 | mk {kd:Int} {tx:List UInt8} {n a b:Int} {k l:List Syn} (hp:P a b) (h:TwinL P k l):Twin P (.mk kd tx n a k) (.mk kd tx n b l)
inductive TwinL (P:Int→Int→Prop):List Syn→List Syn→Prop
 | nil:TwinL P [] []
 | cons {x y:Syn} {k l:List Syn} (h:Twin P x y) (hr:TwinL P k l):TwinL P (x::k) (y::l)
end
theorem TwinL.length{P:Int→Int→Prop}:∀{k l:List Syn},TwinL P k l→k.length=l.length
 | _,_,.nil=>rfl
 | _,_,.cons _ hr=>by rw[List.length_cons,List.length_cons,hr.length]
theorem TwinL.get{P:Int→Int→Prop}:∀{k l:List Syn},TwinL P k l→∀i (h:i<k.length) (h':i<l.length),Twin P k[i] l[i]
 | _,_,.nil,i,h,_=>absurd h (Nat.not_lt_zero _)
 | _,_,.cons hx hr,0,_,_=>hx
 | _,_,.cons hx hr,i+1,h,h'=>hr.get i (by simpa using h) (by simpa using h')
theorem TwinL.add{P:Int→Int→Prop}:∀{k l:List Syn},TwinL P k l→∀{x y:Syn},Twin P x y→TwinL P (k++[x]) (l++[y])
 | _,_,.nil,_,_,h=>.cons h .nil
 | _,_,.cons hx hr,_,_,h=>.cons hx (hr.add h)
theorem Twin.text_eq{P:Int→Int→Prop}{x y:Syn}(h:Twin P x y):x.text=y.text:=by cases h;rfl
theorem Twin.kind_eq{P:Int→Int→Prop}{x y:Syn}(h:Twin P x y):x.kind=y.kind:=by cases h;rfl
mutual
theorem Twin.symm{P:Int→Int→Prop}:∀{x y:Syn},Twin P x y→Twin (fun a b=>P b a) y x
 | _,_,.mk hp h=>.mk hp (TwinL.symm h)
theorem TwinL.symm{P:Int→Int→Prop}:∀{k l:List Syn},TwinL P k l→TwinL (fun a b=>P b a) l k
 | _,_,.nil=>.nil
 | _,_,.cons h hr=>.cons (Twin.symm h) (TwinL.symm hr)
end
mutual
theorem Twin.trans{P Q R:Int→Int→Prop}(hPQ:∀a b c,P a b→Q b c→R a c):∀{x y z:Syn},Twin P x y→Twin Q y z→Twin R x z
 | _,_,_,.mk hp h,.mk hq h'=>.mk (hPQ _ _ _ hp hq) (TwinL.trans hPQ h h')
theorem TwinL.trans{P Q R:Int→Int→Prop}(hPQ:∀a b c,P a b→Q b c→R a c):∀{k l m:List Syn},TwinL P k l→TwinL Q l m→TwinL R k m
 | _,_,_,.nil,.nil=>.nil
 | _,_,_,.cons h hr,.cons h' hr'=>.cons (Twin.trans hPQ h h') (TwinL.trans hPQ hr hr')
end
def Jc(kind:Int)(s:List UInt8):Bool:=
 if kind=3 then s.isEmpty
 else if kind=2 then decide (s∈Qq)
 else !s.isEmpty&&decide (Q1 Q3 s=s.length)&&decide ((Qu s).2.2=0)&&decide (((Qu s).1:Int)=kind)
def Q2y(kind:Int):Bool:=decide (kind=0)||decide (kind=1)
def gap(p t:Tok):Bool:=(Q2y p.kind&&Q2y t.kind)||(decide (p.text=[60])&&decide (t.text=[61]))
def Q0y(last:Bool)(t:Tok):Nat:=if t.kind<0∨3<t.kind then 1 else if Jc t.kind t.text=false then 3 else if t.kind=3∧last=false then 14 else 0
def Q3m:List Tok→Nat
 | []=>0
 | t::r=>if Q0y r.isEmpty t=0 then Q3m r else Q0y r.isEmpty t
def Q14:Option Tok→List Tok→List UInt8
 | _,[]=>[]
 | none,t::r=>t.text++Q14 (some t) r
 | some p,t::r=>(if gap p t then[32]else[])++(t.text++Q14 (some t) r)
end Go.Proofs.YtffimpicdclbgaaGreatDoor
namespace Go.Proofs.YtffimpicdclbgaaGreatDoor
open Go.Proofs.Tryz
open Go.RowKit
theorem Q2j(c:Int)(w:World):
  Calls prog 126 #[.int .u8 c] w fun e w'=>e=.returned (.bool (Z0 c))∧w'=w:=by
 go_enter func126,ntmps126;go_wp2
 all_goals (go_ret;refine⟨?_,rfl⟩;congr 2;simp only[Z0];simp[*];try omega)
theorem Q7g(c:Int)(w:World):
  Calls prog 127 #[.int .u8 c] w fun e w'=>e=.returned (.bool (Qh c))∧w'=w:=by
 go_enter func127,ntmps127;go_wp2
 all_goals (go_ret;refine⟨?_,rfl⟩;refine Qk ?_;simp only[Qh];try simp[*];try omega)
theorem Qsg(c:Int)(w:World):
  Calls prog 82 #[.int .u8 c] w fun e w'=>e=.returned (.bool (Q3 c))∧w'=w:=by
 cases hl:Z0 c
 ·go_enter func82,ntmps82
  go_wp2_with (first|(go_at_call 126;refine(Q2j _ _).mono ?_;rintro e w' ⟨rfl,rfl⟩)|(go_at_call 127;refine(Q7g _ _).mono ?_;rintro e w' ⟨rfl,rfl⟩));all_goals (go_ret;refine⟨?_,rfl⟩;congr 2;simp[Q3,hl])
 ·go_enter func82,ntmps82
  go_wp2_with (first|(go_at_call 126;refine(Q2j _ _).mono ?_;rintro e w' ⟨rfl,rfl⟩)|(go_at_call 127;refine(Q7g _ _).mono ?_;rintro e w' ⟨rfl,rfl⟩));all_goals (go_ret;refine⟨?_,rfl⟩;congr 2;simp[Q3,hl])
theorem Qld(c:Int)(w:World):
  Calls prog 125 #[.int .u8 c] w fun e w'=>e=.returned (.bool (Zc c))∧w'=w:=by
 go_enter func125,ntmps125;go_wp2
 all_goals (go_ret;exact⟨rfl,rfl⟩)
theorem Qg6(c:Int)(w:World):
  Calls prog 123 #[.int .u8 c] w fun e w'=>e=.returned (.bool (Jh c))∧w'=w:=by
 go_enter func123,ntmps123;go_wp2
 all_goals (go_ret;refine⟨Qk ?_,rfl⟩;first|rfl|(simp only[Jh];simp[*]))
theorem Q5q(fn:Nat)(p:Int→Bool)(hc:∀args w,(callFunc fn args).run prog w=.ok (.enter fn args) w)
  (hp:∀(c:Int) w,Calls prog fn #[.int .u8 c] w fun e w'=>e=.returned (.bool (p c))∧w'=w) (s:List UInt8) (hs:s.length≤maxLen) (w:World):
  Calls prog 81 #[.string ⟨s.toArray⟩,.func (.func fn) #[] #[]] w fun e w'=>e=.returned (.int .i64 (Q1 p s))∧w'=w:=by
 unfold maxLen at hs;have HP:=qh hp;clear hp;go_enter func81,ntmps81;go_wp2_with fail;go_loop [8] (fun i=>∃k:Nat,k≤s.length∧i=.int .i64 k∧Hid (Q1 p s=k+Q1 p (s.drop k))) (fun i=>s.length-(intOf i).toNat)
 case atStart=>exact⟨0,Nat.zero_le _,rfl,show _=_ by simp⟩
 case round=>
  obtain⟨k,hk,rfl,hall⟩:=hrel;by_cases hlt:k<s.length
  ·cases hpk:p (s[k].toNat)
   ·go_wp2_with ((refine(HP.out _ _).mono ?_);rintro e w' ⟨rfl,rfl⟩)
    go_ret;exact⟨by rw[hall.out,Qo8 hlt hpk];rfl,rfl⟩
   ·go_wp2_with ((refine(HP.out _ _).mono ?_);rintro e w' ⟨rfl,rfl⟩)
    go_round
    case rel=>exact⟨k+1,by omega,by go_num,show _=_ by rw[hall.out,Qo7 hlt hpk];omega⟩
    case measure=>simp[intOf];omega
  ·go_wp2
   go_ret;exact⟨by rw[hall.out,List.drop_of_length_le (by omega)];simp[Q1];omega,rfl⟩
theorem Q8y(s:List UInt8)(hs:s.length≤maxLen)(w:World):
  Calls prog 81 #[.string ⟨s.toArray⟩,.func (.func 123) #[] #[]] w fun e w'=>e=.returned (.int .i64 (Q1 Jh s))∧w'=w:=
 Q5q 123 Jh (fun _ _=>by kernel_rfl) Qg6 s hs w
theorem Qog(s:List UInt8)(hs:s.length≤maxLen)(w:World):
  Calls prog 81 #[.string ⟨s.toArray⟩,.func (.func 125) #[] #[]] w fun e w'=>e=.returned (.int .i64 (Q1 Zc s))∧w'=w:=
 Q5q 125 Zc (fun _ _=>by kernel_rfl) Qld s hs w
theorem Qdf(s:List UInt8)(hs:s.length≤maxLen)(w:World):
  Calls prog 81 #[.string ⟨s.toArray⟩,.func (.func 127) #[] #[]] w fun e w'=>e=.returned (.int .i64 (Q1 Qh s))∧w'=w:=
 Q5q 127 Qh (fun _ _=>by kernel_rfl) Q7g s hs w
theorem Q90(s:List UInt8)(hs:s.length≤maxLen)(w:World):
  Calls prog 81 #[.string ⟨s.toArray⟩,.func (.func 82) #[] #[]] w fun e w'=>e=.returned (.int .i64 (Q1 Q3 s))∧w'=w:=
 Q5q 82 Q3 (fun _ _=>by kernel_rfl) Qsg s hs w
theorem Qjd(s p:List UInt8)(w:World)(hs:s.length≤maxLen):
  Calls prog 149 #[.string ⟨s.toArray⟩,.string ⟨p.toArray⟩] w fun e w'=>e=.returned (.bool (Lib.hasPrefix s p))∧w'=w:=by
 have hs:=hs;unfold maxLen at hs;by_cases h:p.length≤s.length
 ·go_enter func149,ntmps149
  go_wp2
  go_ret;exact⟨Qk (by rw[←Lib.hasPrefix_of_take];simp[h]),rfl⟩
 ·go_enter func149,ntmps149
  go_wp2
  go_ret;exact⟨Qk (by rw[←Lib.hasPrefix_of_take];simp[h]),rfl⟩
theorem Q4z(s p:List UInt8)(w:World)(hs:s.length≤maxLen):
  Calls prog 124 #[.string ⟨s.toArray⟩,.string ⟨p.toArray⟩] w fun e w'=>e=.returned (.bool (Lib.hasPrefix s p))∧w'=w:=by
 go_enter func124,ntmps124;go_wp2_with (go_at_call 149;refine(Qjd _ _ _ hs).mono ?_;rintro e w' ⟨rfl,rfl⟩);go_ret;exact⟨rfl,rfl⟩
theorem Q94(s:List UInt8)(w:World)(hs:s.length≤1000000000):
  Calls prog 80 #[.string ⟨s.toArray⟩] w fun e w'=>e=.returned (.int .i64 (skip false s))∧w'=w:=by
 go_enter func80,ntmps80;go_wp2_with fail;go_loop [3] (fun i=>∃k:Nat,k≤s.length∧i=.int .i64 k∧Hid (skip false s=k+skip false (s.drop k))) (fun i=>s.length-(intOf i).toNat)
 case atStart=>exact⟨0,Nat.zero_le _,rfl,show _=_ by simp⟩
 case round=>
  obtain⟨k,hk,rfl,hall⟩:=hrel;have hl:=qh (show(s.drop k).length≤maxLen by simp[maxLen];omega);have b0:=Yf Jh (s.drop k);have b1:=Yf Zc (s.drop k);simp only[List.length_drop]at b0 b1;by_cases h0:Q1 Jh (s.drop k)=0
  ·cases h1:Lib.hasPrefix (s.drop k) [35]
   ·have e1:=qh (Qpr h1 h0)
    have h1:=qh h1;(go_wp2_with fail;(with_reducible refine(Q8y _ hl.out _).mono ?_);rintro e w' ⟨rfl,rfl⟩)
    rw[h0];clear h0;(go_wp2_with fail;(with_reducible refine(Q4z _ _ _ hl.out).mono ?_);rintro e w' ⟨rfl,rfl⟩)
    rw[h1.out];go_wp2_with fail;go_ret;exact⟨Qns (by rw[hall.out,e1.out];rfl),rfl⟩
   ·have e1:=qh (Qpq h1)
    have hpos:=Qo4 h1;have hb:((Q1 Zc (List.drop k s):Int)==0)=false:=by rw[beq_eq_false_iff_ne];omega
    have h1:=qh h1;(go_wp2_with fail;(with_reducible refine(Q8y _ hl.out _).mono ?_);rintro e w' ⟨rfl,rfl⟩)
    rw[h0];clear h0;(go_wp2_with fail;(with_reducible refine(Q4z _ _ _ hl.out).mono ?_);rintro e w' ⟨rfl,rfl⟩)
    rw[h1.out];(go_wp2_with fail;(with_reducible refine(Qog _ hl.out _).mono ?_);rintro e w' ⟨rfl,rfl⟩)
    go_wp2_with fail;go_round
    case rel=>exact⟨k+Q1 Zc (s.drop k),by omega,by go_num,show _=_ by rw[hall.out,e1.out,List.drop_drop];omega⟩
    case measure=>simp[intOf];omega
  ·have e1:=qh (Qpo (s.drop k))
   have hpos:0<Q1 Jh (List.drop k s):=by omega
   have h0:((Q1 Jh (List.drop k s):Int)==0)=false:=by simpa using h0
   (go_wp2_with fail;(with_reducible refine(Q8y _ hl.out _).mono ?_);rintro e w' ⟨rfl,rfl⟩)
   go_wp2_with fail;go_round
   case rel=>exact⟨k+Q1 Jh (s.drop k),by omega,by go_num,show _=_ by rw[hall.out,e1.out,List.drop_drop];omega⟩
   case measure=>simp[intOf];omega
def Q49(k:Nat):List UInt8:=Qq.getD k []
def Q97:Array Value:=(Qq.map fun l=>Value.string ⟨l.toArray⟩).toArray
def J8(w:World):Prop:=∃t fr,w.heap[2]?=some (.cells Q97 t fr)
theorem Qpl(k:Nat)(h:k<13):∀w,(Instr.index 163 (.agg Q97) (.int .i64 (k:Int))).run prog w=.ok (.string ⟨(Q49 k).toArray⟩) w:=by
 intro w;match k,h with
 | 0,_=>(show _=_;kernel_rfl)
 | 1,_=>(show _=_;kernel_rfl)
 | 2,_=>(show _=_;kernel_rfl)
 | 3,_=>(show _=_;kernel_rfl)
 | 4,_=>(show _=_;kernel_rfl)
 | 5,_=>(show _=_;kernel_rfl)
 | 6,_=>(show _=_;kernel_rfl)
 | 7,_=>(show _=_;kernel_rfl)
 | 8,_=>(show _=_;kernel_rfl)
 | 9,_=>(show _=_;kernel_rfl)
 | 10,_=>(show _=_;kernel_rfl)
 | 11,_=>(show _=_;kernel_rfl)
 | 12,_=>(show _=_;kernel_rfl)
theorem Qiz{k:Nat}(h:k<13)(s:List UInt8):Jq (Qq.drop k) s=if Lib.hasPrefix s (Q49 k)then Q49 k else Jq (Qq.drop (k+1)) s:=by have hl:k<Qq.length:=h;rw[List.drop_eq_getElem_cons hl,Jq];simp[Q49,List.getD,hl]
theorem Qph(s:List UInt8)(w:World)(hs:s.length≤maxLen)(hg:J8 w):
  Calls prog 84 #[.string ⟨s.toArray⟩] w fun e w'=>e=.returned (.string ⟨(Jq Qq s).toArray⟩)∧w'=w:=by
 have hs:=qh hs;obtain⟨t,fr,hg⟩:=hg;have HG:=qh hg;clear hg;go_enter func84,ntmps84;go_wp2_with (refine wpList_load_row rfl 163 _ rfl 2 rfl t _ fr _ HG.out underlying163 rfl (by kernel_rfl) ?_);go_loop [6] (fun i=>∃k:Nat,k≤13∧i=.int .i64 k∧Hid (Jq Qq s=Jq (Qq.drop k) s)) (fun i=>13-(intOf i).toNat)
 case atStart=>exact⟨0,Nat.zero_le _,rfl,show _=_ from rfl⟩
 case round=>
  obtain⟨k,hk,rfl,hall⟩:=hrel;by_cases hlt:k<13
  ·have hidx:=Qpl k hlt
   have hst:=qh (Qiz hlt s);cases hp:Lib.hasPrefix s (Q49 k)
   ·have hp:=qh hp
    (go_wp2_with fail;(with_reducible refine(Q4z _ _ _ hs.out).mono ?_);rintro e w' ⟨rfl,rfl⟩)
    rw[hp.out];go_wp2_with fail;go_round
    case rel=>exact⟨k+1,by omega,by go_num,show _=_ by rw[hall.out,hst.out,hp.out];rfl⟩
    case measure=>simp[intOf];omega
   ·have hp:=qh hp
    (go_wp2_with fail;(with_reducible refine(Q4z _ _ _ hs.out).mono ?_);rintro e w' ⟨rfl,rfl⟩)
    rw[hp.out];go_wp2_with fail;go_ret;exact⟨Qd7 (by rw[hall.out,hst.out,hp.out];rfl),rfl⟩
  ·go_wp2_with fail
   go_ret;have:k=13:=by omega
   subst this;exact⟨Qd7 (by rw[hall.out];rfl),rfl⟩
end Go.Proofs.YtffimpicdclbgaaGreatDoor
section
namespace Go.Proofs
open Go.Shelf
def Tryz.lays161_ren:Go.Shelf.Ren:=⟨fun|161=>150|231=>159|227=>160|233=>161|235=>162|228=>174|197=>175|151=>176|260=>187|152=>188|137=>193|119=>194|224=>195|225=>196|217=>201|266=>202|n=>n,fun|9=>9|4=>4|3=>3|5=>5|117=>187|116=>186|0=>0|124=>190|105=>199|21=>21|119=>209|46=>197|139=>228|138=>227|n=>n,fun|3=>10|4=>11|n=>n⟩
theorem Tryz.lays161:Go.Proofs.Lays.n161 prog Tryz.lays161_ren:=by constructor<;>repeat' first|kernel_rfl|(intro w;simp[go_sem,Tryz.lays161_ren];done)|decide|constructor
open Go.RowKit in
theorem Tryz.strings_TrimLeft_one(s:ByteArray)(c:UInt8)(hc:c.toNat<128)(w:World):
  Calls prog 150 #[.string s,.string ⟨#[c]⟩] w fun e w'=>e=.returned (.string ⟨(Lib.trimLeftB s.data.toList c).toArray⟩)∧w'=w:=Any.strings_TrimLeft_one Tryz.lays161 s c hc w
def Tryz.lays172_ren:Go.Shelf.Ren:=⟨fun|172=>151|244=>163|245=>164|247=>177|279=>178|280=>179|281=>180|282=>181|287=>189|316=>190|171=>58|205=>191|321=>197|322=>198|243=>101|246=>140|283=>155|284=>156|285=>157|286=>158|129=>170|317=>169|318=>171|319=>172|320=>173|337=>185|338=>186|n=>n,fun|9=>9|3=>3|75=>143|76=>144|4=>4|5=>5|167=>202|37=>100|0=>0|85=>203|2=>2|168=>205|53=>179|175=>214|46=>197|210=>217|127=>155|145=>234|143=>232|21=>21|171=>178|173=>182|212=>194|51=>195|20=>20|213=>196|232=>224|233=>225|80=>111|n=>n,fun|15=>5|16=>6|17=>3|18=>8|19=>9|n=>n⟩
theorem Tryz.lays172:Go.Proofs.Lays.n172 prog Tryz.lays172_ren:=by constructor<;>repeat' first|kernel_rfl|(intro w;simp[go_sem,Tryz.lays172_ren];done)|decide|constructor
open Go.RowKit in
theorem Tryz.strconv_Atoi(s:ByteArray)(n:Int)(hl:s.size≤18)(h:Lib.atoi s.data.toList=some n)(w:World):
  Calls prog 151 #[.string s] w fun e w'=>e=.returned (.tuple #[.int .i64 n,.nilIface])∧∃t,w'=Lib.bytesWorld w 5 t:=Any.strconv_Atoi Tryz.lays172 s n hl h w
def Tryz.laysM171_ren:Go.Shelf.Ren:=⟨fun|171=>58|243=>101|246=>140|283=>155|284=>156|285=>157|286=>158|129=>170|317=>169|318=>171|319=>172|320=>173|337=>185|338=>186|n=>n,fun|3=>3|9=>9|2=>2|4=>4|171=>178|0=>0|53=>179|37=>100|5=>5|173=>182|212=>194|51=>195|20=>20|213=>196|46=>197|232=>224|233=>225|n=>n,fun|17=>3|18=>8|19=>9|n=>n⟩
theorem Tryz.laysM171:Go.Proofs.LaysM.n171 prog Tryz.laysM171_ren:=by constructor<;>repeat' first|kernel_rfl|(intro w;simp[go_sem,Tryz.laysM171_ren];done)|decide|constructor
open Go.RowKit Go.Sort Go.Lib in
theorem Tryz.strconv_Itoa(n:Int)(h0:-9223372036854775808≤n)(h1:n≤9223372036854775807)(w:World)(htab:Lib.TabIs prog w "internal/strconv.uint64pow10" .u64 Lib.pow10Tab):
  Calls prog 58 #[.int .i64 n] w fun e w'=>e=.returned (.string ⟨(Lib.itoa n).toArray⟩)∧∃k os,w'=grow (w.drewN k) os:=Any.strconv_Itoa Tryz.laysM171 n h0 h1 w htab
def Tryz.laysC172_ren:Go.Shelf.Ren:=⟨fun|172=>151|244=>163|245=>164|247=>177|279=>178|280=>179|281=>180|282=>181|287=>189|316=>190|171=>58|205=>191|321=>197|322=>198|243=>101|246=>140|283=>155|284=>156|285=>157|286=>158|129=>170|317=>169|318=>171|319=>172|320=>173|337=>185|338=>186|n=>n,fun|9=>9|3=>3|75=>143|76=>144|4=>4|5=>5|167=>202|37=>100|0=>0|85=>203|2=>2|168=>205|53=>179|175=>214|46=>197|210=>217|127=>155|145=>234|143=>232|21=>21|171=>178|173=>182|212=>194|51=>195|20=>20|213=>196|232=>224|233=>225|80=>111|n=>n,fun|15=>5|16=>6|17=>3|18=>8|19=>9|n=>n⟩
theorem Tryz.laysC172:Go.Proofs.LaysC.n172 prog Tryz.laysC172_ren:=by constructor<;>repeat' first|kernel_rfl|(intro w;simp[go_sem,Tryz.laysC172_ren];done)|decide|constructor
open Go.RowKit in
theorem Tryz.strconv_Atoi_ok(s:ByteArray)(hmax:s.size≤9223372036854775806)(v:Int)(h:Lib.atoiAll s.data.toList=.ok v)(w:World):
  Calls prog 151 #[.string s] w fun e w'=>e=.returned (.tuple #[.int .i64 v,.nilIface])∧(w'=w∨∃t,w'=Lib.bytesWorld w 5 t):=Any.strconv_Atoi_ok Tryz.laysC172 s hmax v h w
def Tryz.lays157_ren:Go.Shelf.Ren:=⟨fun|157=>168|229=>183|199=>184|261=>192|311=>199|312=>200|n=>n,fun|9=>9|31=>130|3=>3|5=>5|4=>4|119=>209|0=>0|40=>211|152=>219|21=>21|154=>221|51=>195|141=>223|196=>238|193=>235|198=>241|49=>239|194=>236|201=>244|226=>246|46=>197|227=>247|n=>n,fun|0=>4|6=>7|n=>n⟩
theorem Tryz.lays157:Go.Proofs.Lays.n157 prog Tryz.lays157_ren:=by constructor<;>repeat' first|kernel_rfl|(intro w;simp[go_sem,Tryz.lays157_ren];done)|decide|constructor
open Go.RowKit Go.Lib in
theorem Tryz.strings_Fields(s:ByteArray)(w:World)(hs:s.size<4294967281)(hascii:∀(j:Nat) b,s.data.toList[j]?=some b→b.toNat<128)(htab:Lib.TabIs prog w "strings.asciiSpace" .u8 Lib.asciiSpaceTab):
  Calls prog 168 #[.string s] w fun e w'=>e=.returned (.slice (some ⟨w.heap.size,0,none⟩) (Lib.fields s.data.toList).length (Lib.fields s.data.toList).length)∧w'=w.alloc (.cells ((Lib.fields s.data.toList).map fun l=>Value.string ⟨l.toArray⟩).toArray 9):=Any.strings_Fields Tryz.lays157 (by kernel_rfl) (by kernel_rfl) s w hs hascii htab
def Tryz.lays109_ren:Go.Shelf.Ren:=⟨fun|109=>91|n=>n,fun|31=>130|9=>9|3=>3|0=>0|4=>4|n=>n,fun|n=>n⟩
theorem Tryz.lays109:Go.Proofs.Lays.n109 prog Tryz.lays109_ren:=by constructor<;>repeat' first|kernel_rfl|(intro w;simp[go_sem,Tryz.lays109_ren];done)|decide|constructor
open Go.Lib in
theorem Tryz.slices_Index_string(b off n c:Nat)(zs:List ByteArray)(x:ByteArray)(w:World)(hz:n≤zs.length)(hbig:n≤9223372036854775807)(hc:∀j,j<zs.length→w.cell? ⟨b,off+j,none⟩=some (.string (zs.getD j ByteArray.empty))):
  Calls prog 91 #[.slice (some ⟨b,off,none⟩) n c,.string x] w fun e w'=>e=.returned (.int .i64 (Lib.idxOfS (zs.take n) x))∧w'=w:=Any.slices_Index_string Tryz.lays109 b off n c zs x w hz hbig hc
open Go.Lib in
theorem Tryz.slices_Index_string_empty(a:Option Addr)(c:Nat)(x:ByteArray)(w:World):
  Calls prog 91 #[.slice a 0 c,.string x] w fun e w'=>e=.returned (.int .i64 (Lib.idxOfS [] x))∧w'=w:=Any.slices_Index_string_empty Tryz.lays109 a c x w
def Tryz.lays110_ren:Go.Shelf.Ren:=⟨fun|110=>90|109=>91|n=>n,fun|31=>130|9=>9|4=>4|3=>3|0=>0|n=>n,fun|n=>n⟩
theorem Tryz.lays110:Go.Proofs.Lays.n110 prog Tryz.lays110_ren:=by constructor<;>repeat' first|kernel_rfl|(intro w;simp[go_sem,Tryz.lays110_ren];done)|decide|constructor
open Go.Lib in
theorem Tryz.slices_Contains_string(b off n c:Nat)(zs:List ByteArray)(x:ByteArray)(w:World)(hz:n≤zs.length)(hbig:n≤9223372036854775807)(hc:∀j,j<zs.length→w.cell? ⟨b,off+j,none⟩=some (.string (zs.getD j ByteArray.empty))):
  Calls prog 90 #[.slice (some ⟨b,off,none⟩) n c,.string x] w fun e w'=>e=.returned (.bool (Lib.containsS (zs.take n) x))∧w'=w:=Any.slices_Contains_string Tryz.lays110 b off n c zs x w hz hbig hc
open Go.Lib in
theorem Tryz.slices_Contains_string_empty(a:Option Addr)(c:Nat)(x:ByteArray)(w:World):
  Calls prog 90 #[.slice a 0 c,.string x] w fun e w'=>e=.returned (.bool false)∧w'=w:=Any.slices_Contains_string_empty Tryz.lays110 a c x w
end Go.Proofs
end
namespace Go.Proofs.YtffimpicdclbgaaGreatDoor
open Go.Proofs.Tryz
open Go.RowKit
theorem Qa9(w:World)(e:TypeId)(s:ByteArray):Below w.heap.size w (Lib.bytesWorld w e s):=by
 unfold Lib.bytesWorld World.freeze;split
 ·exact(Below.refl _ _).drew.alloc (Nat.le_refl _) _
 ·have h:=((Below.refl w.heap.size w).drew.alloc (Nat.le_refl _) (.cells (Lib.bytesCells w e s) e))
  refine h.trans ⟨rfl,rfl,rfl,by simp,fun k hk=>?_⟩;simp only[Array.getElem?_modify];rw[if_neg (by omega)]
theorem Qja(l:List UInt8)(w:World)(hl:l.length≤1000000000)(hd:∀c∈l,Qh c.toNat=true):
  Calls prog 128 #[.string ⟨l.toArray⟩] w fun e w'=>e=.returned (.bool (Q11 l))∧Below w.heap.size w w':=by
 have hl:=hl;have h1:=Tryz.strings_TrimLeft_one ⟨l.toArray⟩ 48 (by decide) w;have H1:Hid (Calls prog 150 #[.string ⟨l.toArray⟩,.string ⟨#[48]⟩] w fun e w'=>e=.returned (.string ⟨(l.dropWhile (·==(48:UInt8))).toArray⟩)∧w'=w):=h1;clear h1;by_cases hg:7<(l.dropWhile (·==(48:UInt8))).length
 ·have hr:=qh (Qi5 hd hg)
  have hle:=(List.dropWhile_sublist (p:=(·==(48:UInt8))) (l:=l)).length_le;clear hd;generalize l.dropWhile (·==(48:UInt8))=m at *;go_enter func128,ntmps128;(go_wp2_with fail;(with_reducible refine(H1.out).mono ?_);rintro e w' ⟨rfl,rfl⟩)
  go_wp2_with fail;go_ret;exact⟨Qk (by simp[Q11,hr.out]),Below.refl _ _⟩
 ·have ha:=Qg0 _ (Qr7 hd)
  rw[Qbi]at ha;have hv:dv 0 l≤dv 0 l:=Nat.le_refl _;clear hd;generalize l.dropWhile (·==(48:UInt8))=m at *;generalize hn:dv 0 l=n at *;have HA:=qh (Tryz.strconv_Atoi ⟨(48::m).toArray⟩ n (by rw[Q2c];simp;omega) ha w);have hn:=qh hn;clear ha;go_enter func128,ntmps128;(go_wp2_with fail;(with_reducible refine(H1.out).mono ?_);rintro e w' ⟨rfl,rfl⟩)
  go_wp2_with fail;(with_reducible refine(HA.out).mono ?_);rintro e w'' ⟨rfl,t,rfl⟩
  go_wp2_with fail;go_ret;exact⟨Qk (by simp[Q11,hn.out];omega),Qa9 _ _ _⟩
def Q0q(l:List UInt8):Value:=.tuple #[.int .i64 (Qu l).1,.int .i64 (Qu l).2.1,.int .i64 (Qu l).2.2]
theorem Qdc{p:Int→Bool}{c:UInt8}{r:List UInt8}:(Q1 p (c::r)=0)=(p c.toNat=false):=by simp only[Q1];cases p c.toNat<;>simp
theorem Qf6(c:UInt8)(r:List UInt8)(w:World)(hl:(c::r).length≤1000000000):
  Calls prog 83 #[.string ⟨(c::r).toArray⟩] w fun e w'=>e=.returned (Q0q (c::r))∧Below w.heap.size w w':=by
 have hm:=qh (show(c::r).length≤maxLen by simp only[maxLen];omega);cases hc:Z0 c.toNat
 ·have h0:Q1 Z0 (c::r)=0:=by rw[Qdc];exact hc
  have hw:Qu (c::r)=if Q1 Qh (c::r)<(c::r).length then(0,Q1 Qh (c::r),4)else if Q11 (c::r)then(0,0,2)else(1,0,0):=by rw[Qu,if_pos h0]
  have hle:=Yf Qh (c::r);have hc:=qh hc;clear h0;by_cases hd:Q1 Qh (c::r)<(c::r).length
  ·rw[if_pos hd]at hw
   have hw:=qh hw;have hd':(Q1 Qh (c::r):Int)<(c::r).length:=by omega
   simp only[List.length_cons]at hd hle hd' hl;go_enter func83,ntmps83;(go_wp2_with fail;(with_reducible refine(Q2j _ _).mono ?_);rintro e w' ⟨rfl,rfl⟩)
   rw[hc.out];(go_wp2_with fail;(with_reducible refine(Qdf _ hm.out _).mono ?_);rintro e w' ⟨rfl,rfl⟩)
   go_wp2_with fail;go_ret3
   exact⟨by rw[Q0q,hw.out];rfl,Below.refl _ _⟩
  ·have hall:=qh (Qdb (show Q1 Qh (c::r)=(c::r).length by omega))
   have hle':(c::r).length≤Q1 Qh (c::r):=by omega
   rw[if_neg hd]at hw;have hlen:=qh hl;simp only[List.length_cons]at hd hle hl hle';cases hg:Q11 (c::r);all_goals
    rw[hg]at hw;have hw:=qh hw;have hg:=qh hg;go_enter func83,ntmps83;(go_wp2_with fail;(with_reducible refine(Q2j _ _).mono ?_);rintro e w' ⟨rfl,rfl⟩)
    rw[hc.out];(go_wp2_with fail;(with_reducible refine(Qdf _ hm.out _).mono ?_);rintro e w' ⟨rfl,rfl⟩)
    go_wp2_with fail;(with_reducible refine(Qja (c::r) _ hlen.out hall.out).mono ?_)
    rintro e w1 ⟨rfl,hb⟩;rw[hg.out];go_wp2_with fail;go_ret3
    exact⟨by rw[Q0q,hw.out];rfl,hb⟩
 ·have h0:¬ Q1 Z0 (c::r)=0:=by rw[Qdc];simp[hc]
  have hw:Qu (c::r)=if 24<(c::r).length then(0,0,8)else(0,0,0):=by rw[Qu,if_neg h0]
  have hc:=qh hc;clear h0;by_cases hd:24<(c::r).length
  ·rw[if_pos hd]at hw
   have hw:=qh hw;simp only[List.length_cons]at hd hl;go_enter func83,ntmps83;(go_wp2_with fail;(with_reducible refine(Q2j _ _).mono ?_);rintro e w' ⟨rfl,rfl⟩)
   rw[hc.out];go_wp2_with fail;go_ret3
   exact⟨by rw[Q0q,hw.out];rfl,Below.refl _ _⟩
  ·rw[if_neg hd]at hw
   have hw:=qh hw;simp only[List.length_cons]at hd hl;go_enter func83,ntmps83;(go_wp2_with fail;(with_reducible refine(Q2j _ _).mono ?_);rintro e w' ⟨rfl,rfl⟩)
   rw[hc.out];go_wp2_with fail;go_ret3
   exact⟨by rw[Q0q,hw.out];rfl,Below.refl _ _⟩
end Go.Proofs.YtffimpicdclbgaaGreatDoor