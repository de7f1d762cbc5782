/- Walks of functions, and plain facts. -/
import Derived.Lib.Strings
import Derived.Lib.Atoi
import Derived.Lib.AtoiAll
import Derived.Lib.TrimByte
import Derived.WalkKit
import Derived.WalkLawsBesides
import Derived.WalkSpells
import Derived.Deep.QuietTactic
import Derived.BigQuiet
import Derived.IntWalk
import Derived.Lib.Hide
import Derived.Handy
import Derived.Test.YtakdifceogdioaaGreatDoorProg
import Derived.Shelf.Strings.Prefix
import Derived.Shelf.Strings.Builder1
import Derived.Shelf.Strings.Trim
import Derived.Shelf.Small.Utf8
import Derived.Shelf.Small.Strs
import Derived.Shelf.Strconv.Atoi
import Derived.Shelf.Strconv.Itoa0
import Derived.Shelf.Strconv.Itoa1
import Derived.Shelf.LaysM
import Derived.Shelf.Strconv.Itoa2
import Derived.Shelf.Strconv.Itoa3
import Derived.Shelf.Strconv.AtoiErrFast
import Derived.Shelf.Strconv.ParseIntEmpty
import Derived.Shelf.Strconv.AtoiFail
import Derived.Shelf.Strconv.Clone
import Derived.Shelf.Strconv.SyntaxError
import Derived.Shelf.LaysC
import Derived.Shelf.Strconv.ToError
import Derived.Shelf.Strconv.Lower
import Derived.Shelf.Strconv.ParseUint10
import Derived.Shelf.Strconv.ParseUint10Empty
import Derived.Shelf.Strconv.ParseUint10Any
import Derived.Shelf.Strconv.ParseInt10
import Derived.Shelf.Strconv.AtoiLong
import Derived.Shelf.Strconv.AtoiInnerAll
import Derived.Shelf.Strconv.RangeError
import Derived.Shelf.Strconv.ToErrorRange
import Derived.Shelf.Strconv.AtoiAll
import Derived.Shelf.Strings.Search1
import Derived.Shelf.Strings.Fields
import Derived.Shelf.Unicode.Latin
import Derived.Shelf.Strings.Runes
import Derived.Shelf.Strings.AsciiSet
import Derived.Shelf.Unicode.DecodeSlow
import Derived.Shelf.Unicode.Is16White
import Derived.Shelf.Unicode.IsSpaceAny
import Derived.Shelf.Unicode.Is16Any
import Derived.Shelf.Unicode.Is32Any
import Derived.Shelf.Unicode.ExclAny
import Derived.Shelf.Slices.Turned
import Derived.Deep.RegionHeld2
import Derived.Deep.RegionHeld3
import Derived.RegionTactic
import Derived.RegionDies
open Array renaming getElem?_eq_none->Bq,getElem?_eq_some_iff->A3,getElem?_modify->Am
open Bool renaming and_eq_true->Ai,and_true->BL,true_and->Bx
open Go.Lib renaming TabIs->BW,alloc_old->Au,bytesWorld->C3,frozen_of_heap->Aq,hasPrefix->AS
open Go.World renaming alloc->A0,cell?->Ag,setCell->A9,size_alloc->Aa,var?->BZ
open List renaming drop->BP,drop_drop->B0,drop_eq_getElem_cons->Ak,drop_of_length_le->AK,drop_succ_cons->BC,drop_zero->Cc,getD_eq_getElem?_getD->Av,getElem?_eq_getElem->Ah,length->Bk,length_append->Ac,length_cons->Ad,length_drop->Ax,length_take->AG,mem_cons->A8,take->BH,take_of_length_le->As,toArray->A6
open Nat renaming add_zero->Bt,le_refl->A4,le_trans->Ao,lt_of_lt_of_le->AJ,lt_or_ge->B9,mul_comm->Ca,not_lt_zero->AX,zero_le->AA
open Option renaming bind_some->AO
set_option linter.unusedVariables false
set_option linter.unusedSimpArgs false
set_option maxHeartbeats 20000000
set_option maxRecDepth 100000
namespace Go.Proofs.YtakdifceogdioaaGreatDoor
open Go.Proofs.Tryz
def Qv(c:Int):Bool:=(decide (97<=c)&&decide (c<=122))||(decide (65<=c)&&decide (c<=90))
def Q6(c:Int):Bool:=(decide (48<=c)&&decide (c<=57))
def Q3(c:Int):Bool:=Qv c||Q6 c
def Qo(c:Int):Bool:=(c==32)||(c==9)||(c==13)||(c==10)
def Z8(c:Int):Bool:=c !=10
def Q0(p:Int->Bool):List UInt8->Nat
 | []=>0
 | c::r=>if p c.toNat then Q0 p r+1 else 0
theorem Yi(p:Int->Bool)(l:List UInt8):Q0 p l<=l.length:=by
 induction l with
 | nil=>simp[Q0]
 | cons c r ih=>simp only[Q0];split<;>simp<;>omega
theorem Q5e{p:Int->Bool}{l:List UInt8}{k:Nat}(h:k<l.length)(hp:p (l[k].toNat)=true):Q0 p (l.drop k)=Q0 p (l.drop (k+1))+1:=by rw[Ak h];simp[Q0,hp]
theorem Q91{p:Int->Bool}{l:List UInt8}{k:Nat}(h:k<l.length)(hp:p (l[k].toNat)=false):Q0 p (l.drop k)=0:=by rw[Ak h];simp[Q0,hp]
def skip:Bool->List UInt8->Nat
 | _,[]=>0
 | true,c::r=>if c.toNat=10 then skip false r+1 else skip true r+1
 | false,c::r=>if c.toNat=35 then skip true r+1 else if Qo c.toNat then skip false r+1 else 0
theorem Q1w(b:Bool)(l:List UInt8):skip b l<=l.length:=by
 induction l generalizing b with
 | nil=>simp[skip]
 | cons c r ih=>have h1:=ih true;have h2:=ih false;cases b<;>simp only[skip]<;>(repeat' split)<;>simp<;>omega
theorem Qsd(l:List UInt8):skip false l=Q0 Qo l+skip false (l.drop (Q0 Qo l)):=by
 induction l with
 | nil=>simp[skip,Q0]
 | cons c r ih=>
  by_cases h:c.toNat=35
  ·have:Qo c.toNat=false:=by simp[Qo,h]
   simp[Q0,this]
  ·cases hb:Qo c.toNat
   ·simp[Q0,hb]
   ·simp only[Q0,hb,if_true,skip,h,if_false,BC];omega
theorem Qse(r:List UInt8):skip true r=Q0 Z8 r+skip false (r.drop (Q0 Z8 r)):=by
 induction r with
 | nil=>simp[skip,Q0]
 | cons c r ih=>
  by_cases h:c.toNat=10
  ·have h1:Z8 c.toNat=false:=by simp[Z8,h]
   have h2:Qo c.toNat=true:=by simp[Qo,h]
   rw[skip,if_pos h,Q0,if_neg (by simp[h1]),Cc,skip,if_neg (by omega),if_pos h2];omega
  ·have h1:Z8 c.toNat=true:=by simp[Z8];omega
   simp only[Q0,h1,if_true,skip,h,if_false,BC];omega
theorem Qsg{l:List UInt8}(h:AS l [35]=true):skip false l=Q0 Z8 l+skip false (l.drop (Q0 Z8 l)):=by
 cases l with
 | nil=>simp[AS]at h
 | cons c r=>
  have hc:c=35:=by
   have:(35:UInt8)=c:=by simpa[AS,List.isPrefixOf]using h
   exact this.symm
  subst hc;have:=Qse r;simp only[skip,Q0];rw[if_pos (by rfl),if_pos (by simp[Z8]),BC];omega
theorem Qqy{l:List UInt8}(h:AS l [35]=true):0<Q0 Z8 l:=by
 cases l with
 | nil=>simp[AS]at h
 | cons c r=>
  have hc:c=35:=by
   have:(35:UInt8)=c:=by simpa[AS,List.isPrefixOf]using h
   exact this.symm
  subst hc;rw[Q0,if_pos (by simp[Z8])];omega
theorem Qsl{l:List UInt8}(h:AS l [35]=false)(hb:Q0 Qo l=0):skip false l=0:=by
 cases l with
 | nil=>rfl
 | cons c r=>
  have hc:¬ c.toNat=35:=by intro e;have:c=35:=UInt8.toNat_inj.1 e;simp[AS,List.isPrefixOf,this]at h
  simp only[Q0]at hb;simp only[skip,hc,if_false];split
  ·rename_i h';simp[h']at hb
  ·rfl
theorem Qsh{l:List UInt8}{k:Nat}(h:k<l.length)(hp:Qo (l[k].toNat)=true):skip false (l.drop k)=skip false (l.drop (k+1))+1:=by
 have h1:¬ l[k].toNat=35:=by intro e;simp[e,Qo]at hp
 rw[Ak h,skip,if_neg h1,if_pos hp]
theorem Qsk{l:List UInt8}{k:Nat}(h:k<l.length)(hp:Qo (l[k].toNat)=false)(h1:¬ l[k].toNat=35):skip false (l.drop k)=0:=by rw[Ak h,skip,if_neg h1,if_neg (by simp[hp])]
theorem Qsi{l:List UInt8}{k:Nat}(h:k<l.length)(h1:¬ l[k].toNat=10):skip true (l.drop k)=skip true (l.drop (k+1))+1:=by rw[Ak h,skip,if_neg h1]
theorem Qsj{l:List UInt8}{k:Nat}(h:k<l.length)(h1:l[k].toNat=10):skip true (l.drop k)=skip false (l.drop k):=by rw[Ak h];simp[skip,h1,Qo]
theorem Qsf{l:List UInt8}{k:Nat}(h:k<l.length)(h1:l[k].toNat=35):skip false (l.drop k)=skip true (l.drop k):=by rw[Ak h];simp[skip,h1]
def Zk:Nat->List UInt8->Option Nat
 | n,[]=>some n
 | n,c::r=>if 1048576<10*n+(c.toNat-48)then none else Zk (10*n+(c.toNat-48)) r
def Jv:List UInt8:=[59,44,58,40,41,123,125,43,45,61,60]
def Qw:List UInt8->Nat
 | []=>0
 | [c]=>if Jv.contains c then 1 else 0
 | c::d::_=>if d=61/\(c=60∨c=33)then 2 else if Jv.contains c then 1 else 0
theorem Q5j(l:List UInt8):Qw l<=l.length:=by
 match l with
 | []=>simp[Qw]
 | [c]=>simp only[Qw];split<;>simp
 | c::d::r=>simp only[Qw];(repeat' split)<;>simp
def tok(l:List UInt8):Except (Nat×Nat) (Nat×Nat):=
 if Q0 Q3 l=0 then
  if Qw l=0 then .error (0,4)else .ok (2,Qw l)
 else if Q0 Qv l=0 then
  if Q0 Q6 l<Q0 Q3 l then .error (Q0 Q6 l,4)
  else if(Zk 0 (l.take (Q0 Q3 l))).isNone then .error (0,2)
  else .ok (1,Q0 Q3 l)
 else if 24<Q0 Q3 l then .error (0,8)
 else .ok (0,Q0 Q3 l)
structure Tok where
 kind:Int
 text:List UInt8
 pos:Int
deriving DecidableEq
def J1:Nat->Nat->List UInt8->Except (Nat×Nat) (List Tok)
 | 0,_,_=>.ok []
 | f+1,p,l=>
  let k:=skip false l
  match l.drop k with
  | []=>.ok [⟨3,[],((p+k:Nat):Int)⟩]
  | c::r=>
   match tok (c::r)with
   | .error (d,e)=>.error (p+k+d,e)
   | .ok (kind,n)=>
    match J1 f (p+k+n) ((c::r).drop n)with
    | .error x=>.error x
    | .ok ts=>.ok (⟨kind,(c::r).take n,((p+k:Nat):Int)⟩::ts)
def scan(l:List UInt8):Except (Nat×Nat) (List Tok):=if 65536<l.length then .error (0,13)else J1 (l.length+1) 0 l
def dv(n:Nat)(l:List UInt8):Nat:=l.foldl (fun n c=>10*n+(c.toNat-48)) n
theorem Qan(n:Nat):dv n []=n:=rfl
theorem Q0r(n:Nat)(c:UInt8)(r:List UInt8):dv n (c::r)=dv (10*n+(c.toNat-48)) r:=by unfold dv;rw[List.foldl_cons]
theorem Q4c(l:List UInt8):∀n,n*10 ^ l.length<=dv n l:=by
 induction l with
 | nil=>intro n;simp[Qan]
 | cons c r ih=>
  intro n;have e:n*10 ^ (c::r).length=10*n*10 ^ r.length:=by rw[Ad,Nat.pow_succ,Ca (10 ^ r.length) 10,<-Nat.mul_assoc,Ca n 10]
  rw[e];have e2:dv n (c::r)=dv (10*n+(c.toNat-48)) r:=Q0r n c r;rw[e2];have h1:10*n<=10*n+(c.toNat-48):=Nat.le_add_right _ _;have h2:=Nat.mul_le_mul_right (10 ^ r.length) h1;exact Ao h2 (ih _)
theorem Q9o(l:List UInt8):∀n,n<=1048576->Zk n l=if dv n l<=1048576 then some (dv n l)else none:=by
 induction l with
 | nil=>intro n h;simp[Zk,Qan,h]
 | cons c r ih=>
  intro n h;have e:dv n (c::r)=dv (10*n+(c.toNat-48)) r:=Q0r n c r;rw[e,Zk];by_cases hg:1048576<10*n+(c.toNat-48)
  ·have h1:=Q4c r (10*n+(c.toNat-48))
   have h2:0<10 ^ r.length:=Nat.pow_pos (by omega);have h3:10*n+(c.toNat-48)<=(10*n+(c.toNat-48))*10 ^ r.length:=Nat.le_mul_of_pos_right _ h2;rw[if_pos hg,if_neg (by omega)]
  ·rw[if_neg hg];exact ih _ (by omega)
theorem Qap(l:List UInt8):dv 0 (l.dropWhile (·==48))=dv 0 l:=by
 induction l with
 | nil=>rfl
 | cons c r ih=>
  by_cases h:c=48
  ·subst h;rw[List.dropWhile_cons_of_pos (by rfl),ih];rfl
  ·have:(c==(48:UInt8))=false:=by simpa using h
   simp[List.dropWhile,this]
theorem Qik{l:List UInt8}(hd:∀c∈l,Q6 c.toNat=true)(h:7<(l.dropWhile (·==48)).length):1048576<dv 0 l:=by
 rw[<-Qap];match hm:l.dropWhile (·==48),h with
 | c::r,h=>
  have am:¬ c=48:=by intro e;have:=List.head_dropWhile_not (p:=(·==(48:UInt8))) (l:=l) (by rw[hm];simp);simp[hm,e]at this
  have aq:c∈l:=by
   have:c∈l.dropWhile (·==48):=by rw[hm];simp
   exact(List.dropWhile_sublist _).subset this
  have n7:=hd c aq;simp only[Q6,Ai,decide_eq_true_eq]at n7;have hn:¬ c.toNat=48:=fun e=>am (UInt8.toNat_inj.1 e)
  have h1:=Q4c r (10*0+(c.toNat-48));rw[Q0r];have h2:7<=r.length:=by simp at h;omega
  have h3:10 ^ 7<=10 ^ r.length:=Nat.pow_le_pow_right (by omega) h2;have h4:1*10 ^ r.length<=(10*0+(c.toNat-48))*10 ^ r.length:=Nat.mul_le_mul_right _ (by omega);omega
theorem Qi7(l:List UInt8)(hd:∀c∈l,Q6 c.toNat=true):∀n,Lib.decFrom n l=some (dv n l):=by
 induction l with
 | nil=>intro n;rfl
 | cons c r ih=>
  intro n;have n7:=hd c (by simp);simp only[Q6,Ai,decide_eq_true_eq]at n7;have:Lib.digitVal c=some (c.toNat-48):=by unfold Lib.digitVal;rw[if_pos (by omega)]
  rw[Lib.decFrom,this,Q0r];simp only;rw[ih (fun c h=>hd c (by simp[h])),Ca]
theorem Qhn(l:List UInt8)(hd:∀c∈l,Q6 c.toNat=true):Lib.atoi (48::l)=some ((dv 0 l:Nat):Int):=by
 have h0:Lib.decNat (48::l)=some (dv 0 l):=by
  unfold Lib.decNat
  rw[if_neg (by simp),Qi7 _ (fun c h=>(A8.1 h).elim (fun e=>by rw[e];rfl) (hd c))];rfl
 simp[Lib.atoi,h0]
theorem Qtp{l:List UInt8}(hd:∀c∈l,Q6 c.toNat=true):∀c∈l.dropWhile (·==(48:UInt8)),Q6 c.toNat=true:=fun c h=>hd c ((List.dropWhile_sublist _).subset h)
def Q0v(l:List UInt8):Bool:=decide (1048576<dv 0 l)
theorem Qbr(l:List UInt8):Q0v l=(Zk 0 l).isNone:=by
 rw[Q9o l 0 (by omega),Q0v];split
 ·simp;omega
 ·simp;omega
theorem Qeq{p:Int->Bool}{l:List UInt8}(h:Q0 p l=l.length):∀c∈l,p c.toNat=true:=by
 induction l with
 | nil=>simp
 | cons c r ih=>
  simp only[Q0]at h;split at h
  ·rename_i hc
   intro x hx;rcases A8.1 hx with rfl|hx
   ·exact hc
   ·exact ih (by simpa using h) x hx
  ·simp at h
theorem Qes(p:Int->Bool)(l:List UInt8):∀c∈l.take (Q0 p l),p c.toNat=true:=by
 induction l with
 | nil=>simp
 | cons c r ih=>
  simp only[Q0];split
  ·rename_i hc
   intro x hx;rcases A8.1 (by simpa using hx)with rfl|hx
   ·exact hc
   ·exact ih x hx
  ·simp
theorem Qet{p:Int->Bool}{l:List UInt8}:∀{n:Nat},n<=l.length->Q0 p (l.take n)=min n (Q0 p l):=by
 induction l with
 | nil=>intro n h;simp[Q0]
 | cons c r ih=>
  intro n h;cases n with
  | zero=>simp[Q0]
  | succ n=>
   simp only[List.take_succ_cons,Q0];split
   ·rw[ih (by simpa using h)];omega
   ·simp
def J2:List (List UInt8):=[[60,61],[33,61],[59],[44],[58],[40],[41],[123],[125],[43],[45],[61],[60]]
def Jo:List (List UInt8)->List UInt8->List UInt8
 | [],_=>[]
 | x::r,s=>if AS s x then x else Jo r s
theorem Qbs(a c:UInt8)(x r:List UInt8):AS (c::r) (a::x)=(a==c&&AS r x):=rfl
theorem Qbt(r:List UInt8):AS r []=true:=by cases r<;>rfl
theorem Qk7(a:UInt8)(x:List UInt8):AS [] (a::x)=false:=rfl
theorem Q79(l:List UInt8):Jo J2 l=l.take (Qw l):=by
 match l with
 | []=>decide
 | [c]=>
  simp only[Jo,J2,Qbs,Qbt,Qk7,Bool.and_false,BL,Qw,Jv];by_cases h1:c=59;· subst h1;decide
  by_cases h2:c=44;· subst h2;decide
  by_cases h3:c=58;· subst h3;decide
  by_cases h4:c=40;· subst h4;decide
  by_cases h5:c=41;· subst h5;decide
  by_cases h6:c=123;· subst h6;decide
  by_cases h7:c=125;· subst h7;decide
  by_cases h8:c=43;· subst h8;decide
  by_cases h9:c=45;· subst h9;decide
  by_cases cq:c=61;· subst cq;decide
  by_cases cZ:c=60;· subst cZ;decide
  simp[Ne.symm h1,Ne.symm h2,Ne.symm h3,Ne.symm h4,Ne.symm h5,Ne.symm h6,Ne.symm h7,Ne.symm h8,Ne.symm h9,Ne.symm cq,Ne.symm cZ,h1,h2,h3,h4,h5,h6,h7,h8,h9,cq,cZ]
 | c::d::r=>
  simp only[Jo,J2,Qbs,Qbt,BL,Qw,Jv];by_cases hd:d=61
  ·subst hd
   by_cases cZ:c=60;· subst cZ;simp
   by_cases fN:c=33;· subst fN;simp
   by_cases h1:c=59;· subst h1;simp
   by_cases h2:c=44;· subst h2;simp
   by_cases h3:c=58;· subst h3;simp
   by_cases h4:c=40;· subst h4;simp
   by_cases h5:c=41;· subst h5;simp
   by_cases h6:c=123;· subst h6;simp
   by_cases h7:c=125;· subst h7;simp
   by_cases h8:c=43;· subst h8;simp
   by_cases h9:c=45;· subst h9;simp
   by_cases cq:c=61;· subst cq;simp
   simp[Ne.symm h1,Ne.symm h2,Ne.symm h3,Ne.symm h4,Ne.symm h5,Ne.symm h6,Ne.symm h7,Ne.symm h8,Ne.symm h9,Ne.symm cq,Ne.symm cZ,Ne.symm fN,h1,h2,h3,h4,h5,h6,h7,h8,h9,cq,cZ,fN]
  ·by_cases cZ:c=60;· subst cZ;simp[hd,Ne.symm hd]
   by_cases h1:c=59;· subst h1;simp[hd]
   by_cases h2:c=44;· subst h2;simp[hd]
   by_cases h3:c=58;· subst h3;simp[hd]
   by_cases h4:c=40;· subst h4;simp[hd]
   by_cases h5:c=41;· subst h5;simp[hd]
   by_cases h6:c=123;· subst h6;simp[hd]
   by_cases h7:c=125;· subst h7;simp[hd]
   by_cases h8:c=43;· subst h8;simp[hd]
   by_cases h9:c=45;· subst h9;simp[hd]
   by_cases cq:c=61;· subst cq;simp[hd]
   simp[hd,Ne.symm hd,Ne.symm h1,Ne.symm h2,Ne.symm h3,Ne.symm h4,Ne.symm h5,Ne.symm h6,Ne.symm h7,Ne.symm h8,Ne.symm h9,Ne.symm cq,Ne.symm cZ,h1,h2,h3,h4,h5,h6,h7,h8,h9,cq,cZ]
theorem Q2f(l:List UInt8):∀b,skip false (l.drop (skip b l))=0:=by
 induction l with
 | nil=>intro b;simp[skip]
 | cons c r ih=>
  intro b;cases b
  ·simp only[skip]
   split
   ·exact ih true
   ·split
    ·exact ih false
    ·rename_i h1 h2;simp[skip,h1,h2]
  ·simp only[skip]
   split
   ·exact ih false
   ·exact ih true
theorem Q1z{l:List UInt8}{kind n:Nat}(h:tok l=.ok (kind,n)):0<n/\n<=l.length:=by have hw:=Yi Q3 l;have hs:=Q5j l;unfold tok at h;(repeat' split at h)<;>simp at h<;>omega
theorem Qf2(f:Nat):∀(g p:Nat) (l:List UInt8),l.length<f->l.length<g->J1 f p l=J1 g p l:=by
 induction f with
 | zero=>intro g p l h;omega
 | succ f ih=>
  intro g p l hf hg;cases g with
  | zero=>omega
  | succ g=>
   have hk:=Q1w false l;simp only[J1];split
   ·rfl
   ·rename_i c r hd
    have hlen:(c::r).length=l.length-skip false l:=by rw[<-hd];simp
    cases ht:tok (c::r)with
    | error x=>rfl
    | ok x=>obtain⟨kind,n⟩:=x;have hp:=Q1z ht;simp only[];rw[ih g _ _ (by simp only[Ax];omega) (by simp only[Ax];omega)]
def Jk(p:Nat)(l:List UInt8):Except (Nat×Nat) (List Tok):=J1 (l.length+1) p l
def app(ts:List Tok):Except (Nat×Nat) (List Tok)->Except (Nat×Nat) (List Tok)
 | .ok us=>.ok (ts++us)
 | .error x=>.error x
theorem Q6c(a b:List Tok)(x:Except (Nat×Nat) (List Tok)):app a (app b x)=app (a++b) x:=by cases x<;>simp[app]
theorem Qa0(x:Except (Nat×Nat) (List Tok)):app [] x=x:=by cases x<;>rfl
theorem Q1u(p:Nat)(l:List UInt8):Jk p l=Jk (p+skip false l) (l.drop (skip false l)):=by
 have hk:=Q1w false l;rw[Jk,Jk,J1,J1,Q2f];simp only[Cc,Bt];split
 ·rfl
 ·rename_i c r hd
  have hlen:(c::r).length=l.length-skip false l:=by rw[<-hd];simp
  cases ht:tok (c::r)with
  | error x=>rfl
  | ok x=>obtain⟨kind,n⟩:=x;have hp:=Q1z ht;simp only[];rw[Qf2 l.length (l.drop (skip false l)).length _ _ (by simp only[Ax];omega) (by simp only[Ax];omega)]
theorem Q95(p:Nat):Jk p []=.ok [⟨3,[],p⟩]:=by simp[Jk,J1,skip]
theorem Q94{p:Nat}{l:List UInt8}{d e:Nat}(h0:skip false l=0)(hl:l≠[])(ht:tok l=.error (d,e)):Jk p l=.error (p+d,e):=by
 match l,hl with
 | c::r,_=>simp[Jk,J1,h0,ht]
theorem Q5g{p:Nat}{l:List UInt8}{kind n:Nat}(h0:skip false l=0)(hl:l≠[])(ht:tok l=.ok (kind,n)):
  Jk p l=app [⟨kind,l.take n,p⟩] (Jk (p+n) (l.drop n)):=by
 match l,hl with
 | c::r,_=>
  have hp:=Q1z ht;have hle:(c::r).length<(c::r).length+1:=by omega
  rw[Jk,Jk,J1,h0];simp only[Cc,ht,Bt];rw[Qf2 (c::r).length (((c::r).drop n).length+1) _ _ (by simp only[Ax];omega) (by omega)];cases J1 (((c::r).drop n).length+1) (p+n) ((c::r).drop n)<;>simp[app]
theorem Q96{l:List UInt8}(h:l.length<=65536):scan l=Jk 0 l:=by rw[scan,if_neg (by omega),Jk]
def J3(l:List UInt8):Nat×Nat×Nat:=
 if Q0 Qv l=0 then
  if Q0 Q6 l<l.length then(0,Q0 Q6 l,4)
  else if Q0v l then(0,0,2)
  else(1,0,0)
 else if 24<l.length then(0,0,8)
 else(0,0,0)
theorem Qu7(l:List UInt8):(J3 l).2.1<=l.length:=by have:=Yi Q6 l;unfold J3;(repeat' split)<;>simp<;>omega
theorem Qu8{l:List UInt8}(h:0<Q0 Q3 l):
  tok l=if(J3 (l.take (Q0 Q3 l))).2.2=0 then .ok ((J3 (l.take (Q0 Q3 l))).1,Q0 Q3 l)
   else .error ((J3 (l.take (Q0 Q3 l))).2.1,(J3 (l.take (Q0 Q3 l))).2.2):=by
 have hle:=Yi Q3 l;have h1:=Qet (p:=Qv) (l:=l) hle;have h2:=Qet (p:=Q6) (l:=l) hle;have h3:(l.take (Q0 Q3 l)).length=Q0 Q3 l:=by simp;omega
 by_cases a:Q0 Qv l=0
 ·by_cases b:Q0 Q6 l<Q0 Q3 l
  ·have hw:J3 (l.take (Q0 Q3 l))=(0,Q0 Q6 l,4):=by
    rw[J3,h1,h2,h3,if_pos (by omega),if_pos (by omega),Nat.min_eq_right (by omega)]
   rw[hw,tok,if_neg (by omega),if_pos a,if_pos b];rfl
  ·cases g:(Zk 0 (l.take (Q0 Q3 l))).isNone
   ·have hw:J3 (l.take (Q0 Q3 l))=(1,0,0):=by
     rw[J3,h1,h2,h3,if_pos (by omega),if_neg (by omega),Qbr,g];rfl
    rw[hw,tok,if_neg (by omega),if_pos a,if_neg b,g];rfl
   ·have hw:J3 (l.take (Q0 Q3 l))=(0,0,2):=by
     rw[J3,h1,h2,h3,if_pos (by omega),if_neg (by omega),Qbr,g];rfl
    rw[hw,tok,if_neg (by omega),if_pos a,if_neg b,g];rfl
 ·by_cases b:24<Q0 Q3 l
  ·have hw:J3 (l.take (Q0 Q3 l))=(0,0,8):=by
    rw[J3,h1,h3,if_neg (by omega),if_pos b]
   rw[hw,tok,if_neg (by omega),if_neg a,if_pos b];rfl
  ·have hw:J3 (l.take (Q0 Q3 l))=(0,0,0):=by
    rw[J3,h1,h3,if_neg (by omega),if_neg b]
   rw[hw,tok,if_neg (by omega),if_neg a,if_neg b];rfl
theorem Qg8{l:List UInt8}(h:Q0 Q3 l=0):tok l=if(Jo J2 l)=[]then .error (0,4)else .ok (2,(Jo J2 l).length):=by
 have hs:=Q5j l;rw[Q79];unfold tok;rw[if_pos h];by_cases h0:Qw l=0
 ·simp[h0]
 ·rw[if_neg h0,if_neg]
  ·rw[AG,Nat.min_eq_left hs]
  ·intro e
   have:=congrArg Bk e;rw[AG,List.length_nil]at this;omega
section
inductive Syn where
 | mk (kind:Int) (text:List UInt8) (num:Int) (pos:Int) (kids:List Syn)
def Syn.kind:Syn->Int|.mk k _ _ _ _=>k
def Syn.text:Syn->List UInt8|.mk _ t _ _ _=>t
def Syn.num:Syn->Int|.mk _ _ n _ _=>n
def Syn.pos:Syn->Int|.mk _ _ _ p _=>p
def Syn.kids:Syn->List Syn|.mk _ _ _ _ l=>l
def Zx:Syn:=.mk 0 [] 0 0 []
inductive Out (α:Type) where
 | none
 | err (pos:Int) (e:Nat)
 | ok (a:α) (i:Nat)
def Out.bind{α β:Type}(x:Out α)(f:α->Nat->Out β):Out β:=match x with|.none=>.none|.err p e=>.err p e|.ok a i=>f a i
def Out.map{α β:Type}(x:Out α)(f:α->β):Out β:=x.bind fun a i=>.ok (f a) i
theorem Out.bind_ok(o:Out Syn):o=o.bind fun x j=>.ok x j:=by cases o<;>rfl
theorem Out.bind_assoc{α β γ:Type}(o:Out α)(f:α->Nat->Out β)(g:β->Nat->Out γ):(o.bind f).bind g=o.bind fun a i=>(f a i).bind g:=by cases o<;>rfl
def Qfz:Tok:=⟨3,[],0⟩
def tk(T:List Tok)(i:Nat):Tok:=T.getD i Qfz
def isW(T:List Tok)(ws:List (List UInt8))(i:Nat):Bool:=(decide ((tk T i).kind=2)||decide ((tk T i).kind=0))&&ws.contains (tk T i).text
def nx(T:List Tok)(i:Nat):Nat:=if i+1<T.length then i+1 else i
def fail{α:Type}(T:List Tok)(e:Nat)(i:Nat):Out α:=.err (tk T i).pos e
def need(T:List Tok)(s:List UInt8)(i:Nat):Out Tok:=if isW T [s] i then .ok (tk T i) (nx T i)else fail T 4 i
section
variable (res:List UInt8->Bool) (T:List Tok)
def name(i:Nat):Out Syn:=if(tk T i).kind≠0∨res (tk T i).text=true then fail T 4 i else .ok (.mk 8 (tk T i).text 0 (tk T i).pos []) (nx T i)
def number(i:Nat):Out Syn:=if(tk T i).kind≠1 then fail T 4 i else .ok (.mk 9 [] (dv 0 (tk T i).text:Nat) (tk T i).pos []) (nx T i)
abbrev Rd:=Nat->Nat->Out Syn
def within(r:Rd):Rd:=fun lv i=>if 128<lv+1 then fail T 12 i else r (lv+1) i
def parens(r:Rd):Rd:=fun lv i=>(need T [40] i).bind fun _ i=>(within T r lv i).bind fun x i=>(need T [41] i).bind fun _ i=>.ok x i
def Qn:List Rd->Nat->Nat->Out (List Syn)
 | [],_,i=>.ok [] i
 | r::rs,lv,i=>(r lv i).bind fun x i=>(argsMore rs lv i).bind fun xs i=>.ok (x::xs) i
where
 argsMore:List Rd->Nat->Nat->Out (List Syn)
 | [],_,i=>.ok [] i
 | r::rs,lv,i=>(need T [44] i).bind fun _ i=>(r lv i).bind fun x i=>(argsMore rs lv i).bind fun xs i=>.ok (x::xs) i
def arguments(word:Tok)(rs:List Rd):Rd:=fun lv i=>(need T [40] i).bind fun _ i=>if 128<lv+1 then fail T 12 i else(Qn T rs (lv+1) i).bind fun xs i=>(need T [41] i).bind fun _ i=>.ok (.mk 10 word.text 0 word.pos xs) i
def binary(op:List UInt8)(num:Int)(a b:Syn):Syn:=.mk 11 op num a.pos [a,b]
def Zh(r:Rd)(ops:List (List UInt8))(lv:Nat):Nat->Syn->Nat->Out Syn
 | 0,_,_=>.none
 | g+1,x,i=>if isW T ops i then(r lv (nx T i)).bind fun y j=>Zh r ops lv g (binary (tk T i).text 0 x y) j else .ok x i
def left(r:Rd)(ops:List (List UInt8)):Rd:=fun lv i=>(r lv i).bind fun x i=>Zh T r ops lv (T.length+1) x i
inductive NT where
 | cond|conj|neg|sum|unit|scheme|term|factor|atom|formula|disj|meet|lit
deriving DecidableEq
def kNot:List UInt8:=[110,111,116]
def kOr:List UInt8:=[111,114]
def kAnd:List UInt8:=[97,110,100]
def Zo:Nat->List Syn->Nat->Out (List Syn)
 | 0,_,_=>.none
 | g+1,xs,i=>if isW T [[44]] i then(number T (nx T i)).bind fun y j=>Zo g (xs++[y]) j else .ok xs i
def setR(i:Nat):Out Syn:=
 if isW T [[101,118,101,114,121,111,110,101]] i then .ok (.mk 14 (tk T i).text 0 (tk T i).pos []) (nx T i)
 else(need T [123] i).bind fun _ j=>
  if isW T [[125]] j then .ok (.mk 14 [] 0 (tk T i).pos []) (nx T j)
  else(number T j).bind fun x j=>(Zo T (T.length+1) [x] j).bind fun xs j=>(need T [125] j).bind fun _ j=>.ok (.mk 14 [] 0 (tk T i).pos xs) j
def notR(r:Rd):Rd:=fun lv i=>(within T r lv (nx T i)).bind fun x j=>.ok (.mk 12 [] 0 (tk T i).pos [x]) j
def rd:Nat->NT->Rd
 | 0,_=>fun _ _=>.none
 | f+1,.cond=>left T (rd f .conj) [kOr]
 | f+1,.conj=>left T (rd f .neg) [kAnd]
 | f+1,.neg=>fun lv i=>
  if isW T [kNot] i then notR T (rd f .neg) lv i
  else if isW T [[97,108,108],[115,111,109,101]] i then
   (name res T (nx T i)).bind fun v j=>(need T [58] j).bind fun _ j=>(within T (rd f .cond) lv j).bind fun x j=>.ok (.mk 13 (tk T i).text 0 (tk T i).pos [v,x]) j
  else(rd f .sum lv i).bind fun x j=>
   if isW T [[61],[33,61],[60],[60,61]] j then(rd f .sum lv (nx T j)).bind fun y l=>.ok (binary (tk T j).text 0 x y) l
   else .ok x j
 | f+1,.sum=>left T (rd f .unit) [[43],[45]]
 | f+1,.unit=>fun lv i=>
  if(tk T i).kind=1 then number T i
  else if isW T [[105,110],[111,117,116]] i then arguments T (tk T i) [rd f .sum] lv (nx T i)
  else if isW T [[104,101,97,114,115]] i then arguments T (tk T i) [rd f .sum,rd f .sum] lv (nx T i)
  else if isW T [[99,111,117,110,116]] i then
   (name res T (nx T i)).bind fun v j=>(parens T (rd f .cond) lv j).bind fun x j=>.ok (.mk 13 (tk T i).text 0 (tk T i).pos [v,x]) j
  else if isW T [[40]] i then parens T (rd f .cond) lv i
  else name res T i
 | f+1,.scheme=>left T (rd f .term) [kOr]
 | f+1,.term=>left T (rd f .factor) [kAnd]
 | f+1,.factor=>fun lv i=>(rd f .atom lv i).bind fun x j=>
  if isW T [[116,104,101,110]] j then(number T (nx T j)).bind fun n j=>(within T (rd f .factor) lv j).bind fun y j=>.ok (binary [116,104,101,110] n.num x y) j
  else .ok x j
 | f+1,.atom=>fun lv i=>
  if isW T [[99,114,97,115,104],[115,101,110,100],[114,101,99,101,105,118,101],[111,109,105,116],[112,97,114,116,105,116,105,111,110]] i then arguments T (tk T i) [fun _=>number T] lv (nx T i)
  else if isW T [[115,110,97,112,115,104,111,116]] i then .ok (.mk 10 (tk T i).text 0 (tk T i).pos []) (nx T i)
  else if isW T [[103,114,97,112,104,115]] i then arguments T (tk T i) [rd f .cond] lv (nx T i)
  else if isW T [[40]] i then parens T (rd f .scheme) lv i
  else name res T i
 | f+1,.formula=>fun lv i=>(rd f .disj lv i).bind fun x j=>
  if isW T [[117,110,116,105,108]] j then(within T (rd f .formula) lv (nx T j)).bind fun y j=>.ok (binary [117,110,116,105,108] 0 x y) j
  else .ok x j
 | f+1,.disj=>left T (rd f .meet) [kOr]
 | f+1,.meet=>left T (rd f .lit) [kAnd]
 | f+1,.lit=>fun lv i=>
  if isW T [kNot] i then notR T (rd f .lit) lv i
  else if isW T [[116,114,117,101]] i then .ok (.mk 10 (tk T i).text 0 (tk T i).pos []) (nx T i)
  else if isW T [[40]] i then parens T (rd f .formula) lv i
  else if isW T [[105,110,112,117,116],[104,101,97,114,100],[100,101,99,105,100,101,100]] i then arguments T (tk T i) [fun _=>number T,fun _=>number T] lv (nx T i)
  else if isW T [[103,105,118,101,110],[102,97,117,108,116,121],[97,116]] i then arguments T (tk T i) [fun _=>number T] lv (nx T i)
  else if isW T [[75]] i then arguments T (tk T i) [fun _=>number T,rd f .formula] lv (nx T i)
  else if isW T [[69],[68],[67]] i then arguments T (tk T i) [fun _=>setR T,rd f .formula] lv (nx T i)
  else if isW T [[110,101,120,116],[97,108,119,97,121,115],[101,118,101,110,116,117,97,108,108,121]] i then arguments T (tk T i) [rd f .formula] lv (nx T i)
  else fail T 4 i
def part(f:Nat)(kind:Int):Rd:=fun lv i=>(rd res T f .cond lv (nx T i)).bind fun x j=>.ok (.mk kind [] 0 (tk T i).pos [x]) j
def Qd8(f:Nat)(w:List UInt8)(kind:Int)(xs:List Syn):Nat->Nat->Out (List Syn):=fun lv i=>if isW T [w] i then(part res T f kind lv i).bind fun x j=>.ok (xs++[x]) j else .ok xs i
def declaration(f:Nat):Rd:=fun lv i=>
 (if isW T [[116,97,115,107]] i then
  (name res T (nx T i)).bind fun nm j=>(need T [105,110,112,117,116,115] j).bind fun _ j=>(number T j).bind fun a j=>(need T [111,117,116,112,117,116,115] j).bind fun _ j=>
  (number T j).bind fun b j=>(Qd8 res T f [119,104,101,114,101] 2 [b] lv j).bind fun xs j=>
  if isW T [[97,108,108,111,119]] j then(part res T f 3 lv j).bind fun y j=>(Qd8 res T f [99,97,108,109] 4 (xs++[y]) lv j).bind fun ys j=>.ok (Syn.mk 1 nm.text a.num (tk T i).pos ys) j
  else fail T 4 j
 else if isW T [[97,100,118,101,114,115,97,114,121]] i then
  (name res T (nx T i)).bind fun nm j=>(need T [61] j).bind fun _ j=>(rd res T f .scheme lv j).bind fun x j=>.ok (Syn.mk 5 nm.text 0 (tk T i).pos [x]) j
 else if isW T [[102,111,114,109,117,108,97]] i then
  (name res T (nx T i)).bind fun nm j=>(need T [61] j).bind fun _ j=>(rd res T f .formula lv j).bind fun x j=>.ok (Syn.mk 6 nm.text 0 (tk T i).pos [x]) j
 else if isW T [[112,114,111,98,108,101,109]] i then
  (name res T (nx T i)).bind fun nm j=>(need T [61] j).bind fun _ j=>(name res T j).bind fun a j=>(need T [117,110,100,101,114] j).bind fun _ j=>(name res T j).bind fun b j=>
  (need T [114,111,117,110,100,115] j).bind fun _ j=>(number T j).bind fun n j=>.ok (Syn.mk 7 nm.text n.num (tk T i).pos [a,b]) j
 else fail T 4 i).bind fun x j=>(need T [59] j).bind fun _ j=>.ok x j
def Qah(f:Nat)(lv:Nat):Nat->List Syn->Nat->Out (List Syn)
 | 0,_,_=>.none
 | g+1,xs,i=>if(tk T i).kind=3 then .ok xs i else(declaration res T f lv i).bind fun x j=>Qah f lv g (xs++[x]) j
def program(f:Nat):Rd:=fun lv i=>
 (need T [112,114,111,99,101,115,115,101,115] i).bind fun t j=>(number T j).bind fun n j=>(need T [59] j).bind fun _ j=>
 (Qah res T f lv (T.length+1) [] j).bind fun xs j=>.ok (.mk 0 [] n.num t.pos xs) j
def whole(r:Rd):Out Syn:=(r 0 0).bind fun x i=>if(tk T i).kind=3 then .ok x i else fail T 4 i
end
end
mutual
inductive Twin (P:Int->Int->Prop):Syn->Syn->Prop
 | mk {kd:Int} {tx:List UInt8} {n a b:Int} {k l:List Syn} (hp:P a b) (h:TwinL P k l):Twin P (.mk kd tx n a k) (.mk kd tx n b l)
inductive TwinL (P:Int->Int->Prop):List Syn->List Syn->Prop
 | nil:TwinL P [] []
 | cons {x y:Syn} {k l:List Syn} (h:Twin P x y) (hr:TwinL P k l):TwinL P (x::k) (y::l)
end
theorem TwinL.length{P:Int->Int->Prop}:∀{k l:List Syn},TwinL P k l->k.length=l.length
 | _,_,.nil=>rfl
 | _,_,.cons _ hr=>by rw[Ad,Ad,hr.length]
theorem TwinL.get{P:Int->Int->Prop}:∀{k l:List Syn},TwinL P k l->∀i (h:i<k.length) (h':i<l.length),Twin P k[i] l[i]
 | _,_,.nil,i,h,_=>absurd h (AX _)
 | _,_,.cons hx hr,0,_,_=>hx
 | _,_,.cons hx hr,i+1,h,h'=>hr.get i (by simpa using h) (by simpa using h')
theorem TwinL.add{P:Int->Int->Prop}:∀{k l:List Syn},TwinL P k l->∀{x y:Syn},Twin P x y->TwinL P (k++[x]) (l++[y])
 | _,_,.nil,_,_,h=>.cons h .nil
 | _,_,.cons hx hr,_,_,h=>.cons hx (hr.add h)
mutual
theorem Twin.symm{P:Int->Int->Prop}:∀{x y:Syn},Twin P x y->Twin (fun a b=>P b a) y x
 | _,_,.mk hp h=>.mk hp (TwinL.symm h)
theorem TwinL.symm{P:Int->Int->Prop}:∀{k l:List Syn},TwinL P k l->TwinL (fun a b=>P b a) l k
 | _,_,.nil=>.nil
 | _,_,.cons h hr=>.cons (Twin.symm h) (TwinL.symm hr)
end
mutual
theorem Twin.trans{P Q R:Int->Int->Prop}(nT:∀a b c,P a b->Q b c->R a c):∀{x y z:Syn},Twin P x y->Twin Q y z->Twin R x z
 | _,_,_,.mk hp h,.mk hq h'=>.mk (nT _ _ _ hp hq) (TwinL.trans nT h h')
theorem TwinL.trans{P Q R:Int->Int->Prop}(nT:∀a b c,P a b->Q b c->R a c):∀{k l m:List Syn},TwinL P k l->TwinL Q l m->TwinL R k m
 | _,_,_,.nil,.nil=>.nil
 | _,_,_,.cons h hr,.cons h' bL=>.cons (Twin.trans nT h h') (TwinL.trans nT hr bL)
end
def Qbg(kind:Int)(s:List UInt8):Bool:=
 if kind=3 then s.isEmpty
 else if kind=2 then decide (s∈J2)
 else !s.isEmpty&&decide (Q0 Q3 s=s.length)&&decide ((J3 s).2.2=0)&&decide (((J3 s).1:Int)=kind)
end Go.Proofs.YtakdifceogdioaaGreatDoor
namespace Go.Proofs.YtakdifceogdioaaGreatDoor
open Go.Proofs.Tryz
open Go.RowKit
theorem Q2r(l:List UInt8):(ByteArray.mk l.toArray).size=l.length:=by simp[ByteArray.size]
@[go_sem] theorem Qus(l:List UInt8)(k:Nat)(h:k<(ByteArray.mk l.toArray).size):(ByteArray.mk l.toArray)[k]'h=l[k]'(by rw[Q2r]at h;exact h):=rfl
attribute [go_sem] ByteArray.extract_mk ByteArray.toList_eq
@[go_sem] theorem Qut{α:Type}(s:List α)(k:Nat):BH (s.length-k) (BP k s)=BP k s:=As (by simp)
@[go_sem] theorem Qur(a b:List UInt8):ByteArray.mk a.toArray++ByteArray.mk b.toArray=ByteArray.mk (a++b).toArray:=by apply ByteArray.ext;simp
theorem Zw{k:IntKind}{a b:Int}(h:a=b):Ending.returned (.int k a)=.returned (.int k b):=by rw[h]
theorem Q5{a b:Bool}(h:a=b):Ending.returned (.bool a)=.returned (.bool b):=by rw[h]
theorem Q0l{a b:List UInt8}(h:a=b):Ending.returned (.string ⟨a.toArray⟩)=.returned (.string ⟨b.toArray⟩):=by rw[h]
theorem qh{p:Prop}(h:p):RowKit.Hid p:=h
theorem qs{a b c:World}(h:RowKit.Hid (RowKit.Below a.heap.size a b))(k:RowKit.Below b.heap.size b c):RowKit.Hid (RowKit.Below a.heap.size a c):=h.out.trans (k.mono h.out.size)
theorem qt{a b c:World}(h:RowKit.Hid (RowKit.Below a.heap.size a b))(k:RowKit.Hid (RowKit.Below b.heap.size b c)):RowKit.Hid (RowKit.Below a.heap.size a c):=h.out.trans (k.out.mono h.out.size)
theorem Q26(c:Int)(w:World):
  Calls prog 209 #[.int .u8 c] w fun e w'=>e=.returned (.bool (Qv c))/\w'=w:=by
 go_enter func209,ntmps209;go_wp2
 all_goals (go_ret;refine⟨?_,rfl⟩;congr 2;simp only[Qv];simp[*];try omega)
theorem Q6m(c:Int)(w:World):
  Calls prog 210 #[.int .u8 c] w fun e w'=>e=.returned (.bool (Q6 c))/\w'=w:=by
 go_enter func210,ntmps210;go_wp2
 all_goals (go_ret;refine⟨?_,rfl⟩;refine Q5 ?_;simp only[Q6];try simp[*];try omega)
theorem Quc(c:Int)(w:World):
  Calls prog 169 #[.int .u8 c] w fun e w'=>e=.returned (.bool (Q3 c))/\w'=w:=by
 cases hl:Qv c
 ·go_enter func169,ntmps169
  go_wp2_with (first|(go_at_call 209;refine(Q26 _ _).mono ?_;rintro e w' ⟨rfl,rfl⟩)|(go_at_call 210;refine(Q6m _ _).mono ?_;rintro e w' ⟨rfl,rfl⟩));all_goals (go_ret;refine⟨?_,rfl⟩;congr 2;simp[Q3,hl])
 ·go_enter func169,ntmps169
  go_wp2_with (first|(go_at_call 209;refine(Q26 _ _).mono ?_;rintro e w' ⟨rfl,rfl⟩)|(go_at_call 210;refine(Q6m _ _).mono ?_;rintro e w' ⟨rfl,rfl⟩));all_goals (go_ret;refine⟨?_,rfl⟩;congr 2;simp[Q3,hl])
theorem Qmp(c:Int)(w:World):
  Calls prog 208 #[.int .u8 c] w fun e w'=>e=.returned (.bool (Z8 c))/\w'=w:=by
 go_enter func208,ntmps208;go_wp2
 all_goals (go_ret;exact⟨rfl,rfl⟩)
theorem Qht(c:Int)(w:World):
  Calls prog 206 #[.int .u8 c] w fun e w'=>e=.returned (.bool (Qo c))/\w'=w:=by
 go_enter func206,ntmps206;go_wp2
 all_goals (go_ret;refine⟨Q5 ?_,rfl⟩;first|rfl|(simp only[Qo];simp[*]))
theorem Q5f(fn:Nat)(p:Int->Bool)(hc:∀args w,(callFunc fn args).run prog w=.ok (.enter fn args) w)
  (hp:∀(c:Int) w,Calls prog fn #[.int .u8 c] w fun e w'=>e=.returned (.bool (p c))/\w'=w) (s:List UInt8) (hs:s.length<=maxLen) (w:World):
  Calls prog 168 #[.string ⟨s.toArray⟩,.func (.func fn) #[] #[]] w fun e w'=>e=.returned (.int .i64 (Q0 p s))/\w'=w:=by
 unfold maxLen at hs;have HP:=qh hp;clear hp;go_enter func168,ntmps168;go_wp2_with fail;go_loop [8] (fun i=>∃k:Nat,k<=s.length/\i=.int .i64 k/\Hid (Q0 p s=k+Q0 p (s.drop k))) (fun i=>s.length-(intOf i).toNat)
 case atStart=>exact⟨0,AA _,rfl,show _=_ by simp⟩
 case round=>
  obtain⟨k,hk,rfl,ah⟩:=hrel;by_cases af:k<s.length
  ·cases hpk:p (s[k].toNat)
   ·go_wp2_with ((refine(HP.out _ _).mono ?_);rintro e w' ⟨rfl,rfl⟩)
    go_ret;exact⟨by rw[ah.out,Q91 af hpk];rfl,rfl⟩
   ·go_wp2_with ((refine(HP.out _ _).mono ?_);rintro e w' ⟨rfl,rfl⟩)
    go_round
    case rel=>exact⟨k+1,by omega,by go_num,show _=_ by rw[ah.out,Q5e af hpk];omega⟩
    case measure=>simp[intOf];omega
  ·go_wp2
   go_ret;exact⟨by rw[ah.out,AK (by omega)];simp[Q0];omega,rfl⟩
theorem Q92(s:List UInt8)(hs:s.length<=maxLen)(w:World):
  Calls prog 168 #[.string ⟨s.toArray⟩,.func (.func 206) #[] #[]] w fun e w'=>e=.returned (.int .i64 (Q0 Qo s))/\w'=w:=
 Q5f 206 Qo (fun _ _=>by kernel_rfl) Qht s hs w
theorem Qrb(s:List UInt8)(hs:s.length<=maxLen)(w:World):
  Calls prog 168 #[.string ⟨s.toArray⟩,.func (.func 208) #[] #[]] w fun e w'=>e=.returned (.int .i64 (Q0 Z8 s))/\w'=w:=
 Q5f 208 Z8 (fun _ _=>by kernel_rfl) Qmp s hs w
theorem Qeu(s:List UInt8)(hs:s.length<=maxLen)(w:World):
  Calls prog 168 #[.string ⟨s.toArray⟩,.func (.func 210) #[] #[]] w fun e w'=>e=.returned (.int .i64 (Q0 Q6 s))/\w'=w:=
 Q5f 210 Q6 (fun _ _=>by kernel_rfl) Q6m s hs w
theorem Qez(s:List UInt8)(hs:s.length<=maxLen)(w:World):
  Calls prog 168 #[.string ⟨s.toArray⟩,.func (.func 169) #[] #[]] w fun e w'=>e=.returned (.int .i64 (Q0 Q3 s))/\w'=w:=
 Q5f 169 Q3 (fun _ _=>by kernel_rfl) Quc s hs w
theorem Qk6(s p:List UInt8)(w:World)(hs:s.length<=maxLen):
  Calls prog 234 #[.string ⟨s.toArray⟩,.string ⟨p.toArray⟩] w fun e w'=>e=.returned (.bool (AS s p))/\w'=w:=by
 have hs:=hs;unfold maxLen at hs;by_cases h:p.length<=s.length
 ·go_enter func234,ntmps234
  go_wp2
  go_ret;exact⟨Q5 (by rw[<-Lib.hasPrefix_of_take];simp[h]),rfl⟩
 ·go_enter func234,ntmps234
  go_wp2
  go_ret;exact⟨Q5 (by rw[<-Lib.hasPrefix_of_take];simp[h]),rfl⟩
theorem Q4o(s p:List UInt8)(w:World)(hs:s.length<=maxLen):
  Calls prog 207 #[.string ⟨s.toArray⟩,.string ⟨p.toArray⟩] w fun e w'=>e=.returned (.bool (AS s p))/\w'=w:=by
 go_enter func207,ntmps207;go_wp2_with (go_at_call 234;refine(Qk6 _ _ _ hs).mono ?_;rintro e w' ⟨rfl,rfl⟩);go_ret;exact⟨rfl,rfl⟩
theorem Q97(s:List UInt8)(w:World)(hs:s.length<=1000000000):
  Calls prog 167 #[.string ⟨s.toArray⟩] w fun e w'=>e=.returned (.int .i64 (skip false s))/\w'=w:=by
 go_enter func167,ntmps167;go_wp2_with fail;go_loop [3] (fun i=>∃k:Nat,k<=s.length/\i=.int .i64 k/\Hid (skip false s=k+skip false (s.drop k))) (fun i=>s.length-(intOf i).toNat)
 case atStart=>exact⟨0,AA _,rfl,show _=_ by simp⟩
 case round=>
  obtain⟨k,hk,rfl,ah⟩:=hrel;have hl:=qh (show(s.drop k).length<=maxLen by simp[maxLen];omega);have b0:=Yi Qo (s.drop k);have b1:=Yi Z8 (s.drop k);simp only[Ax]at b0 b1;by_cases h0:Q0 Qo (s.drop k)=0
  ·cases h1:AS (s.drop k) [35]
   ·have e1:=qh (Qsl h1 h0)
    have h1:=qh h1;(go_wp2_with fail;(with_reducible refine(Q92 _ hl.out _).mono ?_);rintro e w' ⟨rfl,rfl⟩)
    rw[h0];clear h0;(go_wp2_with fail;(with_reducible refine(Q4o _ _ _ hl.out).mono ?_);rintro e w' ⟨rfl,rfl⟩)
    rw[h1.out];go_wp2_with fail;go_ret;exact⟨Zw (by rw[ah.out,e1.out];rfl),rfl⟩
   ·have e1:=qh (Qsg h1)
    have cl:=Qqy h1;have hb:((Q0 Z8 (BP k s):Int)==0)=false:=by rw[beq_eq_false_iff_ne];omega
    have h1:=qh h1;(go_wp2_with fail;(with_reducible refine(Q92 _ hl.out _).mono ?_);rintro e w' ⟨rfl,rfl⟩)
    rw[h0];clear h0;(go_wp2_with fail;(with_reducible refine(Q4o _ _ _ hl.out).mono ?_);rintro e w' ⟨rfl,rfl⟩)
    rw[h1.out];(go_wp2_with fail;(with_reducible refine(Qrb _ hl.out _).mono ?_);rintro e w' ⟨rfl,rfl⟩)
    go_wp2_with fail;go_round
    case rel=>exact⟨k+Q0 Z8 (s.drop k),by omega,by go_num,show _=_ by rw[ah.out,e1.out,B0];omega⟩
    case measure=>simp[intOf];omega
  ·have e1:=qh (Qsd (s.drop k))
   have cl:0<Q0 Qo (BP k s):=by omega
   have h0:((Q0 Qo (BP k s):Int)==0)=false:=by simpa using h0
   (go_wp2_with fail;(with_reducible refine(Q92 _ hl.out _).mono ?_);rintro e w' ⟨rfl,rfl⟩)
   go_wp2_with fail;go_round
   case rel=>exact⟨k+Q0 Qo (s.drop k),by omega,by go_num,show _=_ by rw[ah.out,e1.out,B0];omega⟩
   case measure=>simp[intOf];omega
def Q3m(k:Nat):List UInt8:=J2.getD k []
def Q99:Array Value:=(J2.map fun l=>Value.string ⟨l.toArray⟩).toArray
def Zq(w:World):Prop:=∃t fr,w.heap[1]?=some (.cells Q99 t fr)
theorem Qsa(k:Nat)(h:k<13):∀w,(Instr.index 212 (.agg Q99) (.int .i64 (k:Int))).run prog w=.ok (.string ⟨(Q3m k).toArray⟩) w:=by
 intro w;match k,h with
 | 0,_=>(show _=_;kernel_rfl)
 | 1,_=>(show _=_;kernel_rfl)
 | 2,_=>(show _=_;kernel_rfl)
 | 3,_=>(show _=_;kernel_rfl)
 | 4,_=>(show _=_;kernel_rfl)
 | 5,_=>(show _=_;kernel_rfl)
 | 6,_=>(show _=_;kernel_rfl)
 | 7,_=>(show _=_;kernel_rfl)
 | 8,_=>(show _=_;kernel_rfl)
 | 9,_=>(show _=_;kernel_rfl)
 | 10,_=>(show _=_;kernel_rfl)
 | 11,_=>(show _=_;kernel_rfl)
 | 12,_=>(show _=_;kernel_rfl)
theorem Qj3{k:Nat}(h:k<13)(s:List UInt8):Jo (J2.drop k) s=if AS s (Q3m k)then Q3m k else Jo (J2.drop (k+1)) s:=by have hl:k<J2.length:=h;rw[Ak hl,Jo];simp[Q3m,List.getD,hl]
theorem Qs7(s:List UInt8)(w:World)(hs:s.length<=maxLen)(hg:Zq w):
  Calls prog 171 #[.string ⟨s.toArray⟩] w fun e w'=>e=.returned (.string ⟨(Jo J2 s).toArray⟩)/\w'=w:=by
 have hs:=qh hs;obtain⟨t,fr,hg⟩:=hg;have HG:=qh hg;clear hg;go_enter func171,ntmps171;go_wp2_with (refine wpList_load_row rfl 212 _ rfl 1 rfl t _ fr _ HG.out underlying212 rfl (by kernel_rfl) ?_);go_loop [6] (fun i=>∃k:Nat,k<=13/\i=.int .i64 k/\Hid (Jo J2 s=Jo (J2.drop k) s)) (fun i=>13-(intOf i).toNat)
 case atStart=>exact⟨0,AA _,rfl,show _=_ from rfl⟩
 case round=>
  obtain⟨k,hk,rfl,ah⟩:=hrel;by_cases af:k<13
  ·have qK:=Qsa k af
   have ae:=qh (Qj3 af s);cases hp:AS s (Q3m k)
   ·have hp:=qh hp
    (go_wp2_with fail;(with_reducible refine(Q4o _ _ _ hs.out).mono ?_);rintro e w' ⟨rfl,rfl⟩)
    rw[hp.out];go_wp2_with fail;go_round
    case rel=>exact⟨k+1,by omega,by go_num,show _=_ by rw[ah.out,ae.out,hp.out];rfl⟩
    case measure=>simp[intOf];omega
   ·have hp:=qh hp
    (go_wp2_with fail;(with_reducible refine(Q4o _ _ _ hs.out).mono ?_);rintro e w' ⟨rfl,rfl⟩)
    rw[hp.out];go_wp2_with fail;go_ret;exact⟨Q0l (by rw[ah.out,ae.out,hp.out];rfl),rfl⟩
  ·go_wp2_with fail
   go_ret;have:k=13:=by omega
   subst this;exact⟨Q0l (by rw[ah.out];rfl),rfl⟩
end Go.Proofs.YtakdifceogdioaaGreatDoor
section
namespace Go.Proofs
open Go.Shelf
def Tryz.lays161_ren:Go.Shelf.Ren:=⟨fun|161=>235|231=>256|227=>257|233=>258|235=>259|228=>270|197=>271|151=>272|260=>280|152=>281|137=>287|119=>288|224=>289|225=>290|217=>293|266=>294|n=>n,fun|9=>9|4=>4|3=>3|5=>5|117=>241|116=>240|0=>0|124=>244|105=>253|21=>21|119=>249|46=>236|139=>288|138=>287|n=>n,fun|3=>9|4=>10|n=>n⟩
theorem Tryz.lays161:Go.Proofs.Lays.n161 prog Tryz.lays161_ren:=by constructor<;>repeat' first|kernel_rfl|(intro w;simp[go_sem,Tryz.lays161_ren];done)|decide|constructor
open Go.RowKit in
theorem Tryz.strings_TrimLeft_one(s:ByteArray)(c:UInt8)(hc:c.toNat<128)(w:World):
  Calls prog 235 #[.string s,.string ⟨#[c]⟩] w fun e w'=>e=.returned (.string ⟨(Lib.trimLeftB s.data.toList c).toArray⟩)/\w'=w:=Any.strings_TrimLeft_one Tryz.lays161 s c hc w
def Tryz.lays172_ren:Go.Shelf.Ren:=⟨fun|172=>236|244=>260|245=>261|247=>273|279=>274|280=>275|281=>276|282=>277|287=>282|316=>283|171=>107|205=>284|321=>291|322=>292|243=>145|246=>194|283=>228|284=>229|285=>230|286=>231|129=>251|317=>250|318=>252|319=>253|320=>254|337=>268|338=>269|n=>n,fun|9=>9|3=>3|75=>176|76=>177|4=>4|5=>5|167=>256|37=>133|0=>0|85=>257|2=>2|168=>259|53=>224|175=>270|46=>236|210=>273|127=>188|145=>294|143=>292|21=>21|171=>223|173=>227|212=>233|51=>234|20=>20|213=>235|232=>267|233=>268|80=>146|n=>n,fun|15=>7|16=>8|17=>2|18=>5|19=>6|n=>n⟩
theorem Tryz.lays172:Go.Proofs.Lays.n172 prog Tryz.lays172_ren:=by constructor<;>repeat' first|kernel_rfl|(intro w;simp[go_sem,Tryz.lays172_ren];done)|decide|constructor
open Go.RowKit in
theorem Tryz.strconv_Atoi(s:ByteArray)(n:Int)(hl:s.size<=18)(h:Lib.atoi s.data.toList=some n)(w:World):
  Calls prog 236 #[.string s] w fun e w'=>e=.returned (.tuple #[.int .i64 n,.nilIface])/\∃t,w'=C3 w 5 t:=Any.strconv_Atoi Tryz.lays172 s n hl h w
def Tryz.laysM171_ren:Go.Shelf.Ren:=⟨fun|171=>107|243=>145|246=>194|283=>228|284=>229|285=>230|286=>231|129=>251|317=>250|318=>252|319=>253|320=>254|337=>268|338=>269|n=>n,fun|3=>3|9=>9|2=>2|4=>4|171=>223|0=>0|53=>224|37=>133|5=>5|173=>227|212=>233|51=>234|20=>20|213=>235|46=>236|232=>267|233=>268|n=>n,fun|17=>2|18=>5|19=>6|n=>n⟩
theorem Tryz.laysM171:Go.Proofs.LaysM.n171 prog Tryz.laysM171_ren:=by constructor<;>repeat' first|kernel_rfl|(intro w;simp[go_sem,Tryz.laysM171_ren];done)|decide|constructor
open Go.RowKit Go.Sort Go.Lib in
theorem Tryz.strconv_Itoa(n:Int)(h0:-9223372036854775808<=n)(h1:n<=9223372036854775807)(w:World)(qL:BW prog w "internal/strconv.uint64pow10" .u64 Lib.pow10Tab):
  Calls prog 107 #[.int .i64 n] w fun e w'=>e=.returned (.string ⟨(Lib.itoa n).toArray⟩)/\∃k os,w'=grow (w.drewN k) os:=Any.strconv_Itoa Tryz.laysM171 n h0 h1 w qL
def Tryz.laysC172_ren:Go.Shelf.Ren:=⟨fun|172=>236|244=>260|245=>261|247=>273|279=>274|280=>275|281=>276|282=>277|287=>282|316=>283|171=>107|205=>284|321=>291|322=>292|243=>145|246=>194|283=>228|284=>229|285=>230|286=>231|129=>251|317=>250|318=>252|319=>253|320=>254|337=>268|338=>269|n=>n,fun|9=>9|3=>3|75=>176|76=>177|4=>4|5=>5|167=>256|37=>133|0=>0|85=>257|2=>2|168=>259|53=>224|175=>270|46=>236|210=>273|127=>188|145=>294|143=>292|21=>21|171=>223|173=>227|212=>233|51=>234|20=>20|213=>235|232=>267|233=>268|80=>146|n=>n,fun|15=>7|16=>8|17=>2|18=>5|19=>6|n=>n⟩
theorem Tryz.laysC172:Go.Proofs.LaysC.n172 prog Tryz.laysC172_ren:=by constructor<;>repeat' first|kernel_rfl|(intro w;simp[go_sem,Tryz.laysC172_ren];done)|decide|constructor
open Go.RowKit in
theorem Tryz.strconv_Atoi_ok(s:ByteArray)(qM:s.size<=9223372036854775806)(v:Int)(h:Lib.atoiAll s.data.toList=.ok v)(w:World):
  Calls prog 236 #[.string s] w fun e w'=>e=.returned (.tuple #[.int .i64 v,.nilIface])/\(w'=w∨∃t,w'=C3 w 5 t):=Any.strconv_Atoi_ok Tryz.laysC172 s qM v h w
def Tryz.lays110_ren:Go.Shelf.Ren:=⟨fun|110=>174|109=>213|n=>n,fun|31=>62|9=>9|4=>4|3=>3|0=>0|n=>n,fun|n=>n⟩
theorem Tryz.lays110:Go.Proofs.Lays.n110 prog Tryz.lays110_ren:=by constructor<;>repeat' first|kernel_rfl|(intro w;simp[go_sem,Tryz.lays110_ren];done)|decide|constructor
open Go.Lib in
theorem Tryz.slices_Contains_string(b off n c:Nat)(zs:List ByteArray)(x:ByteArray)(w:World)(hz:n<=zs.length)(aZ:n<=9223372036854775807)(hc:∀j,j<zs.length->w.cell? ⟨b,off+j,none⟩=some (.string (zs.getD j ByteArray.empty))):
  Calls prog 174 #[.slice (some ⟨b,off,none⟩) n c,.string x] w fun e w'=>e=.returned (.bool (Lib.containsS (zs.take n) x))/\w'=w:=Any.slices_Contains_string Tryz.lays110 b off n c zs x w hz aZ hc
end Go.Proofs
end
namespace Go.Proofs.YtakdifceogdioaaGreatDoor
open Go.Proofs.Tryz
open Go.RowKit
theorem Qa5(w:World)(e:TypeId)(s:ByteArray):Below w.heap.size w (C3 w e s):=by
 unfold C3 World.freeze;split
 ·exact(Below.refl _ _).drew.alloc (A4 _) _
 ·have h:=((Below.refl w.heap.size w).drew.alloc (A4 _) (.cells (Lib.bytesCells w e s) e))
  refine h.trans ⟨rfl,rfl,rfl,by simp,fun k hk=>?_⟩;simp only[Am];rw[if_neg (by omega)]
theorem Qk5(l:List UInt8)(w:World)(hl:l.length<=1000000000)(hd:∀c∈l,Q6 c.toNat=true):
  Calls prog 211 #[.string ⟨l.toArray⟩] w fun e w'=>e=.returned (.bool (Q0v l))/\Below w.heap.size w w':=by
 have hl:=hl;have h1:=Tryz.strings_TrimLeft_one ⟨l.toArray⟩ 48 (by decide) w;have H1:Hid (Calls prog 235 #[.string ⟨l.toArray⟩,.string ⟨#[48]⟩] w fun e w'=>e=.returned (.string ⟨(l.dropWhile (·==(48:UInt8))).toArray⟩)/\w'=w):=h1;clear h1;by_cases hg:7<(l.dropWhile (·==(48:UInt8))).length
 ·have hr:=qh (Qik hd hg)
  have hle:=(List.dropWhile_sublist (p:=(·==(48:UInt8))) (l:=l)).length_le;clear hd;generalize l.dropWhile (·==(48:UInt8))=m at *;go_enter func211,ntmps211;(go_wp2_with fail;(with_reducible refine(H1.out).mono ?_);rintro e w' ⟨rfl,rfl⟩)
  go_wp2_with fail;go_ret;exact⟨Q5 (by simp[Q0v,hr.out]),Below.refl _ _⟩
 ·have ha:=Qhn _ (Qtp hd)
  rw[Qap]at ha;have hv:dv 0 l<=dv 0 l:=A4 _;clear hd;generalize l.dropWhile (·==(48:UInt8))=m at *;generalize hn:dv 0 l=n at *;have HA:=qh (Tryz.strconv_Atoi ⟨(48::m).toArray⟩ n (by rw[Q2r];simp;omega) ha w);have hn:=qh hn;clear ha;go_enter func211,ntmps211;(go_wp2_with fail;(with_reducible refine(H1.out).mono ?_);rintro e w' ⟨rfl,rfl⟩)
  go_wp2_with fail;(with_reducible refine(HA.out).mono ?_);rintro e w'' ⟨rfl,t,rfl⟩
  go_wp2_with fail;go_ret;exact⟨Q5 (by simp[Q0v,hn.out];omega),Qa5 _ _ _⟩
def Q16(l:List UInt8):Value:=.tuple #[.int .i64 (J3 l).1,.int .i64 (J3 l).2.1,.int .i64 (J3 l).2.2]
theorem Qer{p:Int->Bool}{c:UInt8}{r:List UInt8}:(Q0 p (c::r)=0)=(p c.toNat=false):=by simp only[Q0];cases p c.toNat<;>simp
theorem Qu9(c:UInt8)(r:List UInt8)(w:World)(hl:(c::r).length<=1000000000):
  Calls prog 170 #[.string ⟨(c::r).toArray⟩] w fun e w'=>e=.returned (Q16 (c::r))/\Below w.heap.size w w':=by
 have hm:=qh (show(c::r).length<=maxLen by simp only[maxLen];omega);cases hc:Qv c.toNat
 ·have h0:Q0 Qv (c::r)=0:=by rw[Qer];exact hc
  have hw:J3 (c::r)=if Q0 Q6 (c::r)<(c::r).length then(0,Q0 Q6 (c::r),4)else if Q0v (c::r)then(0,0,2)else(1,0,0):=by rw[J3,if_pos h0]
  have hle:=Yi Q6 (c::r);have hc:=qh hc;clear h0;by_cases hd:Q0 Q6 (c::r)<(c::r).length
  ·rw[if_pos hd]at hw
   have hw:=qh hw;have uq:(Q0 Q6 (c::r):Int)<(c::r).length:=by omega
   simp only[Ad]at hd hle uq hl;go_enter func170,ntmps170;(go_wp2_with fail;(with_reducible refine(Q26 _ _).mono ?_);rintro e w' ⟨rfl,rfl⟩)
   rw[hc.out];(go_wp2_with fail;(with_reducible refine(Qeu _ hm.out _).mono ?_);rintro e w' ⟨rfl,rfl⟩)
   go_wp2_with fail;go_ret3
   exact⟨by rw[Q16,hw.out];rfl,Below.refl _ _⟩
  ·have ah:=qh (Qeq (show Q0 Q6 (c::r)=(c::r).length by omega))
   have qN:(c::r).length<=Q0 Q6 (c::r):=by omega
   rw[if_neg hd]at hw;have hlen:=qh hl;simp only[Ad]at hd hle hl qN;cases hg:Q0v (c::r);all_goals
    rw[hg]at hw;have hw:=qh hw;have hg:=qh hg;go_enter func170,ntmps170;(go_wp2_with fail;(with_reducible refine(Q26 _ _).mono ?_);rintro e w' ⟨rfl,rfl⟩)
    rw[hc.out];(go_wp2_with fail;(with_reducible refine(Qeu _ hm.out _).mono ?_);rintro e w' ⟨rfl,rfl⟩)
    go_wp2_with fail;(with_reducible refine(Qk5 (c::r) _ hlen.out ah.out).mono ?_)
    rintro e w1 ⟨rfl,hb⟩;rw[hg.out];go_wp2_with fail;go_ret3
    exact⟨by rw[Q16,hw.out];rfl,hb⟩
 ·have h0:¬ Q0 Qv (c::r)=0:=by rw[Qer];simp[hc]
  have hw:J3 (c::r)=if 24<(c::r).length then(0,0,8)else(0,0,0):=by rw[J3,if_neg h0]
  have hc:=qh hc;clear h0;by_cases hd:24<(c::r).length
  ·rw[if_pos hd]at hw
   have hw:=qh hw;simp only[Ad]at hd hl;go_enter func170,ntmps170;(go_wp2_with fail;(with_reducible refine(Q26 _ _).mono ?_);rintro e w' ⟨rfl,rfl⟩)
   rw[hc.out];go_wp2_with fail;go_ret3
   exact⟨by rw[Q16,hw.out];rfl,Below.refl _ _⟩
  ·rw[if_neg hd]at hw
   have hw:=qh hw;simp only[Ad]at hd hl;go_enter func170,ntmps170;(go_wp2_with fail;(with_reducible refine(Q26 _ _).mono ?_);rintro e w' ⟨rfl,rfl⟩)
   rw[hc.out];go_wp2_with fail;go_ret3
   exact⟨by rw[Q16,hw.out];rfl,Below.refl _ _⟩
theorem bcell{W w1:World}(hb:Below W.heap.size W w1):(∀b o,b<W.heap.size->w1.cell? ⟨b,o,none⟩=W.cell? ⟨b,o,none⟩)/\(∀b o,b<W.heap.size->w1.frozen? ⟨b,o,none⟩=W.frozen? ⟨b,o,none⟩):=⟨fun b o h=>hb.cell (p:=⟨b,o,none⟩) h,fun b o h=>hb.frozen (p:=⟨b,o,none⟩) h⟩
theorem Y2{B:Nat}{a w:World}(h:Below B a w)(n:Nat):Below B a (w.drewN n):=h.trans ⟨rfl,rfl,rfl,A4 _,fun _ _=>rfl⟩
theorem Qg6:(prog.info? 158).map (fun i=>(i.zero,i.size,i.bytes))=some (some (.agg #[.int .i64 0,.string ByteArray.empty,.int .i64 0]),3,32):=by kernel_rfl
def Za:List Tok->List Value
 | []=>[]
 | t::r=>.int .i64 t.kind::.string ⟨t.text.toArray⟩::.int .i64 t.pos::Za r
theorem Q3r(a b:List Tok):Za (a++b)=Za a++Za b:=by
 induction a with
 | nil=>rfl
 | cons t r ih=>simp[Za,ih]
theorem Zq.below{w w':World}{B:Nat}(h:Zq w)(hb:Below B w w')(hB:1<B):Zq w':=by obtain⟨t,fr,h⟩:=h;exact⟨t,fr,by rw[hb.block _ hB];exact h⟩
def Q9x(w:World)(r:Except (Nat×Nat) (List Tok))(e:Ending)(w':World):Prop:=
 Below w.heap.size w w'/\match r with
 | .error (d,x)=>e=.returned (.tuple #[.slice none 0 0,.int .i64 d,.int .i64 x])
 | .ok ts=>∃v,e=.returned (.tuple #[v,.int .i64 0,.int .i64 0])/\w'.ownsRow w.heap.size 158 3 v ts.length (Za ts)
theorem news3(w:World)(a b c:Value)(T:TypeId):∀j u,[a,b,c][j]?=some u->(w.alloc (.cells #[a,b,c] T)).cell? ((⟨w.heap.size,0,none⟩:Addr).add j)=some u:=by
 intro j u h;have:(⟨w.heap.size,0,none⟩:Addr).add j=⟨w.heap.size,j,none⟩:=by unfold Addr.add;split<;>simp_all
 rw[this,Ag,heap_alloc_new];simpa using h
theorem one3(k p:Int)(s:ByteArray):∀u∈[Value.int .i64 k,.string s,.int .i64 p],u.oneCell'=true:=by intro u h;simp at h;rcases h with rfl|rfl|rfl<;>rfl
theorem Qn9{w w':World}{B e size n:Nat}{v:Value}{xs:List Value}(h:w.ownsRow B e size v n xs)(hb:Below w.heap.size w w'):w'.ownsRow B e size v n xs:=h.kept (row:=none) ⟨hb.os,hb.tape,hb.output,hb.size,fun k hk _=>hb.block k hk⟩ (by cases hv:v.ownBlock<;>simp)
theorem Qna{w:World}{B e size n b o:Nat}{v:Value}{xs:List Value}(h:w.ownsRow B e size v n xs)(am:v.ownBlock≠some b)(x:Value):(w.setCell ⟨b,o,none⟩ x).ownsRow B e size v n xs:=h.kept (row:=some b) ⟨rfl,rfl,rfl,by simp[A9],fun k _ hk=>Below.heap_setCell _ _ _ _ (fun e=>hk (by simp[e]))⟩ (Or.inr am)
theorem Qua(l:List UInt8)(h:l≠[])(w:World)(hl:l.length<=1000000000):
  Calls prog 170 #[.string ⟨l.toArray⟩] w fun e w'=>e=.returned (Q16 l)/\Below w.heap.size w w':=by
 match l,h with
 | c::r,_=>exact Qu9 c r w hl
theorem Qf3(s:List UInt8)(w:World)(hs:s.length<=1000000)(hg:Zq w)(lZ:1<w.heap.size):
  Calls prog 120 #[.string ⟨s.toArray⟩] w (Q9x w (scan s)):=by
 by_cases hlong:65536<s.length
 ·have hr:Hid (scan s=.error (0,13)):=show _=_ by rw[scan,if_pos hlong]
  go_enter func120,ntmps120;go_wp2_with fail;go_ret3
  rw[hr.out];exact⟨Below.refl _ _,rfl⟩
 ·have hle:s.length<=65536:=by omega
  have hr:=qh (Q96 hle);obtain⟨i0,hi,d9,cH,di⟩:=info_parts Qg6;have HG:=qh hg;have HI:=qh hi;have HZ:=qh (And.intro d9 (And.intro cH di));clear hg hi d9 cH di hlong;have qO:=Q1w false s;go_enter func120,ntmps120;go_wp2_with fail;(with_reducible refine(Q97 _ _ (by omega)).mono ?_);rintro e w' ⟨rfl,rfl⟩
  go_wp2_with fail;obtain⟨w0,ti⟩:∃w0:World,w0=w':=⟨_,rfl⟩;replace ti:=qh ti;go_loopw [5,6] (fun v i wr=>∃k:Nat,∃ts:List Tok,k<=s.length/\i=.int .i64 k/\wr.ownsRow w'.heap.size 158 3 v ts.length (Za ts)/\ts.length<=k/\Below w'.heap.size w' wr/\Zq wr/\Hid (skip false (s.drop k)=0/\Jk 0 s=app ts (Jk k (s.drop k)))) (fun _ i _=>s.length-(intOf i).toNat)
  case atStart=>exact⟨skip false s,[],qO,rfl,World.ownsRow_nil _ _ _ _,by simp,Below.refl _ _,HG.out,Q2f s false,by rw[Qa0,Q1u];simp⟩
  case round=>
   obtain⟨k,ts,hk,rfl,be,ur,hb,me,ah⟩:=hrel;by_cases af:k<s.length
   ·by_cases hw:Q0 Q3 (s.drop k)=0
    ·have iS:=qh (Qg8 hw)
     have hm:=qh (show(s.drop k).length<=maxLen by simp[maxLen];omega);have dm:=fun W=>Qez (s.drop k) hm.out W
     rw[hw]at dm;replace dm:=qh dm;have fF:Hid (s.drop k≠[]):=by intro e;have:=congrArg Bk e;simp at this;omega
     have tj:=Q5j (s.drop k);have nU:=Q79 (s.drop k);have pL:=qh (fun W=>Qs7 (s.drop k) W hm.out);have hlen:(Jo J2 (s.drop k)).length=Qw (s.drop k):=by rw[nU,AG];omega
     have cy:Hid (Jo J2 (s.drop k)=(s.drop k).take (Jo J2 (s.drop k)).length):=show _=_ by rw[hlen];exact nU
     have nV:k+(Jo J2 (s.drop k)).length<=s.length:=by simp only[Ax]at tj;omega
     clear hw nU tj hlen;have iT:∀o,Zq (wr.alloc o):=fun o=>me.below ((Below.refl _ _).alloc (A4 _) o) (by have:=hb.size;omega)
     generalize Jo J2 (s.drop k)=sg at *;cases sg with
     | nil=>
      have fc:Hid (scan s=.error (k,4)):=show _=_ by have h1:=iS.out;simp only[if_true]at h1;rw[hr.out,ah.out.2,Q94 ah.out.1 fF.out h1];rfl
      replace iT:=qh iT;go_wp2_with fail;(with_reducible refine(dm.out _).mono ?_);rintro e w1 ⟨rfl,rfl⟩
      go_wp2_with fail;(with_reducible refine(pL.out _ (iT.out _)).mono ?_);rintro e w1 ⟨rfl,rfl⟩
      go_wp2_with fail;go_ret3
      rw[fc.out];exact⟨hb.alloc hb.size _,rfl⟩
     | cons c0 r0=>
      replace iT:=qh iT;have we:0<(c0::r0).length:=by simp
      generalize hn:(c0::r0).length=n at *;have hlen:Hid ((c0::r0).length=n):=hn;replace hn:=qh hn;have fc:Hid (scan s=app (ts++[⟨2,c0::r0,k⟩]) (Jk (k+n) (s.drop (k+n)))):=show _=_ by have h1:=iS.out;rw[if_neg (by simp)]at h1;rw[hr.out,ah.out.2,Q5g ah.out.1 fF.out h1,Q6c,B0,<-cy.out];rfl
      obtain⟨d9,cH,di⟩:=HZ.out;have hi:=HI.out;go_wp2_with fail;(with_reducible refine(dm.out _).mono ?_);rintro e w1 ⟨rfl,rfl⟩
      go_wp2_with fail;(with_reducible refine(pL.out _ (iT.out _)).mono ?_);rintro e w1 ⟨rfl,rfl⟩
      have iU:Hid (u5.ownBlock≠some wr.heap.size):=by intro e;have:=be.lt _ e;omega
      have j7:=qh (fun(o o':Obj)=>(be.alloc o).alloc o');go_wp2_with (at_builtin;refine wpList_append_own _ rfl _ _ 150 rfl w'.heap.size 158 i0 _ 3 32 underlying150 hi d9 cH di rfl (by decide) _ _ _ rfl (j7.out _ _) ⟨wr.heap.size+1,0,none⟩ 1 1 [.int .i64 2,.string ⟨(c0::r0).toArray⟩,.int .i64 k] rfl rfl ?c1 ?c2 ?c3 ?c4 ?c5 ?_)
      case c1=>have h:=news3 (wr.alloc (Obj.cells #[.int .i64 2,.string ⟨(c0::r0).toArray⟩,.int .i64 k] 158)) (.int .i64 2) (.string ⟨(c0::r0).toArray⟩) (.int .i64 k) 158;rw[Aa]at h;exact h
      case c2=>exact one3 _ _ _
      case c3=>unfold maxLen;omega
      case c4=>omega
      case c5=>have:=hb.size;simp;omega
      intro v' w3 bM hgrow _;have c3:w3.cell? ⟨wr.heap.size,1,none⟩=some (.string ⟨(c0::r0).toArray⟩):=hgrow.cell (by simp[go_sem]) (Ne.symm iU.out);have nW:=Q1w false (s.drop (k+n));have j8:=hlen.out;simp only[Ad]at j8;have tl:((r0.length:Int)+1)=n:=by omega
      clear j8;simp only[Ax]at nW;replace bM:=qh bM;have bU:=qh ((hb.alloc hb.size (Obj.cells #[.int .i64 2,.string ⟨(c0::r0).toArray⟩,.int .i64 k] 158)).alloc (by have:=hb.size;simp;omega) (Obj.cells #[.int .i64 2,.string ⟨(c0::r0).toArray⟩,.int .i64 k] 158) |>.grown hgrow (by have:=hb.size;simp;omega) (fun g hg=>(be.lt g hg).1));clear hgrow;go_wp2_with fail;(with_reducible refine(Q97 _ _ (by simp only[Ax];omega)).mono ?_);rintro e w1 ⟨rfl,rfl⟩
      go_wp2_with fail;go_roundw
      case rel=>exact⟨k+n+skip false (s.drop (k+n)),ts++[⟨2,c0::r0,k⟩],by omega,by go_num,by rw[Q3r,Ac];exact bM.out,by simp;omega,bU.out,HG.out.below bU.out lZ,by have h:=Q2f (s.drop (k+n)) false;rwa[B0]at h,by rw[<-hr.out,fc.out,Q1u,B0]⟩
      case measure=>simp[intOf];omega
    ·have iV:=Yi Q3 (s.drop k)
     have nX:0<Q0 Q3 (s.drop k):=by omega
     have iS:=qh (Qu8 nX);have hm:=qh (show(s.drop k).length<=maxLen by simp[maxLen];omega);have dm:=qh (fun W=>Qez (s.drop k) hm.out W);have am:s.drop k≠[]:=by intro e;have:=congrArg Bk e;simp at this;omega
     have hlen:(BH (Q0 Q3 (s.drop k)) (s.drop k)).length=Q0 Q3 (s.drop k):=by rw[AG];omega
     have ah:=ah;generalize hn:Q0 Q3 (s.drop k)=n at *;generalize eJ:BH n (s.drop k)=txt at *;have nY:Hid (BP n (s.drop k)=s.drop (k+n)):=show _=_ by rw[B0]
     have nV:k+n<=s.length:=by simp only[Ax]at iV;omega
     have fF:Hid (s.drop k≠[]):=am;have kr:=qh (fun W=>Qua txt (by intro e;rw[e]at hlen;simp at hlen;omega) W (by omega));replace hlen:=qh hlen;replace hn:=qh hn;clear hw iV am;generalize j9:J3 txt=res at *;have iB:=Qu7 txt;rw[j9,hlen.out]at iB;obtain⟨kd,pl,er⟩:=res;replace iB:pl<=n:=iB;have tm:Hid (Q16 txt=.tuple #[.int .i64 kd,.int .i64 pl,.int .i64 er]):=show _=_ by rw[Q16,j9]
     replace j9:=qh j9;by_cases iW:er=0
     ·subst iW
      have fc:Hid (scan s=app (ts++[⟨kd,txt,k⟩]) (Jk (k+n) (s.drop (k+n)))):=show _=_ by have h1:=iS.out;simp only[if_true]at h1;rw[hr.out,ah.out.2,Q5g ah.out.1 fF.out h1,Q6c,eJ,B0]
      obtain⟨d9,cH,di⟩:=HZ.out;have hi:=HI.out;go_wp2_with fail;(with_reducible refine(dm.out _).mono ?_);rintro e w1 ⟨rfl,rfl⟩
      go_wp2_with fail;(with_reducible refine(kr.out _).mono ?_);rintro e w2 ⟨rfl,aI⟩
      rw[tm.out];obtain⟨hc,hf⟩:=bcell aI;have qQ:wr.heap.size<w2.heap.size:=by have:=aI.size;simp at this;omega
      have iU:u5.ownBlock≠some wr.heap.size:=by intro e;have:=be.lt _ e;omega
      have j7:=qh (fun(o:Obj)=>(Qna (o:=0) (Qn9 (be.alloc _) aI) iU (.int .i64 kd)).alloc o);replace iU:=qh iU;clear iS j9;go_wp2_with (at_builtin;refine wpList_append_own _ rfl _ _ 150 rfl w'.heap.size 158 i0 _ 3 32 underlying150 hi d9 cH di rfl (by decide) _ _ _ rfl (j7.out _) ⟨w2.heap.size,0,none⟩ 1 1 [.int .i64 kd,.string ⟨txt.toArray⟩,.int .i64 k] rfl rfl ?c1 ?c2 ?c3 ?c4 ?c5 ?_)
      case c1=>have h:=news3 (w2.setCell ⟨wr.heap.size,0,none⟩ (.int .i64 kd)) (.int .i64 kd) (.string ⟨txt.toArray⟩) (.int .i64 k) 158;rw[World.size_setCell]at h;exact h
      case c2=>exact one3 _ _ _
      case c3=>unfold maxLen;omega
      case c4=>omega
      case c5=>have:=hb.size;simp;omega
      intro v' w3 bM hgrow _;have c3:w3.cell? ⟨wr.heap.size,1,none⟩=some (.string ⟨txt.toArray⟩):=hgrow.cell (by simp[go_sem,hc,qQ]) (Ne.symm iU.out);have j8:=hlen.out;have nW:=Q1w false (s.drop (k+n));simp only[Ax]at nW;replace bM:=qh bM;have bU:=qh (((hb.trans (((Below.refl _ _).alloc hb.size _).trans (aI.mono (by have:=hb.size;simp;omega)))).setCell (p:=⟨wr.heap.size,0,none⟩) hb.size (.int .i64 kd)).alloc (by have:=hb.size;simp;omega) (Obj.cells #[.int .i64 kd,.string ⟨txt.toArray⟩,.int .i64 k] 158) |>.grown hgrow (by have:=hb.size;simp;omega) (fun g hg=>(be.lt g hg).1));clear hgrow hc hf aI;go_wp2_with fail;(with_reducible refine(Q97 _ _ (by simp only[Ax];omega)).mono ?_);rintro e w1 ⟨rfl,rfl⟩
      go_wp2_with fail;go_roundw
      case rel=>exact⟨k+n+skip false (s.drop (k+n)),ts++[⟨kd,txt,k⟩],by omega,by go_num,by rw[Q3r,Ac];exact bM.out,by simp;omega,bU.out,HG.out.below bU.out lZ,by have h:=Q2f (s.drop (k+n)) false;rwa[B0]at h,by rw[<-hr.out,fc.out,Q1u,B0]⟩
      case measure=>simp[intOf];omega
     ·have bn:((er:Int)!=0)=true:=by rw[bne_iff_ne];omega
      have fc:Hid (scan s=.error (k+pl,er)):=show _=_ by rw[hr.out];have h1:=iS.out;simp only[iW,if_false]at h1;rw[ah.out.2,Q94 ah.out.1 fF.out h1];rfl
      clear iW;go_wp2_with fail;(with_reducible refine(dm.out _).mono ?_);rintro e w1 ⟨rfl,rfl⟩
      go_wp2_with fail;(with_reducible refine(kr.out _).mono ?_);rintro e w2 ⟨rfl,aI⟩
      rw[tm.out];obtain⟨hc,hf⟩:=bcell aI;go_wp2_with fail;go_ret3
      rw[fc.out];exact⟨hb.trans (((Below.refl _ _).alloc hb.size _).trans (aI.mono (by have:=hb.size;simp;omega))),rfl⟩
   ·have fW:k=s.length:=by omega
    have aa:Hid (scan s=.ok (ts++[⟨3,[],s.length⟩])):=show _=_ by rw[hr.out,ah.out.2,AK (by omega),Q95,fW];rfl
    obtain⟨d9,cH,di⟩:=HZ.out;have hi:=HI.out;replace fW:=qh fW;go_wp2_with (at_builtin;refine wpList_append_own _ rfl _ _ 150 rfl w'.heap.size 158 i0 _ 3 32 underlying150 hi d9 cH di rfl (by decide) _ _ _ rfl (be.alloc _) ⟨wr.heap.size,0,none⟩ 1 1 [.int .i64 3,.string ⟨#[]⟩,.int .i64 s.length] rfl rfl ?c1 ?c2 ?c3 ?c4 ?c5 ?_)
    case c1=>exact news3 _ _ _ _ _
    case c2=>exact one3 _ _ _
    case c3=>unfold maxLen;omega
    case c4=>omega
    case c5=>have:=hb.size;simp;omega
    intro v' w1 bM hgrow _;go_wp2_with fail;go_ret3
    rw[aa.out];refine⟨(hb.alloc hb.size _).grown hgrow (by have:=hb.size;simp;omega) (fun g hg=>(be.lt g hg).1),v',rfl,?_⟩;rw[Q3r];simpa[Za]using bM
def Ql7:List (List UInt8):=[[67],[68],[69],[75],[97,100,118,101,114,115,97,114,121],[97,108,108],[97,108,108,111,119],[97,108,119,97,121,115],[97,110,100],[97,116],[99,97,108,109],[99,111,117,110,116],[99,114,97,115,104],[100,101,99,105,100,101,100],[101,118,101,110,116,117,97,108,108,121],[101,118,101,114,121,111,110,101],[102,97,117,108,116,121],[102,111,114],[102,111,114,109,117,108,97],[103,105,118,101,110],[103,114,97,112,104,115],[104,101,97,114,100],[104,101,97,114,115],[105,110],[105,110,112,117,116],[105,110,112,117,116,115],[110,101,120,116],[110,111,116],[111,109,105,116],[111,114],[111,117,116],[111,117,116,112,117,116,115],[112,97,114,116,105,116,105,111,110],[112,114,111,98,108,101,109],[112,114,111,99,101,115,115,101,115],[114,101,99,101,105,118,101],[114,111,117,110,100,115],[115,101,110,100],[115,110,97,112,115,104,111,116],[115,111,109,101],[116,97,115,107],[116,104,101,110],[116,114,117,101],[117,110,100,101,114],[117,110,116,105,108],[119,104,101,114,101]]
def Zc(w:World):Prop:=BW prog w "strings.asciiSpace" .u8 Lib.asciiSpaceTab
theorem Zc.below{w w':World}(h:Zc w)(hb:Below w.heap.size w w'):Zc w':=by
 unfold Zc BW BZ at *;rw[show prog.globalNamed "strings.asciiSpace" = some 3 from by kernel_rfl]at *;simp only[AO]at *;have:3<w.heap.size:=by
  rcases B9 3 w.heap.size with h'|h'
  ·exact h'
  ·simp[Bq h']at h
 rw[hb.block _ this];exact h
def Q8(s:List UInt8):Bool:=decide (s∈Ql7)
end Go.Proofs.YtakdifceogdioaaGreatDoor
namespace Go.Proofs.YtakdifceogdioaaGreatDoor
open Go.Proofs.Tryz
abbrev J4:List UInt8:=[116,104,101,110]
abbrev Jq:List UInt8:=[117,110,116,105,108]
abbrev Zs:List UInt8:=[99,111,117,110,116]
abbrev kAll:List UInt8:=[97,108,108]
abbrev Qkz:List UInt8:=[115,111,109,101]
abbrev kIn:List UInt8:=[105,110]
abbrev kOut:List UInt8:=[111,117,116]
abbrev Q4t:List UInt8:=[104,101,97,114,115]
abbrev Qky:List UInt8:=[115,110,97,112,115,104,111,116]
abbrev Q4s:List UInt8:=[103,114,97,112,104,115]
abbrev Jj:List UInt8:=[116,114,117,101]
abbrev Jp:List UInt8:=[101,118,101,114,121,111,110,101]
abbrev cmps:List (List UInt8):=[[61],[33,61],[60],[60,61]]
abbrev sums:List (List UInt8):=[[43],[45]]
abbrev schs:List (List UInt8):=[[99,114,97,115,104],[115,101,110,100],[114,101,99,101,105,118,101],[111,109,105,116],[112,97,114,116,105,116,105,111,110]]
abbrev fone:List (List UInt8):=[[103,105,118,101,110],[102,97,117,108,116,121],[97,116]]
abbrev ftwo:List (List UInt8):=[[105,110,112,117,116],[104,101,97,114,100],[100,101,99,105,100,101,100]]
abbrev fset:List (List UInt8):=[[69],[68],[67]]
abbrev ftim:List (List UInt8):=[[110,101,120,116],[97,108,119,97,121,115],[101,118,101,110,116,117,97,108,108,121]]
def opP(k:Nat)(t:List UInt8):Option (Nat×Nat×Nat):=
 if k=0 then if t=kOr then some (0,0,1)else if t=kAnd then some (1,1,2)else if t∈cmps then some (3,4,4)else if t∈sums then some (4,4,5)else none
 else if k=1 then if t=kOr then some (0,0,1)else if t=kAnd then some (1,1,2)else if t=J4 then some (2,3,2)else none
 else if t=Jq then some (0,1,0)else if t=kOr then some (1,1,2)else if t=kAnd then some (2,2,3)else none
def own(k:Nat)(t:List UInt8):Nat:=((opP k t).getD (0,0,0)).1
def lft(k:Nat)(t:List UInt8):Nat:=((opP k t).getD (0,0,0)).2.1
def rgt(k:Nat)(t:List UInt8):Nat:=((opP k t).getD (0,0,0)).2.2
def lvl(k:Nat)(t:Syn):Nat:=if t.kind=11 then own k t.text else if k=0/\(t.kind=12∨t.kind=13/\t.text≠Zs)then 2 else 5
def natB(n:Int):Bool:=decide (0<=n)&&decide (n<=1048576)
def Qco(s:List UInt8):Bool:=Qbg 0 s&&!Q8 s
def Q2(t:Syn):Bool:=decide (t.kind=9)&&(t.text==[])&&natB t.num&&t.kids.isEmpty
def isNm(t:Syn):Bool:=decide (t.kind=8)&&decide (t.num=0)&&t.kids.isEmpty&&Qco t.text
def Qg(t:Syn):Bool:=decide (t.kind=14)&&decide (t.num=0)&&((t.text==Jp&&t.kids.isEmpty)||(t.text==[]&&t.kids.all Q2))
def okc:Syn->Bool
 | .mk k t n p []=>Q2 (.mk k t n p [])||isNm (.mk k t n p [])
 | .mk k t n _ [a]=>(decide (k=12)&&(t==[])&&decide (n=0)&&okc a)||(decide (k=10)&&decide (n=0)&&(t==kIn||t==kOut)&&okc a)
 | .mk k t n _ [a,b]=>(decide (k=13)&&(t==kAll||t==Qkz||t==Zs)&&decide (n=0)&&isNm a&&okc b) ||
   (decide (k=10)&&decide (n=0)&&(t==Q4t)&&okc a&&okc b)||(decide (k=11)&&decide (n=0)&&(opP 0 t).isSome&&okc a&&okc b)
 | _=>false
def oks:Syn->Bool
 | .mk k t n p []=>isNm (.mk k t n p [])||(decide (k=10)&&decide (n=0)&&(t==Qky))
 | .mk k t n _ [a]=>decide (k=10)&&decide (n=0)&&((t==Q4s&&okc a)||(schs.contains t&&Q2 a))
 | .mk k t n _ [a,b]=>decide (k=11)&&(opP 1 t).isSome&&(if t=J4 then natB n else decide (n=0))&&oks a&&oks b
 | _=>false
def okf:Syn->Bool
 | .mk k t n _ []=>decide (k=10)&&decide (n=0)&&(t==Jj)
 | .mk k t n _ [a]=>(decide (k=12)&&(t==[])&&decide (n=0)&&okf a)||(decide (k=10)&&decide (n=0)&&((fone.contains t&&Q2 a)||(ftim.contains t&&okf a)))
 | .mk k t n _ [a,b]=>(decide (k=10)&&decide (n=0)&&((ftwo.contains t&&Q2 a&&Q2 b)||(t==[75]&&Q2 a&&okf b)||(fset.contains t&&Qg a&&okf b))) ||
   (decide (k=11)&&decide (n=0)&&(opP 2 t).isSome&&okf a&&okf b)
 | _=>false
def opn:Syn->Bool
 | .mk k t _ _ [a]=>if k=13 then t !=Zs else decide (k=12)&&decide (2<=lvl 0 a)&&opn a
 | .mk k t _ _ [_,b]=>if k=13 then t !=Zs else decide (k=11)&&decide (rgt 0 t<=lvl 0 b)&&opn b
 | .mk k t _ _ _=>decide (k=13)&&t !=Zs
def Jc:Nat->Nat->List UInt8->List UInt8
 | 0,_,l=>l
 | f+1,n,l=>if n<10 then UInt8.ofNat (48+n)::l else Jc f (n / 10) (UInt8.ofNat (48+n % 10)::l)
def dec(n:Nat):List UInt8:=Jc (n+1) n []
def par(b:Bool)(s:List UInt8):List UInt8:=if b then 40::(s++[41])else s
def Qlv(t:List UInt8)(a:Syn):Bool:=(t==kOr||t==kAnd)&&opn a
def wrc:Syn->List UInt8
 | .mk k t n _ []=>if k=9 then dec n.toNat else t
 | .mk k t _ _ [a]=>if k=12 then kNot++32::par (decide (lvl 0 a<2)) (wrc a)else t++40::(par (decide (lvl 0 a<4)) (wrc a)++[41])
 | .mk k t _ _ [a,b]=>
  if k=13 then if t=Zs then t++32::(a.text++32::par true (wrc b))else t++32::(a.text++58::32::wrc b)
  else if k=10 then t++40::(par (decide (lvl 0 a<4)) (wrc a)++44::32::(par (decide (lvl 0 b<4)) (wrc b)++[41]))
  else par (Qlv t a||decide (lvl 0 a<lft 0 t)) (wrc a)++32::(t++32::par (decide (lvl 0 b<rgt 0 t)) (wrc b))
 | _=>[]
def wrs:Syn->List UInt8
 | .mk _ t _ _ []=>t
 | .mk _ t _ _ [a]=>t++40::(wrc a++[41])
 | .mk _ t n _ [a,b]=>par (decide (lvl 1 a<lft 1 t)) (wrs a)++32::(t++32::((if t=J4 then dec n.toNat++[32]else[])++par (decide (lvl 1 b<rgt 1 t)) (wrs b)))
 | _=>[]
def commas:List (List UInt8)->List UInt8
 | []=>[]
 | [x]=>x
 | x::y::r=>x++44::32::commas (y::r)
def wset(t:Syn):List UInt8:=if t.text=[]then 123::(commas (t.kids.map fun x=>dec x.num.toNat)++[125])else t.text
def warg(t:Syn):List UInt8:=if t.kind=9 then dec t.num.toNat else wset t
def wrf:Syn->List UInt8
 | .mk _ t _ _ []=>t
 | .mk k t _ _ [a]=>if k=12 then kNot++32::par (decide (lvl 2 a<3)) (wrf a)else if fone.contains t then t++40::(warg a++[41])else t++40::(wrf a++[41])
 | .mk k t _ _ [a,b]=>
  if k=10 then if ftwo.contains t then t++40::(warg a++44::32::(warg b++[41]))else t++40::(warg a++44::32::(wrf b++[41]))
  else par (decide (lvl 2 a<lft 2 t)) (wrf a)++32::(t++32::par (decide (lvl 2 b<rgt 2 t)) (wrf b))
 | _=>[]
def Q57(k:Int)(t:Syn):Bool:=decide (t.kind=k)&&(t.text==[])&&decide (t.num=0)&&(match t.kids with|[a]=>okc a|_=>false)
def Qta(l:List Syn):Bool:=
 match l with
 | []=>false
 | a::l=>Q2 a &&
  let l':=match l with|b::r=>if b.kind=2 then if Q57 2 b then some r else none else some l|[]=>some []
  match l' with
  | none=>false
  | some []=>false
  | some [b]=>Q57 3 b
  | some [b,c]=>Q57 3 b&&Q57 4 c
  | some (_::_::_::_)=>false
def Qif(t:Syn):Bool:=
 Qco t.text&&natB t.num &&
 (if t.kind=1 then Qta t.kids
 else if t.kind=5 then decide (t.num=0)&&(match t.kids with|[a]=>oks a|_=>false)
 else if t.kind=6 then decide (t.num=0)&&(match t.kids with|[a]=>okf a|_=>false)
 else if t.kind=7 then(match t.kids with|[a,b]=>isNm a&&isNm b|_=>false)
 else false)
def Qod(t:Syn):Bool:=decide (t.kind=0)&&(t.text==[])&&natB t.num&&t.kids.all Qif
abbrev Ql0:List UInt8:=[116,97,115,107]
abbrev kAdv:List UInt8:=[97,100,118,101,114,115,97,114,121]
abbrev Qks:List UInt8:=[102,111,114,109,117,108,97]
abbrev Qkv:List UInt8:=[112,114,111,98,108,101,109]
abbrev Ql2:List UInt8:=[119,104,101,114,101]
abbrev Qkq:List UInt8:=[97,108,108,111,119]
abbrev Qkr:List UInt8:=[99,97,108,109]
abbrev Qkt:List UInt8:=[105,110,112,117,116,115]
abbrev Qku:List UInt8:=[111,117,116,112,117,116,115]
abbrev Ql1:List UInt8:=[117,110,100,101,114]
abbrev Qkx:List UInt8:=[114,111,117,110,100,115]
abbrev Qkw:List UInt8:=[112,114,111,99,101,115,115,101,115]
def kid0(t:Syn):Syn:=t.kids.headD Zx
def kid1(t:Syn):Syn:=(t.kids.drop 1).headD Zx
def wpart(t:Syn):List UInt8:=32::((if t.kind=2 then Ql2 else if t.kind=3 then Qkq else Qkr)++32::wrc (kid0 t))
def wdecl(t:Syn):List UInt8:=
 (if t.kind=1 then Ql0++32::(t.text++32::(Qkt++32::(dec t.num.toNat++32::(Qku++32::(dec (kid0 t).num.toNat++(t.kids.drop 1).flatMap wpart)))))
 else if t.kind=5 then kAdv++32::(t.text++32::61::32::wrs (kid0 t))
 else if t.kind=6 then Qks++32::(t.text++32::61::32::wrf (kid0 t))
 else Qkv++32::(t.text++32::61::32::((kid0 t).text++32::(Ql1++32::((kid1 t).text++32::(Qkx++32::dec t.num.toNat))))))++[59,10]
def wprog(t:Syn):List UInt8:=Qkw++32::(dec t.num.toNat++59::10::t.kids.flatMap wdecl)
inductive Fm where
 | mk (op pr ot va gr:Int) (args:List Fm)
def Fm.op:Fm->Int|.mk a _ _ _ _ _=>a
def Fm.pr:Fm->Int|.mk _ a _ _ _ _=>a
def Fm.ot:Fm->Int|.mk _ _ a _ _ _=>a
def Fm.va:Fm->Int|.mk _ _ _ a _ _=>a
def Fm.gr:Fm->Int|.mk _ _ _ _ a _=>a
def Fm.args:Fm->List Fm|.mk _ _ _ _ _ l=>l
abbrev Qc:Fm:=.mk 0 0 0 0 0 []
theorem Fm.eta(f:Fm):f=.mk f.op f.pr f.ot f.va f.gr f.args:=by cases f;rfl
def useP(o:Int):Bool:=o==1||o==3||o==4||o==5||o==10
def useO(o:Int):Bool:=o==3
def useV(o:Int):Bool:=o==1||o==2||o==5||o==6
def useG(o:Int):Bool:=o==11||o==12||o==13
def Qs(o:Int):Nat:=if o=8∨o=9∨o=17 then 2 else if o<=6 then 0 else 1
def vMax(o:Int):Int:=if o=6 then 6 else 7
def fsz:Fm->Nat
 | .mk _ _ _ _ _ l=>1+fszL l
where
 fszL:List Fm->Nat
 | []=>0
 | x::l=>fsz x+fszL l
abbrev fszL:=fsz.fszL
theorem Qj{a b c d e:Int}{l:List Fm}:fsz (.mk a b c d e l)=1+fszL l:=by rw[fsz]
theorem Yy:fszL []=0:=by show fsz.fszL []=0;simp only[fsz.fszL]
theorem Qz{x:Fm}{l:List Fm}:fszL (x::l)=fsz x+fszL l:=by show fsz.fszL (x::l)=_;simp only[fsz.fszL]
def fdp:Fm->Nat
 | .mk _ _ _ _ _ l=>fdpL l+1
where
 fdpL:List Fm->Nat
 | []=>0
 | x::l=>max (fdp x) (fdpL l)
abbrev fdpL:=fdp.fdpL
theorem Q1f{a b c d e:Int}{l:List Fm}:fdp (.mk a b c d e l)=fdpL l+1:=by rw[fdp]
theorem Q2w:fdpL []=0:=by show fdp.fdpL []=0;simp only[fdp.fdpL]
theorem Yl{x:Fm}{l:List Fm}:fdpL (x::l)=max (fdp x) (fdpL l):=by show fdp.fdpL (x::l)=_;simp only[fdp.fdpL]
def feq:Fm->Fm->Bool
 | .mk a b c d e l,.mk a' b' c' d' e' l'=>a==a'&&b==b'&&c==c'&&d==d'&&e==e'&&feqL l l'
where
 feqL:List Fm->List Fm->Bool
 | [],[]=>true
 | x::l,y::m=>feq x y&&feqL l m
 | _,_=>false
abbrev feqL:=feq.feqL
theorem Q76{a b c d e a' b' c' d' e':Int}{l l':List Fm}:feq (.mk a b c d e l) (.mk a' b' c' d' e' l')=(a==a'&&b==b'&&c==c'&&d==d'&&e==e'&&feqL l l'):=by rw[feq]
theorem Q75:feqL [] []=true:=by show feq.feqL [] []=true;simp only[feq.feqL]
theorem Qb0{x y:Fm}{l m:List Fm}:feqL (x::l) (y::m)=(feq x y&&feqL l m):=by show feq.feqL _ _=_;simp only[feq.feqL]
theorem Qix{x:Fm}{l:List Fm}:feqL (x::l) []=false:=by show feq.feqL _ _=_;simp only[feq.feqL]
theorem Qiy{x:Fm}{l:List Fm}:feqL [] (x::l)=false:=by show feq.feqL _ _=_;simp only[feq.feqL]
mutual
theorem Yx:∀(x y:Fm),feq x y=true↔x=y
 | .mk a b c d e l,.mk a' b' c' d' e' l'=>by
  rw[Q76];simp only[Ai,beq_iff_eq,Q74 l l',Fm.mk.injEq];constructor
  ·rintro⟨⟨⟨⟨⟨h1,h2⟩,h3⟩,h4⟩,h5⟩,h6⟩;exact⟨h1,h2,h3,h4,h5,h6⟩
  ·rintro⟨h1,h2,h3,h4,h5,h6⟩;exact⟨⟨⟨⟨⟨h1,h2⟩,h3⟩,h4⟩,h5⟩,h6⟩
theorem Q74:∀(l m:List Fm),feqL l m=true↔l=m
 | [],[]=>by simp[Q75]
 | [],y::m=>by simp[Qiy]
 | x::l,[]=>by simp[Qix]
 | x::l,y::m=>by rw[Qb0,Ai,Yx x y,Q74 l m,List.cons.injEq]
end
def fnode(n:Int)(f:Fm):Nat:=
 if f.op<0∨17<f.op then 1
 else if f.args.length≠Qs f.op then 15
 else if(useP f.op/\(f.pr<0∨n-1<f.pr))∨(useO f.op/\(f.ot<0∨n-1<f.ot))∨(useV f.op/\(f.va<0∨vMax f.op<f.va))∨(useG f.op/\(f.gr<0∨2 ^ n.toNat-1<f.gr))then 2
 else if(useP f.op=false/\f.pr≠0)∨(useO f.op=false/\f.ot≠0)∨(useV f.op=false/\f.va≠0)∨(useG f.op=false/\f.gr≠0)then 3
 else 0
def fnodes(n:Int):Fm->Nat
 | .mk a b c d e l=>if fnode n (.mk a b c d e l)≠0 then fnode n (.mk a b c d e l)else fnodesL n l
where
 fnodesL (n:Int):List Fm->Nat
 | []=>0
 | x::l=>if fnodes n x≠0 then fnodes n x else fnodesL n l
abbrev fnodesL:=fnodes.fnodesL
theorem Q4k{n a b c d e:Int}{l:List Fm}:fnodes n (.mk a b c d e l)=if fnode n (.mk a b c d e l)≠0 then fnode n (.mk a b c d e l)else fnodesL n l:=by rw[fnodes]
theorem Q7d{n:Int}:fnodesL n []=0:=by show fnodes.fnodesL n []=0;simp only[fnodes.fnodesL]
theorem Q31{n:Int}{x:Fm}{l:List Fm}:fnodesL n (x::l)=if fnodes n x≠0 then fnodes n x else fnodesL n l:=by show fnodes.fnodesL n (x::l)=_;simp only[fnodes.fnodesL]
def fbig(n d:Nat):Nat:=if 128<n then 5 else if 24<d then 12 else 0
def fcheck(n:Int)(f:Fm):Nat:=if n<1∨5<n then 2 else if fbig (fsz f) (fdp f)≠0 then fbig (fsz f) (fdp f)else fnodes n f
def epi(o:Int):Bool:=decide (10<=o)&&decide (o<=13)
def timed(o:Int):Bool:=decide (14<=o)&&decide (o<=17)
def fnest:Fm->Nat
 | .mk a _ _ _ _ l=>fnestL l+(if epi a then 1 else 0)
where
 fnestL:List Fm->Nat
 | []=>0
 | x::l=>max (fnest x) (fnestL l)
abbrev fnestL:=fnest.fnestL
def ftemp:Fm->Bool
 | .mk a _ _ _ _ l=>timed a||ftempL l
where
 ftempL:List Fm->Bool
 | []=>false
 | x::l=>ftemp x||ftempL l
abbrev ftempL:=ftemp.ftempL
def Qy(o:Int):Int:=if o=8 then 9 else if o=9 then 8 else if o=15 then 16 else if o=16 then 15 else 0
def fnorm:Fm->Bool->Fm
 | .mk a b c d e l,neg=>
  if a=7 then match l with|x::_=>fnorm x (!neg)|[]=>Qc
  else if neg&&Qy a !=0 then .mk (Qy a) b c d e (fnormL l true)
  else if neg then .mk 7 0 0 0 0 [.mk a b c d e (fnormL l false)]
  else .mk a b c d e (fnormL l false)
where
 fnormL:List Fm->Bool->List Fm
 | [],_=>[]
 | x::l,neg=>fnorm x neg::fnormL l neg
abbrev fnormL:=fnorm.fnormL
abbrev Q6w:List UInt8:=[105,110,112,117,116]
abbrev Q6u:List UInt8:=[103,105,118,101,110]
abbrev Q6v:List UInt8:=[104,101,97,114,100]
abbrev Q6t:List UInt8:=[102,97,117,108,116,121]
abbrev Q6r:List UInt8:=[100,101,99,105,100,101,100]
abbrev fAt:List UInt8:=[97,116]
abbrev Q6x:List UInt8:=[110,101,120,116]
abbrev Q6q:List UInt8:=[97,108,119,97,121,115]
abbrev Q6s:List UInt8:=[101,118,101,110,116,117,97,108,108,121]
abbrev Yw:List (Int×List UInt8):=[(0,Jj),(1,Q6w),(2,Q6u),(3,Q6v),(4,Q6t),(5,Q6r),(6,fAt),(8,kAnd),(9,kOr),(10,[75]),(11,[69]),(12,[68]),(13,[67]),(14,Q6x),(15,Q6q),(16,Q6s),(17,Jq)]
def Yo(s:List UInt8):Int:=((Yw.find? fun x=>x.2==s).map (·.1)).getD 0
def Z1(o:Int):List UInt8:=((Yw.find? fun x=>x.1==o).map (·.2)).getD []
def fld(o:Int):List Nat:=if o=1∨o=5 then[0,2]else if o=2∨o=6 then[2]else if o=3 then[0,1]else if o=4∨o=10 then[0]else if o=11∨o=12∨o=13 then[3]else[]
def fmx(n o:Int)(j:Nat):Int:=if j=2 then vMax o else n-1
def grp(n:Int):List Syn->Nat->(Nat×Int)×Nat
 | [],m=>((0,0),m)
 | k::r,m=>if n<=k.num then((2,k.pos),m)else if m.testBit k.num.toNat then((7,k.pos),m)else grp n r (m ||| 2 ^ k.num.toNat)
def setV(n:Int)(t:Syn):(Nat×Int)×Nat:=if t.text=[]then grp n t.kids 0 else((0,0),2 ^ n.toNat-1)
def resA(n o:Int):List Nat->List Syn->Nat×Int
 | j::fs,k::ks=>
  let e:=if k.kind=14 then(setV n k).1 else if fmx n o j<k.num then(2,k.pos)else(0,0)
  if e.1≠0 then e else resA n o fs ks
 | _,_=>(0,0)
def putF(j:Nat)(v:Int):Fm->Fm
 | .mk o p q r s l=>if j=0 then .mk o v q r s l else if j=1 then .mk o p v r s l else if j=2 then .mk o p q v s l else .mk o p q r v l
def resB(n:Int):List Nat->List Syn->Fm->Fm
 | j::fs,k::ks,f=>resB n fs ks (putF j (if k.kind=14 then((setV n k).2:Nat)else k.num) f)
 | _,_,f=>f
def opOf(k:Int)(t:List UInt8):Int:=if k=12 then 7 else Yo t
def resE(n:Int):Syn->Nat×Int
 | .mk k t _ _ l=>if(resA n (opOf k t) (fld (opOf k t)) l).1≠0 then resA n (opOf k t) (fld (opOf k t)) l else resES n (fld (opOf k t)).length l
where
 resES (n:Int):Nat->List Syn->Nat×Int
 | _,[]=>(0,0)
 | 0,x::r=>if(resE n x).1≠0 then resE n x else resES n 0 r
 | s+1,_::r=>resES n s r
abbrev resES:=resE.resES
def resV(n:Int):Syn->Fm
 | .mk k t _ _ l=>match resB n (fld (opOf k t)) l (.mk (opOf k t) 0 0 0 0 [])with|.mk a b c d e _=>.mk a b c d e (resVS n (fld (opOf k t)).length l)
where
 resVS (n:Int):Nat->List Syn->List Fm
 | _,[]=>[]
 | 0,x::r=>resV n x::resVS n 0 r
 | s+1,_::r=>resVS n s r
abbrev resVS:=resV.resVS
theorem Q8p{n k m a:Int}{t:List UInt8}{l:List Syn}:resE n (.mk k t m a l)=if(resA n (opOf k t) (fld (opOf k t)) l).1≠0 then resA n (opOf k t) (fld (opOf k t)) l else resES n (fld (opOf k t)).length l:=by rw[resE]
theorem Q5c{n:Int}{s:Nat}:resES n s []=(0,0):=by show resE.resES n s []=_;cases s<;>simp only[resE.resES]
theorem Q5b{n:Int}{x:Syn}{r:List Syn}:resES n 0 (x::r)=if(resE n x).1≠0 then resE n x else resES n 0 r:=by show resE.resES n 0 (x::r)=_;simp only[resE.resES]
theorem Qpl{n:Int}{s:Nat}{x:Syn}{r:List Syn}:resES n (s+1) (x::r)=resES n s r:=by show resE.resES n (s+1) (x::r)=_;simp only[resE.resES]
theorem Q8o{n:Int}:∀{s:Nat} {l:List Syn},resES n s l=resES n 0 (l.drop s)
 | 0,_=>rfl
 | s+1,[]=>by rw[Q5c,List.drop_nil,Q5c]
 | s+1,x::r=>by rw[Qpl,BC];exact Q8o
theorem Q8r{n k m a:Int}{t:List UInt8}{l:List Syn}:resV n (.mk k t m a l)=match resB n (fld (opOf k t)) l (.mk (opOf k t) 0 0 0 0 [])with|.mk a b c d e _=>.mk a b c d e (resVS n (fld (opOf k t)).length l):=by rw[resV]
theorem Q8q{n:Int}{s:Nat}:resVS n s []=[]:=by show resV.resVS n s []=_;cases s<;>simp only[resV.resVS]
theorem Qe9{n:Int}{x:Syn}{r:List Syn}:resVS n 0 (x::r)=resV n x::resVS n 0 r:=by show resV.resVS n 0 (x::r)=_;simp only[resV.resVS]
theorem Qea{n:Int}{s:Nat}{x:Syn}{r:List Syn}:resVS n (s+1) (x::r)=resVS n s r:=by show resV.resVS n (s+1) (x::r)=_;simp only[resV.resVS]
theorem Q5d{n:Int}:∀{s:Nat} {l:List Syn},resVS n s l=(l.drop s).map (resV n)
 | 0,[]=>by rw[Q8q];rfl
 | 0,x::r=>by rw[Qe9,Q5d (s:=0) (l:=r)];rfl
 | s+1,[]=>by rw[Q8q];rfl
 | s+1,x::r=>by rw[Qea,BC];exact Q5d
def resC(n:Int)(t:Syn):Nat×Int:=if(resE n t).1≠0 then resE n t else if fbig (fsz (resV n t)) (fdp (resV n t))≠0 then(fbig (fsz (resV n t)) (fdp (resV n t)),t.pos)else(0,0)
def numT(v:Int):Syn:=.mk 9 [] v 0 []
def setT(n g:Int):Syn:=if g=2 ^ n.toNat-1 then .mk 14 Jp 0 0 []else .mk 14 [] 0 0 (((List.range n.toNat).filter fun p=>g.toNat.testBit p).map fun(p:Nat)=>numT (p:Int))
def fldT(n:Int)(f:Fm)(j:Nat):Syn:=if j=0 then numT f.pr else if j=1 then numT f.ot else if j=2 then numT f.va else setT n f.gr
def Yz(o:Int):Int:=if o=7 then 12 else if o=8∨o=9∨o=17 then 11 else 10
def Qf(n:Int):Fm->Syn
 | .mk o p q r s l=>.mk (Yz o) (if o=7 then[]else Z1 o) 0 0 ((fld o).map (fldT n (.mk o p q r s l))++treeFL n l)
where
 treeFL (n:Int):List Fm->List Syn
 | []=>[]
 | x::l=>Qf n x::treeFL n l
abbrev treeFL:=Qf.treeFL
theorem Q9l{n o p q r s:Int}{l:List Fm}:Qf n (.mk o p q r s l)=.mk (Yz o) (if o=7 then[]else Z1 o) 0 0 ((fld o).map (fldT n (.mk o p q r s l))++treeFL n l):=by rw[Qf]
theorem Qga{n:Int}:treeFL n []=[]:=by show Qf.treeFL n []=_;simp only[Qf.treeFL]
theorem Qg9{n:Int}{x:Fm}{l:List Fm}:treeFL n (x::l)=Qf n x::treeFL n l:=by show Qf.treeFL n (x::l)=_;simp only[Qf.treeFL]
end Go.Proofs.YtakdifceogdioaaGreatDoor
namespace Go.Proofs.YtakdifceogdioaaGreatDoor
open Go.Proofs.Tryz
open Go.RowKit
inductive KidR (w:World):List Syn->Value->Prop
 | nil {p:Option Addr} {c:Nat}:KidR w [] (.slice p 0 c)
 | row {l:List Syn} {b o c:Nat} {u:Nat->Value} (hc:∀i (hi:i<l.length),w.cell? ⟨b,o+i*5,none⟩=some (.int .i64 l[i].kind)/\w.cell? ⟨b,o+i*5+1,none⟩=some (.string ⟨l[i].text.toArray⟩) /\
   w.cell? ⟨b,o+i*5+2,none⟩=some (.int .i64 l[i].num)/\w.cell? ⟨b,o+i*5+3,none⟩=some (.int .i64 l[i].pos)/\w.cell? ⟨b,o+i*5+4,none⟩=some (u i))
   (hk:∀i (hi:i<l.length),KidR w l[i].kids (u i)) (bD:l.length<=c):KidR w l (.slice (some ⟨b,o,none⟩) l.length c)
theorem Q1{w w':World}{b o:Nat}{v:Value}(h:w.cell? ⟨b,o,none⟩=some v)(hb:Below w.heap.size w w'):w'.cell? ⟨b,o,none⟩=some v:=by rw[hb.cell (World.block_lt_of_cell? w ⟨b,o,none⟩ h)];exact h
theorem KidR.low{w w':World}(hb:Below w.heap.size w w'):∀{l:List Syn} {v:Value},KidR w l v->KidR w' l v:=by
 intro l v h;induction h with
 | nil=>exact .nil
 | row hc _ bD ih=>exact .row (fun i hi=>⟨Q1 (hc i hi).1 hb,Q1 (hc i hi).2.1 hb,Q1 (hc i hi).2.2.1 hb,Q1 (hc i hi).2.2.2.1 hb,Q1 (hc i hi).2.2.2.2 hb⟩) ih bD
theorem KidR.form{w:World}{l:List Syn}{v:Value}(h:KidR w l v):∃(p:Option Addr) (c:Nat),v=.slice p l.length c:=by
 cases h with
 | nil=>exact⟨_,_,rfl⟩
 | row=>exact⟨_,_,rfl⟩
theorem KidR.cap{w:World}{l:List Syn}{p:Option Addr}{n c:Nat}(h:KidR w l (.slice p n c)):l.length<=c:=by
 cases h with
 | nil=>exact AA _
 | row _ _ bD=>exact bD
abbrev KidC(w:World)(b o:Nat)(t:Syn)(q:Option Addr)(d:Nat):Prop:=
 w.cell? ⟨b,o,none⟩=some (.int .i64 t.kind)/\w.cell? ⟨b,o+1,none⟩=some (.string ⟨t.text.toArray⟩)/\w.cell? ⟨b,o+2,none⟩=some (.int .i64 t.num) /\
   w.cell? ⟨b,o+3,none⟩=some (.int .i64 t.pos)/\w.cell? ⟨b,o+4,none⟩=some (.slice q t.kids.length d)
theorem KidR.get{w:World}{l:List Syn}{p:Option Addr}{n c:Nat}(h:KidR w l (.slice p n c))(i:Nat)(hi:i<l.length):
  ∃b o q d,p=some (⟨b,o,none⟩:Addr)/\KidC w b (o+i*5) l[i] q d/\KidR w l[i].kids (.slice q l[i].kids.length d):=by
 cases h with
 | nil=>exact absurd hi (AX _)
 | row hc hk bD=>rename_i u _;have h1:=hk i hi;have h2:=hc i hi;obtain⟨q,d,e⟩:=h1.form;rw[e]at h1 h2;exact⟨_,_,q,d,rfl,h2,h1⟩
theorem beqI(a b:Int):(a==b)=decide (a=b):=by by_cases h:a=b<;>simp[h]
theorem five{w:World}{B:Nat}{k n a:Int}{tx:List UInt8}{v:Value}(h:w.heap[B]?=some (.cells #[.int .i64 k,.string ⟨A6 tx⟩,.int .i64 n,.int .i64 a,v] 80 (0,0))):
  w.cell? ⟨B,0,none⟩=some (.int .i64 k)/\w.cell? ⟨B,1,none⟩=some (.string ⟨A6 tx⟩)/\w.cell? ⟨B,2,none⟩=some (.int .i64 n)/\w.cell? ⟨B,3,none⟩=some (.int .i64 a)/\w.cell? ⟨B,4,none⟩=some v:=by
 refine⟨?_,?_,?_,?_,?_⟩<;>(rw[Ag,h];rfl)
abbrev boxed(w:World)(k:Int)(tx:List UInt8)(n a:Int)(p:Option Addr)(m c:Nat):World:=w.alloc (.cells #[.int .i64 k,.string ⟨A6 tx⟩,.int .i64 n,.int .i64 a,.slice p m c] 80)
theorem Ql(w:World)(k:Int)(tx:List UInt8)(n a:Int)(p:Option Addr)(m c:Nat):Below w.heap.size w (boxed w k tx n a p m c):=(Below.refl _ _).alloc (A4 _) _
theorem Qm(w:World)(k:Int)(tx:List UInt8)(n a:Int)(p:Option Addr)(m c:Nat):(boxed w k tx n a p m c).heap[w.heap.size]?=some (.cells #[.int .i64 k,.string ⟨A6 tx⟩,.int .i64 n,.int .i64 a,.slice p m c] 80 (0,0)):=heap_alloc_new _ _
inductive Mod:Syn->Prop
 | mk {kd:Int} {tx:List UInt8} {n a:Int} {k:List Syn} (ht:tx.length<=1000000) (h:k.length<=100000) (hk:∀z∈k,Mod z):Mod (.mk kd tx n a k)
theorem Mod.text{t:Syn}(h:Mod t):t.text.length<=1000000:=by cases h;assumption
theorem Mod.len{t:Syn}(h:Mod t):t.kids.length<=100000:=by cases h;assumption
theorem Mod.kid{t:Syn}(h:Mod t):∀z∈t.kids,Mod z:=by cases h;assumption
inductive FmR (w:World):List Fm->Value->Prop
 | nil {p:Option Addr} {c:Nat}:FmR w [] (.slice p 0 c)
 | row {l:List Fm} {b o c:Nat} {u:Nat->Value} (hc:∀i (hi:i<l.length),w.cell? ⟨b,o+i*6,none⟩=some (.int .i64 l[i].op)/\w.cell? ⟨b,o+i*6+1,none⟩=some (.int .i64 l[i].pr) /\
   w.cell? ⟨b,o+i*6+2,none⟩=some (.int .i64 l[i].ot)/\w.cell? ⟨b,o+i*6+3,none⟩=some (.int .i64 l[i].va)/\w.cell? ⟨b,o+i*6+4,none⟩=some (.int .i64 l[i].gr)/\w.cell? ⟨b,o+i*6+5,none⟩=some (u i))
   (hk:∀i (hi:i<l.length),FmR w l[i].args (u i)) (bD:l.length<=c):FmR w l (.slice (some ⟨b,o,none⟩) l.length c)
theorem FmR.low{w w':World}(hb:Below w.heap.size w w'):∀{l:List Fm} {v:Value},FmR w l v->FmR w' l v:=by
 intro l v h;induction h with
 | nil=>exact .nil
 | row hc _ bD ih=>exact .row (fun i hi=>⟨Q1 (hc i hi).1 hb,Q1 (hc i hi).2.1 hb,Q1 (hc i hi).2.2.1 hb,Q1 (hc i hi).2.2.2.1 hb,Q1 (hc i hi).2.2.2.2.1 hb,Q1 (hc i hi).2.2.2.2.2 hb⟩) ih bD
theorem FmR.form{w:World}{l:List Fm}{v:Value}(h:FmR w l v):∃(p:Option Addr) (c:Nat),v=.slice p l.length c:=by
 cases h with
 | nil=>exact⟨_,_,rfl⟩
 | row=>exact⟨_,_,rfl⟩
theorem FmR.cap{w:World}{l:List Fm}{p:Option Addr}{n c:Nat}(h:FmR w l (.slice p n c)):l.length<=c:=by
 cases h with
 | nil=>exact AA _
 | row _ _ bD=>exact bD
abbrev Six(w:World)(b o:Nat)(v0 v1 v2 v3 v4 v5:Value):Prop:=w.cell? ⟨b,o,none⟩=some v0/\w.cell? ⟨b,o+1,none⟩=some v1/\w.cell? ⟨b,o+2,none⟩=some v2/\w.cell? ⟨b,o+3,none⟩=some v3/\w.cell? ⟨b,o+4,none⟩=some v4/\w.cell? ⟨b,o+5,none⟩=some v5
theorem Q2e{w w':World}{b o:Nat}{v0 v1 v2 v3 v4 v5:Value}(h:Six w b o v0 v1 v2 v3 v4 v5)(hb:Below w.heap.size w w'):Six w' b o v0 v1 v2 v3 v4 v5:=⟨Q1 h.1 hb,Q1 h.2.1 hb,Q1 h.2.2.1 hb,Q1 h.2.2.2.1 hb,Q1 h.2.2.2.2.1 hb,Q1 h.2.2.2.2.2 hb⟩
abbrev FmC(w:World)(b o:Nat)(f:Fm)(q:Option Addr)(d:Nat):Prop:=Six w b o (.int .i64 f.op) (.int .i64 f.pr) (.int .i64 f.ot) (.int .i64 f.va) (.int .i64 f.gr) (.slice q f.args.length d)
theorem FmR.get{w:World}{l:List Fm}{p:Option Addr}{n c:Nat}(h:FmR w l (.slice p n c))(i:Nat)(hi:i<l.length):
  ∃b o q d,p=some (⟨b,o,none⟩:Addr)/\FmC w b (o+i*6) l[i] q d/\FmR w l[i].args (.slice q l[i].args.length d):=by
 cases h with
 | nil=>exact absurd hi (AX _)
 | row hc hk bD=>rename_i u _;have h1:=hk i hi;have h2:=hc i hi;obtain⟨q,d,e⟩:=h1.form;rw[e]at h1 h2;exact⟨_,_,q,d,rfl,h2,h1⟩
abbrev fmV(f:Fm)(q:Option Addr)(d:Nat):Value:=.agg #[.int .i64 f.op,.int .i64 f.pr,.int .i64 f.ot,.int .i64 f.va,.int .i64 f.gr,.slice q f.args.length d]
abbrev Six0(w:World)(B:Nat)(v0 v1 v2 v3 v4 v5:Value):Prop:=w.cell? ⟨B,0,none⟩=some v0/\w.cell? ⟨B,1,none⟩=some v1/\w.cell? ⟨B,2,none⟩=some v2/\w.cell? ⟨B,3,none⟩=some v3/\w.cell? ⟨B,4,none⟩=some v4/\w.cell? ⟨B,5,none⟩=some v5
theorem Q0m{w w':World}{B:Nat}{v0 v1 v2 v3 v4 v5:Value}(h:Six0 w B v0 v1 v2 v3 v4 v5)(hb:Below w.heap.size w w'):Six0 w' B v0 v1 v2 v3 v4 v5:=⟨Q1 h.1 hb,Q1 h.2.1 hb,Q1 h.2.2.1 hb,Q1 h.2.2.2.1 hb,Q1 h.2.2.2.2.1 hb,Q1 h.2.2.2.2.2 hb⟩
theorem boxF(w:World)(v0 v1 v2 v3 v4 v5:Value){w1:World}(h:w1=A0 w (.cells #[v0,v1,v2,v3,v4,v5] 24)):
  Hid (Below w.heap.size w w1)/\Hid (∀W,Below w1.heap.size w1 W->Six0 W w.heap.size v0 v1 v2 v3 v4 v5)/\Hid (Below w1.heap.size w1 w1)/\Six0 w1 w.heap.size v0 v1 v2 v3 v4 v5:=by
 subst h;have h:=heap_alloc_new w (.cells #[v0,v1,v2,v3,v4,v5] 24);have h6:Six0 (A0 w (.cells #[v0,v1,v2,v3,v4,v5] 24)) w.heap.size v0 v1 v2 v3 v4 v5:=by refine⟨?_,?_,?_,?_,?_,?_⟩<;>(rw[Ag,h];rfl)
 exact⟨(Below.refl _ _).alloc (A4 _) _,fun W hb=>Q0m h6 hb,Below.refl _ _,h6⟩
def Q22(w:World)(g:Nat)(ts:List Tok):Prop:=g<w.heap.size/\∀k (h:k<ts.length),w.cell? ⟨g,k*3,none⟩=some (.int .i64 ts[k].kind)/\w.cell? ⟨g,k*3+1,none⟩=some (.string ⟨ts[k].text.toArray⟩)/\w.cell? ⟨g,k*3+2,none⟩=some (.int .i64 ts[k].pos)
structure Only (p:Nat) (w w':World):Prop where
 os:w'.os=w.os
 tape:w'.tape=w.tape
 output:w'.output=w.output
 size:w.heap.size<=w'.heap.size
 block:∀k,k<w.heap.size->k≠p->w'.heap[k]?=w.heap[k]?
theorem Only.refl(p:Nat)(w:World):Only p w w:=⟨rfl,rfl,rfl,A4 _,fun _ _ _=>rfl⟩
theorem Only.trans{p:Nat}{a b c:World}(h:Only p a b)(k:Only p b c):Only p a c:=⟨k.os.trans h.os,k.tape.trans h.tape,k.output.trans h.output,Ao h.size k.size,fun i hi hp=>(k.block i (AJ hi h.size) hp).trans (h.block i hi hp)⟩
theorem Only.of_below{p:Nat}{a b:World}(h:Below a.heap.size a b):Only p a b:=⟨h.os,h.tape,h.output,h.size,fun k hk _=>h.block k hk⟩
theorem Only.set(p o:Nat)(w:World)(v:Value):Only p w (w.setCell ⟨p,o,none⟩ v):=⟨rfl,rfl,rfl,by simp[A9],fun k _ hk=>Below.heap_setCell _ _ _ _ hk⟩
theorem Only.alloc(p:Nat)(w:World)(o:Obj):Only p w (w.alloc o):=Only.of_below ((Below.refl _ _).alloc (A4 _) o)
theorem Only.drew(p n:Nat)(w:World):Only p w (w.drewN n):=Only.of_below ((Below.refl _ _).trans ⟨rfl,rfl,rfl,A4 _,fun _ _=>rfl⟩)
theorem Only.own{p B o:Nat}{w w':World}(h:Only p w w')(hB:w.heap.size<=B)(v:Value):Only p w (w'.setCell ⟨B,o,none⟩ v):=⟨h.os,h.tape,h.output,by simpa[A9]using h.size,fun k hk hp=>by rw[Below.heap_setCell _ _ _ _ (by show k≠B;omega)];exact h.block k hk hp⟩
theorem Only.below{p:Nat}{w w':World}{B:Nat}(h:Only p w w')(hp:B<=p)(hB:B<=w.heap.size):Below B w w':=⟨h.os,h.tape,h.output,h.size,fun k hk=>h.block k (by omega) (by omega)⟩
theorem Q22.only{p:Nat}{w w':World}{g:Nat}{ts:List Tok}(h:Q22 w g ts)(hb:Only p w w')(hg:g≠p):Q22 w' g ts:=
 ⟨AJ h.1 hb.size,fun k hk=>by
  have hc:∀o,w'.cell? ⟨g,o,none⟩=w.cell? ⟨g,o,none⟩:=fun o=>by simp only[Ag,hb.block g h.1 hg]
  rw[hc,hc,hc];exact h.2 k hk⟩
theorem Zc.block{w w':World}(h:Zc w)(hb:w'.heap[3]?=w.heap[3]?):Zc w':=by unfold Zc BW BZ at *;rw[show prog.globalNamed "strings.asciiSpace" = some 3 from by kernel_rfl]at *;simp only[AO]at *;rw[hb];exact h
theorem Zc.lt{w:World}(h:Zc w):3<w.heap.size:=by
 unfold Zc BW BZ at h;rw[show prog.globalNamed "strings.asciiSpace" = some 3 from by kernel_rfl]at h;simp only[AO]at h;rcases B9 3 w.heap.size with h'|h'
 ·exact h'
 ·simp[Bq h']at h
def Q9v(T:List Tok):Prop:=∀t∈T,t.kind=1->t.text≠[]/\(∀c∈t.text,Q6 c.toNat=true)/\dv 0 t.text<=1048576/\t.text.length<=1000000
structure PS (pb tb c:Nat) (T:List Tok) (i lv:Nat) (w:World):Prop where
 blk:w.heap[pb]?=some (.cells #[.slice (some ⟨tb,0,none⟩) T.length c,.int .i64 i,.int .i64 lv] 156 (0,0))
 toks:Q22 w tb T
 ne:tb≠pb
 lt:i<T.length
 size:T.length<=100000
 level:lv<=1000
 nums:Q9v T
 space:Zc w
 gne:3<pb
 last:(tk T (T.length-1)).kind=3
theorem PS.pos{pb tb c i lv:Nat}{T:List Tok}{w:World}(h:PS pb tb c T i lv w):pb<w.heap.size:=(A3.1 h.blk).1
theorem PS.below{pb tb c i lv:Nat}{T:List Tok}{w w':World}(h:PS pb tb c T i lv w)(hb:Below w.heap.size w w'):PS pb tb c T i lv w':=⟨by rw[hb.block _ h.pos];exact h.blk,h.toks.only (Only.of_below (p:=pb) hb) h.ne,h.ne,h.lt,h.size,h.level,h.nums,h.space.below hb,h.gne,h.last⟩
theorem PS.alloc{pb tb c i lv:Nat}{T:List Tok}{w:World}(h:PS pb tb c T i lv w)(o:Obj):PS pb tb c T i lv (w.alloc o):=h.below ((Below.refl _ _).alloc (A4 _) o)
theorem PS.cells{pb tb c i lv:Nat}{T:List Tok}{w:World}(h:PS pb tb c T i lv w):
  w.cell? ⟨pb,0,none⟩=some (.slice (some ⟨tb,0,none⟩) T.length c)/\w.cell? ⟨pb,1,none⟩=some (.int .i64 i)/\w.cell? ⟨pb,2,none⟩=some (.int .i64 lv):=by
 refine⟨?_,?_,?_⟩<;>(rw[Ag,h.blk];rfl)
theorem PS.frozen{pb tb c i lv:Nat}{T:List Tok}{w:World}(h:PS pb tb c T i lv w)(o:Nat):w.frozen? ⟨pb,o,none⟩=false:=Aq h.blk o
theorem PS.tok{pb tb c i lv:Nat}{T:List Tok}{w:World}(h:PS pb tb c T i lv w):
  w.cell? ⟨tb,i*3,none⟩=some (.int .i64 (tk T i).kind)/\w.cell? ⟨tb,i*3+1,none⟩=some (.string ⟨(tk T i).text.toArray⟩)/\w.cell? ⟨tb,i*3+2,none⟩=some (.int .i64 (tk T i).pos):=by
 have:=h.toks.2 i h.lt;have e:tk T i=T[i]'h.lt:=by unfold tk;rw[Av,Ah h.lt];rfl
 rw[e];exact this
theorem PS.own{pb tb c i lv:Nat}{T:List Tok}{w:World}{B o:Nat}{v:Value}(h:PS pb tb c T i lv w)(kP:pb<B)(eh:tb<B):PS pb tb c T i lv (w.setCell ⟨B,o,none⟩ v):=by
 have e:∀k,k≠B->(w.setCell ⟨B,o,none⟩ v).heap[k]?=w.heap[k]?:=fun k hk=>Below.heap_setCell _ _ _ _ hk
 have h1:B≠pb:=by omega
 have h2:B≠tb:=by omega
 refine⟨by rw[e _ (Ne.symm h1)];exact h.blk,⟨by simpa[A9]using h.toks.1,fun k hk=>?_⟩,h.ne,h.lt,h.size,h.level,h.nums,h.space.block (e _ (by have:=h.gne;omega)),h.gne,h.last⟩;have hc:∀q,(w.setCell ⟨B,o,none⟩ v).cell? ⟨tb,q,none⟩=w.cell? ⟨tb,q,none⟩:=fun q=>by simp only[Ag,e tb (Ne.symm h2)]
 rw[hc,hc,hc];exact h.toks.2 k hk
theorem PS.setP{pb tb c i lv o:Nat}{T:List Tok}{w:World}{v:Value}{i' lv':Nat}(h:PS pb tb c T i lv w)
  (hv:(#[Value.slice (some ⟨tb,0,none⟩) T.length c,.int .i64 i,.int .i64 lv].setIfInBounds o v)=#[.slice (some ⟨tb,0,none⟩) T.length c,.int .i64 i',.int .i64 lv']) (hi:i'<T.length) (hl:lv'<=1000):PS pb tb c T i' lv' (w.setCell ⟨pb,o,none⟩ v):=by
 have e:∀k,k≠pb->(w.setCell ⟨pb,o,none⟩ v).heap[k]?=w.heap[k]?:=fun k hk=>Below.heap_setCell _ _ _ _ hk
 refine⟨?_,⟨by simpa[A9]using h.toks.1,fun k hk=>?_⟩,h.ne,hi,h.size,hl,h.nums,h.space.block (e _ (by have:=h.gne;omega)),h.gne,h.last⟩
 ·rw[<-hv]
  simp[A9,Am,h.blk]
 ·have hc:∀q,(w.setCell ⟨pb,o,none⟩ v).cell? ⟨tb,q,none⟩=w.cell? ⟨tb,q,none⟩:=fun q=>by simp only[Ag,e tb h.ne]
  rw[hc,hc,hc];exact h.toks.2 k hk
theorem PS.drew{pb tb c i lv:Nat}{T:List Tok}{w:World}(h:PS pb tb c T i lv w)(n:Nat):PS pb tb c T i lv (w.drewN n):=h.below ((Below.refl _ _).trans ⟨rfl,rfl,rfl,A4 _,fun _ _=>rfl⟩)
def Ys(pos:Int)(e:Nat):List PanicEntry:=[{ v:=.iface 154 (.agg #[.int .i64 pos,.int .i64 e]),recovered:=false }]
theorem Q3h(pb tb c i lv:Nat)(T:List Tok)(w:World)(e:Nat)(h:PS pb tb c T i lv w):
  Calls prog 122 #[.pointer (some ⟨pb,0,none⟩),.int .i64 e] w fun r w'=>r=.panicked (Ys (tk T i).pos e)/\Only pb w w':=by
 obtain⟨c0,c1,c2⟩:=h.cells;obtain⟨t0,t1,t2⟩:=h.tok;have af:=h.lt;have az:=h.size;have dS:(0:Int)<=(i:Int):=by omega
 have fY:(i:Int)<(T.length:Int):=by omega
 clear t0 t1;generalize (tk T i).pos=ps at *;replace h:=qh h;go_enter func122,ntmps122;go_wp2_with fail;go_region_dies
 all_goals exact⟨rfl,rfl,Only.of_below ((Below.refl _ _).drew)⟩
def Q1y(t:Tok):Value:=.agg #[.int .i64 t.kind,.string ⟨t.text.toArray⟩,.int .i64 t.pos]
theorem Q8h(pb tb c i lv:Nat)(T:List Tok)(w:World)(h:PS pb tb c T i lv w):
  Calls prog 125 #[.pointer (some ⟨pb,0,none⟩)] w fun r w'=>r=.returned (Q1y (tk T i))/\(PS pb tb c T (nx T i) lv w'/\Only pb w w'):=by
 obtain⟨c0,c1,c2⟩:=h.cells;obtain⟨t0,t1,t2⟩:=h.tok;have af:=h.lt;have az:=h.size;have cl:=h.pos;have jA:=h.toks.1;have f1:=h.frozen 1;have dS:(0:Int)<=(i:Int):=by omega
 have fY:(i:Int)<(T.length:Int):=by omega
 generalize bv:tk T i=t at *;obtain⟨kd,tx,ps⟩:=t;simp only at t0 t1 t2;replace h:=qh h;by_cases hn:i+1<T.length
 ·have hb:decide ((i:Int)<(T.length:Int)-1)=true:=by rw[decide_eq_true_eq];omega
  go_enter func125,ntmps125;go_wp2_with fail;go_region
  go_wp2_with fail;go_quiet (fail)
  go_wp2_with fail;refine bodyPost_ret (v:=.agg #[.int .i64 kd,.string ⟨tx.toArray⟩,.int .i64 ps]) (by simp[results,results125,go_sem]) rfl ⟨rfl,?_,?_⟩
  ·rw[show nx T i=i+1 from if_pos hn]
   refine PS.own (PS.own (PS.own (PS.setP (((h.out.alloc _).alloc _).drew _) (i':=i+1) (lv':=lv) (by simp) hn h.out.level) ?_ ?_) ?_ ?_) ?_ ?_<;>omega
  ·refine Only.own (Only.own (Only.own (Only.trans ((Only.alloc _ _ _).trans ((Only.alloc _ _ _).trans (Only.drew _ _ _))) (Only.set _ _ _ _)) (A4 _) _) (A4 _) _) (A4 _) _
 ·have hb:decide ((i:Int)<(T.length:Int)-1)=false:=by rw[decide_eq_false_iff_not];omega
  go_enter func125,ntmps125;go_wp2_with fail;go_region
  go_wp2_with fail;go_quiet (fail)
  go_wp2_with fail;refine bodyPost_ret (v:=.agg #[.int .i64 kd,.string ⟨tx.toArray⟩,.int .i64 ps]) (by simp[results,results125,go_sem]) rfl ⟨rfl,?_,?_⟩
  ·rw[show nx T i=i from if_neg hn]
   refine PS.own (PS.own (PS.own (((h.out.alloc _).alloc _).drew _) ?_ ?_) ?_ ?_) ?_ ?_<;>omega
  ·refine Only.own (Only.own (Only.own ((Only.alloc _ _ _).trans ((Only.alloc _ _ _).trans (Only.drew _ _ _))) (A4 _) _) (A4 _) _) (A4 _) _
def WAt(w:World)(b:Nat)(ws:List (List UInt8)):Prop:=b<w.heap.size/\∀j (h:j<ws.length),w.cell? ⟨b,j,none⟩=some (.string ⟨ws[j].toArray⟩)
theorem WAt.below{w w':World}{b:Nat}{ws:List (List UInt8)}(h:WAt w b ws)(hb:Below w.heap.size w w'):WAt w' b ws:=⟨by have:=hb.size;have:=h.1;omega,fun j hj=>by rw[hb.cell h.1];exact h.2 j hj⟩
theorem Qi6(ws:List (List UInt8))(x:List UInt8):Lib.containsS ((ws.map fun l=>(⟨l.toArray⟩:ByteArray)).take ws.length) ⟨x.toArray⟩=ws.contains x:=by
 rw[As (by simp),Bool.eq_iff_iff,Lib.containsS_iff,List.contains_iff_mem,List.mem_map];constructor
 ·rintro⟨l,hl,e⟩
  have:l=x:=by simpa using e
  rw[<-this];exact hl
 ·intro h;exact⟨x,h,rfl⟩
theorem Q8f(pb tb c i lv:Nat)(T:List Tok)(w:World)(wb:Nat)(ws:List (List UInt8))(h:PS pb tb c T i lv w)(hw:WAt w wb ws)(hl:ws.length<=100):
  Calls prog 124 #[.pointer (some ⟨pb,0,none⟩),.slice (some ⟨wb,0,none⟩) ws.length ws.length] w fun r w'=>r=.returned (.bool (isW T ws i))/\(PS pb tb c T i lv w'/\Only pb w w'):=by
 obtain⟨c0,c1,c2⟩:=h.cells;obtain⟨t0,t1,t2⟩:=h.tok;have af:=h.lt;have az:=h.size;have cl:=h.pos;have jA:=h.toks.1;have dS:(0:Int)<=(i:Int):=by omega
 have fY:(i:Int)<(T.length:Int):=by omega
 have hr:isW T ws i=((decide ((tk T i).kind=2)||decide ((tk T i).kind=0))&&ws.contains (tk T i).text):=rfl;generalize tk T i=t at *;obtain⟨kd,tx,ps⟩:=t;simp only at t0 t1 t2 hr;have hC:∀W,WAt W wb ws->Calls prog 174 #[.slice (some ⟨wb,0,none⟩) ws.length ws.length,.string ⟨tx.toArray⟩] W fun e w'=>e=.returned (.bool (ws.contains tx))/\w'=W:=by
  intro W hW;have:=Tryz.slices_Contains_string wb 0 ws.length ws.length (ws.map fun l=>(⟨l.toArray⟩:ByteArray)) ⟨tx.toArray⟩ W (by simp) (by omega) (fun j hj=>by
   have n9:j<ws.length:=by simpa using hj
   rw[Nat.zero_add,hW.2 j n9];simp[List.getD,n9])
  rw[Qi6]at this;exact this
 replace h:=qh h;replace hw:=qh hw;generalize ws.contains tx=cb at *;replace hC:=qh hC;have a7:PS pb tb c T i lv ((w.alloc (.cells #[.int .i64 kd,.string ⟨tx.toArray⟩,.int .i64 ps] 158)).drew):=(h.out.alloc _).drew 1;have f7:Only pb w ((w.alloc (.cells #[.int .i64 kd,.string ⟨tx.toArray⟩,.int .i64 ps] 158)).drew):=(Only.alloc _ _ _).trans (Only.drew _ 1 _);have pM:WAt ((w.alloc (.cells #[.int .i64 kd,.string ⟨tx.toArray⟩,.int .i64 ps] 158)).drew) wb ws:=hw.out.below (((Below.refl _ _).alloc (A4 _) _).trans ((Below.refl _ _).drew));replace a7:=qh a7;replace f7:=qh f7;replace pM:=qh pM;by_cases h2:kd=2
 ·have b2:(kd==2)=true:=by rw[beq_iff_eq];exact h2
  rw[decide_eq_true h2,Bool.true_or,Bx]at hr;replace hr:=qh hr;replace h2:=qh h2;go_enter func124,ntmps124;go_wp2_with fail;go_region
  go_wp2_with fail;(with_reducible refine(hC.out _ pM.out).mono ?_);rintro e w1 ⟨rfl,rfl⟩
  go_wp2_with fail;go_ret;exact⟨Q5 hr.out.symm,a7.out,f7.out⟩
 ·have b2:(kd==2)=false:=by rw[beq_eq_false_iff_ne];exact h2
  rw[decide_eq_false h2,Bool.false_or]at hr;replace h2:=qh h2;by_cases h0:kd=0
  ·have b0:(kd==0)=true:=by rw[beq_iff_eq];exact h0
   rw[decide_eq_true h0,Bx]at hr;replace hr:=qh hr;replace h0:=qh h0;go_enter func124,ntmps124;go_wp2_with fail;go_region
   go_wp2_with fail;(with_reducible refine(hC.out _ pM.out).mono ?_);rintro e w1 ⟨rfl,rfl⟩
   go_wp2_with fail;go_ret;exact⟨Q5 hr.out.symm,a7.out,f7.out⟩
  ·have b0:(kd==0)=false:=by rw[beq_eq_false_iff_ne];exact h0
   rw[decide_eq_false h0,Bool.false_and]at hr;replace hr:=qh hr;replace h0:=qh h0;go_enter func124,ntmps124;go_wp2_with fail;go_region
   go_wp2_with fail;go_ret;exact⟨Q5 hr.out.symm,a7.out,f7.out⟩
end Go.Proofs.YtakdifceogdioaaGreatDoor
namespace Go.Proofs.YtakdifceogdioaaGreatDoor
open Go.Proofs.Tryz
theorem Qni(l:List UInt8)(hd:∀c∈l,Q6 c.toNat=true):∀acc,dv acc l<=1048576->Lib.parseUint10 acc l=.ok (dv acc l):=by
 induction l with
 | nil=>intro acc _;rfl
 | cons c r ih=>intro acc h;have hc:=hd c (by simp);simp only[Q6,Ai,decide_eq_true_eq]at hc;rw[Q0r]at h;have h1:=Q4c r (10*acc+(c.toNat-48));have h2:0<10 ^ r.length:=Nat.pow_pos (by omega);have h3:10*acc+(c.toNat-48)<=(10*acc+(c.toNat-48))*10 ^ r.length:=Nat.le_mul_of_pos_right _ h2;rw[Lib.parseUint10,if_pos (by omega),if_neg (by omega),if_neg (by omega),Ca acc 10,ih (fun c h=>hd c (by simp[h])) _ h,Q0r]
theorem Qhl{l:List UInt8}(h0:l≠[])(hd:∀c∈l,Q6 c.toNat=true)(h:dv 0 l<=1048576):Lib.atoiAll l=.ok ((dv 0 l:Nat):Int):=by
 match l,h0 with
 | c::r,_=>
  have hc:=hd c (by simp);simp only[Q6,Ai,decide_eq_true_eq]at hc;have hp:Lib.parseMag (c::r)=.ok (dv 0 (c::r)):=by unfold Lib.parseMag;rw[if_neg (by simp)];exact Qni _ hd 0 h
  have gZ:¬ (c.toNat=43∨c.toNat=45):=by omega
  have ut:¬ c.toNat=45:=by omega
  simp only[Lib.atoiAll,if_neg gZ,hp];rw[if_neg (by omega),if_neg (by omega),if_neg ut]
end Go.Proofs.YtakdifceogdioaaGreatDoor
namespace Go.Proofs.YtakdifceogdioaaGreatDoor
open Go.Proofs.Tryz
open Go.RowKit
mutual
inductive SynAt (S:Nat->Prop) (w:World):Syn->List Value->Prop
 | mk {k:Int} {tx:List UInt8} {n a:Int} {kids:List Syn} {v:Value} (h:KidsAt S w kids v):SynAt S w (.mk k tx n a kids) [.int .i64 k,.string ⟨tx.toArray⟩,.int .i64 n,.int .i64 a,v]
inductive KidsAt (S:Nat->Prop) (w:World):List Syn->Value->Prop
 | none:KidsAt S w [] (.slice none 0 0)
 | some {kids:List Syn} {b c:Nat} {cur:Array Value} {fr:Nat×Nat} (hb:w.heap[b]?=some (.cells cur 80 fr)) (hp:S b) (h:RowAt S w kids (cur.toList.take (kids.length*5))) (hc:kids.length<=c):KidsAt S w kids (.slice (some ⟨b,0,none⟩) kids.length c)
inductive RowAt (S:Nat->Prop) (w:World):List Syn->List Value->Prop
 | nil:RowAt S w [] []
 | cons {t:Syn} {r:List Syn} {cs ds:List Value} (h:SynAt S w t cs) (hr:RowAt S w r ds):RowAt S w (t::r) (cs++ds)
end
abbrev Fr(n:Nat):Nat->Prop:=fun k=>n<=k
def Keep(S:Nat->Prop)(w w':World):Prop:=∀k,S k->k<w.heap.size->w'.heap[k]?=w.heap[k]?
mutual
theorem SynAt.keep{S S':Nat->Prop}{w w':World}(hb:Keep S w w')(hl:∀k,S k->S' k):∀{t:Syn} {cs:List Value},SynAt S w t cs->SynAt S' w' t cs
 | _,_,.mk h=>.mk (KidsAt.keep hb hl h)
theorem KidsAt.keep{S S':Nat->Prop}{w w':World}(hb:Keep S w w')(hl:∀k,S k->S' k):∀{l:List Syn} {v:Value},KidsAt S w l v->KidsAt S' w' l v
 | _,_,.none=>.none
 | _,_,.some h hp hr hc=>.some ((hb _ hp (A3.1 h).1).trans h) (hl _ hp) (RowAt.keep hb hl hr) hc
theorem RowAt.keep{S S':Nat->Prop}{w w':World}(hb:Keep S w w')(hl:∀k,S k->S' k):∀{l:List Syn} {cs:List Value},RowAt S w l cs->RowAt S' w' l cs
 | _,_,.nil=>.nil
 | _,_,.cons h hr=>.cons (SynAt.keep hb hl h) (RowAt.keep hb hl hr)
end
theorem Keep.refl(S:Nat->Prop)(w:World):Keep S w w:=fun _ _ _=>rfl
theorem Keep.alloc(S:Nat->Prop)(w:World)(o:Obj):Keep S w (w.alloc o):=fun k _ hk=>Au w o k hk
theorem Keep.of_below{S:Nat->Prop}{w w':World}(h:Below w.heap.size w w'):Keep S w w':=fun k _ hk=>h.block k hk
theorem Keep.setP{S:Nat->Prop}{B o:Nat}{w w':World}{v:Value}(h:Keep S w w')(hB:¬ S B):Keep S w (w'.setCell ⟨B,o,none⟩ v):=fun k hk hs=>by rw[Below.heap_setCell _ _ _ _ (show k≠B from fun e=>hB (e▸hk))];exact h k hk hs
theorem Keep.set{lo B o:Nat}{w w':World}{v:Value}(h:Keep (Fr lo) w w')(hB:B<lo∨w.heap.size<=B):Keep (Fr lo) w (w'.setCell ⟨B,o,none⟩ v):=fun k hk hs=>by have cm:lo<=k:=hk;rw[Below.heap_setCell _ _ _ _ (by show k≠B;omega)];exact h k hk hs
theorem Keep.trans{S:Nat->Prop}{a b c:World}(h:Keep S a b)(k:Keep S b c)(hs:a.heap.size<=b.heap.size):Keep S a c:=fun i hi hl=>(k i hi (by omega)).trans (h i hi hl)
theorem RowAt.append{p:Nat->Prop}{w:World}{a b:List Syn}{cs ds:List Value}(h:RowAt p w a cs)(k:RowAt p w b ds):RowAt p w (a++b) (cs++ds):=by
 induction a generalizing cs with
 | nil=>cases h;exact k
 | cons t r ih=>
  cases h with
  | cons h hr=>rw[List.append_assoc];exact .cons h (ih hr)
theorem RowAt.length{p:Nat->Prop}{w:World}{a:List Syn}{cs:List Value}(h:RowAt p w a cs):cs.length=a.length*5:=by
 induction a generalizing cs with
 | nil=>cases h;rfl
 | cons t r ih=>
  cases h with
  | cons h hr=>
   cases h with
   | mk hk=>rw[Ac,ih hr];simp;omega
def Q0a(S:Nat->Prop)(w:World)(t:Syn)(v:Value):Prop:=∃kv,v=.agg #[.int .i64 t.kind,.string ⟨t.text.toArray⟩,.int .i64 t.num,.int .i64 t.pos,kv]/\KidsAt S w t.kids kv
theorem Q0a.keep{S S':Nat->Prop}{w w':World}{t:Syn}{v:Value}(h:Q0a S w t v)(hb:Keep S w w')(hl:∀k,S k->S' k):Q0a S' w' t v:=by obtain⟨kv,e,hk⟩:=h;exact⟨kv,e,hk.keep hb hl⟩
structure Only2 (p q:Nat) (w w':World):Prop where
 os:w'.os=w.os
 tape:w'.tape=w.tape
 output:w'.output=w.output
 size:w.heap.size<=w'.heap.size
 block:∀k,k<w.heap.size->k≠p->k≠q->w'.heap[k]?=w.heap[k]?
theorem Only.two{p:Nat}{w w':World}(h:Only p w w')(q:Nat):Only2 p q w w':=⟨h.os,h.tape,h.output,h.size,fun k hk hp _=>h.block k hk hp⟩
theorem Only2.one{p q:Nat}{w w':World}(h:Only2 p q w w')(hq:q=p∨w.heap.size<=q):Only p w w':=⟨h.os,h.tape,h.output,h.size,fun k hk hp=>h.block k hk hp (by omega)⟩
theorem Only2.trans{p q:Nat}{a b c:World}(h:Only2 p q a b)(k:Only2 p q b c):Only2 p q a c:=⟨k.os.trans h.os,k.tape.trans h.tape,k.output.trans h.output,Ao h.size k.size,fun i hi hp hq=>(k.block i (AJ hi h.size) hp hq).trans (h.block i hi hp hq)⟩
theorem Only2.own{p q B o:Nat}{w w':World}(h:Only2 p q w w')(hB:w.heap.size<=B)(v:Value):Only2 p q w (w'.setCell ⟨B,o,none⟩ v):=⟨h.os,h.tape,h.output,by simpa[A9]using h.size,fun k hk hp hq=>by rw[Below.heap_setCell _ _ _ _ (by show k≠B;omega)];exact h.block k hk hp hq⟩
theorem Only2.keep{p q:Nat}{S:Nat->Prop}{w w':World}(h:Only2 p q w w')(hp:¬ S p)(hq:¬ S q):Keep S w w':=fun k hk hs=>h.block k hs (fun e=>hp (e▸hk)) (fun e=>hq (e▸hk))
def GOut(pb q tb c lv:Nat)(T:List Tok)(w:World)(J:Nat->Syn->World->Prop)(o:Out Syn)(r:Ending)(w':World):Prop:=
 Only2 pb q w w'/\match o with
 | .none=>False
 | .err p e=>r=.panicked (Ys p e)
 | .ok t i=>(∃v,r=.returned v/\Q0a (Fr w.heap.size) w' t v/\J w.heap.size t w')/\PS pb tb c T i lv w'
def Stable(pb q:Nat)(J:Nat->Syn->World->Prop):Prop:=∀lo lo' t W W',J lo t W->lo'<=lo->Keep (Fr lo) W W'->(q≠pb->W'.heap[q]?=W.heap[q]?)->J lo' t W'
abbrev POut(pb tb c lv:Nat)(T:List Tok)(w:World)(o:Out Syn)(r:Ending)(w':World):Prop:=GOut pb pb tb c lv T w (fun _ _ _=>True) o r w'
def Qgs(pb tb c i lv:Nat)(T:List Tok)(w:World)(b:Bool)(r:Ending)(w':World):Prop:=
 Only pb w w'/\match b with
 | true=>r=.returned (Q1y (tk T i))/\PS pb tb c T (nx T i) lv w'
 | false=>r=.panicked (Ys (tk T i).pos 4)
theorem own3{w:World}{B:Nat}{a b c:Value}{T:TypeId}(h:w.heap[B]?=some (.cells #[a,b,c] T (0,0))):
  (w.cell? ⟨B,0,none⟩=some a/\w.cell? ⟨B,1,none⟩=some b/\w.cell? ⟨B,2,none⟩=some c)/\∀o,w.frozen? ⟨B,o,none⟩=false:=by
 refine⟨⟨?_,?_,?_⟩,fun o=>Aq h o⟩<;>(rw[Ag,h];rfl)
theorem own5{w:World}{B:Nat}{a b c d e:Value}{T:TypeId}(h:w.heap[B]?=some (.cells #[a,b,c,d,e] T (0,0))):
  (w.cell? ⟨B,0,none⟩=some a/\w.cell? ⟨B,1,none⟩=some b/\w.cell? ⟨B,2,none⟩=some c/\w.cell? ⟨B,3,none⟩=some d/\w.cell? ⟨B,4,none⟩=some e)/\∀o,w.frozen? ⟨B,o,none⟩=false:=by
 refine⟨⟨?_,?_,?_,?_,?_⟩,fun o=>Aq h o⟩<;>(rw[Ag,h];rfl)
theorem Only.keep{p:Nat}{w w':World}(h:Only p w w'){B:Nat}{o:Obj}(hB:w.heap[B]?=some o)(hp:B≠p):w'.heap[B]?=some o:=(h.block B (A3.1 hB).1 hp).trans hB
theorem Q8g(pb tb c i lv:Nat)(T:List Tok)(w:World)(s:List UInt8)(h:PS pb tb c T i lv w):
  Calls prog 262 #[.pointer (some ⟨pb,0,none⟩),.string ⟨s.toArray⟩] w (Qgs pb tb c i lv T w (isW T [s] i)):=by
 have cl:=h.pos;have jA:=h.toks.1;have lz:∀W,PS pb tb c T i lv W->WAt W (w.heap.size+1) [s]->Calls prog 124 #[.pointer (some ⟨pb,0,none⟩),.slice (some ⟨w.heap.size+1,0,none⟩) 1 1] W fun r w'=>r=.returned (.bool (isW T [s] i))/\(PS pb tb c T i lv w'/\Only pb W w'):=fun W a b=>Q8f pb tb c i lv T W (w.heap.size+1) [s] a b (by simp)
 have hN:=qh (fun W (h:PS pb tb c T i lv W)=>Q8h pb tb c i lv T W h);have hF:Hid (∀W,PS pb tb c T i lv W->Calls prog 122 #[.pointer (some ⟨pb,0,none⟩),.int .i64 4] W fun r w'=>r=.panicked (Ys (tk T i).pos 4)/\Only pb W w'):=fun W h=>Q3h pb tb c i lv T W 4 h
 have h1:∀A,PS pb tb c T i lv ((w.alloc A).alloc (.cells #[.string ⟨s.toArray⟩] 9)):=fun A=>(h.alloc _).alloc _
 have et:∀A,WAt ((w.alloc A).alloc (.cells #[.string ⟨s.toArray⟩] 9)) (w.heap.size+1) [s]:=by
  intro A;refine⟨by simp,fun j hj=>?_⟩;have:j=0:=by simpa using hj
  subst this;have:=heap_alloc_new (w.alloc A) (.cells #[.string ⟨s.toArray⟩] 9);rw[Aa]at this;rw[Ag,this];rfl
 replace h:=qh h;replace h1:=qh h1;replace et:=qh et;cases hb:isW T [s] i
 ·rw[hb]at lz
  replace lz:=qh lz;clear hb;go_enter func262,ntmps262;go_wp2_with fail;(with_reducible refine(lz.out _ (h1.out _) (et.out _)).mono ?_);rintro e w1 ⟨rfl,p1,o1⟩
  replace p1:=qh p1;replace o1:=qh (((Only.alloc _ _ _).trans (Only.alloc _ _ _)).trans o1);go_wp2_with fail;(with_reducible refine(hF.out _ p1.out).mono ?_);rintro e w2 ⟨rfl,o2⟩
  exact⟨rfl,o1.out.trans o2,rfl⟩
 ·rw[hb]at lz
  replace lz:=qh lz;clear hb;go_enter func262,ntmps262;go_wp2_with fail;(with_reducible refine(lz.out _ (h1.out _) (et.out _)).mono ?_);rintro e w1 ⟨rfl,p1,o1⟩
  have aH:=o1.keep (B:=w.heap.size) (o:=.cells #[.int .i64 0,.string ⟨#[]⟩,.int .i64 0] 158 (0,0)) (by rw[Au _ _ _ (by simp)];exact heap_alloc_new _ _) (by omega);replace p1:=qh p1;replace o1:=qh (((Only.alloc _ _ _).trans (Only.alloc _ _ _)).trans o1);replace aH:=qh aH;go_wp2_with fail;(with_reducible refine(hN.out _ p1.out).mono ?_);rintro e w2 ⟨rfl,p2,o2⟩
  have aM:=o2.keep aH.out (by omega);obtain⟨⟨r0,r1,r2⟩,iC⟩:=own3 aM;replace aM:=qh aM;replace o2:=qh (o1.out.trans o2);replace p2:=qh p2;generalize bv:tk T i=t at *;obtain⟨kd,tx,ps⟩:=t;replace bv:=qh bv;simp only[Q1y];go_wp2_with fail;refine bodyPost_ret (v:=.agg #[.int .i64 kd,.string ⟨tx.toArray⟩,.int .i64 ps]) (by simp[results,results262,go_sem,r0,r1,r2]) rfl ⟨?_,by rw[bv.out];rfl,?_⟩
  ·exact Only.own (Only.own (Only.own o2.out (A4 _) _) (A4 _) _) (A4 _) _
  ·refine PS.own (PS.own (PS.own p2.out ?_ ?_) ?_ ?_) ?_ ?_<;>omega
theorem Qnl(S:Nat->Prop)(op:List UInt8)(num:Int)(a b:Syn)(va vb:Value)(w:World)(ha:Q0a S w a va)(hb:Q0a S w b vb)(hp:∀k,w.heap.size<=k->S k):
  Calls prog 126 #[.string ⟨op.toArray⟩,.int .i64 num,va,vb] w fun r w'=>(∃v,r=.returned v/\Q0a S w' (binary op num a b) v)/\Below w.heap.size w w':=by
 obtain⟨ka,rfl,iD⟩:=ha;obtain⟨kb,rfl,mg⟩:=hb;cases a with
 | mk k1 t1 n1 p1 l1=>
 cases b with
 | mk k2 t2 n2 p2 l2=>
 simp only[Syn.kind,Syn.text,Syn.num,Syn.pos,Syn.kids]at *;replace iD:=qh iD;replace mg:=qh mg;go_enter func126,ntmps126;go_wp2_with fail;refine bodyPost_ret (v:=.agg #[.int .i64 11,.string ⟨op.toArray⟩,.int .i64 num,.int .i64 p1,.slice (some ⟨w.heap.size+1+1+1,0,none⟩) 2 2]) (by simp[results,results126,go_sem]) rfl ⟨⟨_,rfl,_,rfl,?_⟩,(((((Below.refl _ _).alloc (A4 _) _).alloc (by simp) _).alloc (by simp;omega) _).alloc (by simp;omega) _)⟩;have hO:∀A B C D:Obj,Keep S w ((((w.alloc A).alloc B).alloc C).alloc D):=fun A B C D=>Keep.of_below (((((Below.refl _ _).alloc (A4 _) _).alloc (by simp) _).alloc (by simp;omega) _).alloc (by simp;omega) _)
 have ar:=heap_alloc_new (((w.alloc (.cells #[.int .i64 k1,.string ⟨t1.toArray⟩,.int .i64 n1,.int .i64 p1,ka] 80)).alloc (.cells #[.int .i64 k2,.string ⟨t2.toArray⟩,.int .i64 n2,.int .i64 p2,kb] 80)).alloc
  (.cells #[.int .i64 11,.string ⟨op.toArray⟩,.int .i64 num,.int .i64 p1,.slice (some ⟨w.heap.size+1+1+1,0,none⟩) 2 2] 80)) (.cells #[.int .i64 k1,.string ⟨t1.toArray⟩,.int .i64 n1,.int .i64 p1,ka,.int .i64 k2,.string ⟨t2.toArray⟩,.int .i64 n2,.int .i64 p2,kb] 80)
 rw[Aa,Aa,Aa]at ar;exact KidsAt.some ar (hp _ (by omega)) (RowAt.cons (cs:=[.int .i64 k1,.string ⟨t1.toArray⟩,.int .i64 n1,.int .i64 p1,ka]) (.mk (iD.out.keep (hO _ _ _ _) fun _ h=>h)) (RowAt.cons (cs:=[.int .i64 k2,.string ⟨t2.toArray⟩,.int .i64 n2,.int .i64 p2,kb]) (.mk (mg.out.keep (hO _ _ _ _) fun _ h=>h)) .nil)) (A4 _)
theorem PS.draw{pb tb c i lv:Nat}{T:List Tok}{w:World}(h:PS pb tb c T i lv w):PS pb tb c T i lv w.drew:=h.drew 1
theorem Qtq(w:World)(a b:Array Value)(A B:TypeId):
  ((w.alloc (.cells a A)).alloc (.cells b B)).drew.heap[w.heap.size]?=some (.cells a A (0,0))/\((w.alloc (.cells a A)).alloc (.cells b B)).drew.heap[w.heap.size+1]?=some (.cells b B (0,0)):=by
 have h:=heap_alloc_new (w.alloc (.cells a A)) (.cells b B);rw[Aa]at h;refine⟨?_,h⟩;show((w.alloc (.cells a A)).alloc (.cells b B)).heap[w.heap.size]?=_;rw[Au _ _ _ (by simp)];exact heap_alloc_new _ _
theorem Qhm(l:List UInt8)(w:World)(h0:l≠[])(hd:∀c∈l,Q6 c.toNat=true)(hv:dv 0 l<=1048576)(hl:l.length<=1000000):
  Calls prog 236 #[.string ⟨l.toArray⟩] w fun e w'=>e=.returned (.tuple #[.int .i64 (dv 0 l:Nat),.nilIface])/\Below w.heap.size w w':=by
 refine(Tryz.strconv_Atoi_ok ⟨l.toArray⟩ (by rw[Q2r];omega) (dv 0 l:Nat) (Qhl h0 hd hv) w).mono ?_;rintro e w' ⟨rfl,hw⟩;refine⟨rfl,?_⟩;rcases hw with rfl|⟨t,rfl⟩
 ·exact Below.refl _ _
 ·exact Qa5 _ _ _
theorem Q8j(pb tb c i lv:Nat)(T:List Tok)(w:World)(h:PS pb tb c T i lv w):
  Calls prog 240 #[.pointer (some ⟨pb,0,none⟩)] w (POut pb tb c lv T w (number T i)):=by
 obtain⟨c0,c1,c2⟩:=h.cells;obtain⟨t0,t1,t2⟩:=h.tok;have af:=h.lt;have az:=h.size;have cl:=h.pos;have jA:=h.toks.1;have dS:(0:Int)<=(i:Int):=by omega
 have fY:(i:Int)<(T.length:Int):=by omega
 have hN:=qh (fun W (h:PS pb tb c T i lv W)=>Q8h pb tb c i lv T W h);have hF:Hid (∀W,PS pb tb c T i lv W->Calls prog 122 #[.pointer (some ⟨pb,0,none⟩),.int .i64 4] W fun r w'=>r=.panicked (Ys (tk T i).pos 4)/\Only pb W w'):=fun W h=>Q3h pb tb c i lv T W 4 h
 have hr:number T i=if(tk T i).kind≠1 then .err (tk T i).pos 4 else .ok (.mk 9 [] (dv 0 (tk T i).text:Nat) (tk T i).pos []) (nx T i):=rfl
 have aq:tk T i∈T:=by
  have e:tk T i=T[i]'af:=by unfold tk;rw[Av,Ah af];rfl
  rw[e];exact List.getElem_mem af
 have aj:=h.nums (tk T i) aq;clear aq;generalize tk T i=t at *;obtain⟨kd,tx,ps⟩:=t;simp only at t0 t1 t2 hr hF aj;have h1:=qh (((h.alloc (.cells #[.int .i64 0,.string ⟨#[]⟩,.int .i64 0,.int .i64 0,.slice none 0 0] 80)).alloc (.cells #[.int .i64 kd,.string ⟨tx.toArray⟩,.int .i64 ps] 158)).draw);have o1:=qh (show Only pb w (((w.alloc (.cells #[.int .i64 0,.string ⟨#[]⟩,.int .i64 0,.int .i64 0,.slice none 0 0] 80)).alloc (.cells #[.int .i64 kd,.string ⟨tx.toArray⟩,.int .i64 ps] 158)).drew)from(Only.alloc _ _ _).trans ((Only.alloc _ _ _).trans (Only.drew _ 1 _)));have bH:=qh (Qtq w #[.int .i64 0,.string ⟨#[]⟩,.int .i64 0,.int .i64 0,.slice none 0 0] #[.int .i64 kd,.string ⟨tx.toArray⟩,.int .i64 ps] 80 158);replace h:=qh h;by_cases h0:kd=1
 ·have b0:(kd !=1)=false:=by rw[bne_eq_false_iff_eq];exact h0
  obtain⟨n0,n1,n2,n3⟩:=aj h0;have hA:=qh (fun W=>Qhm tx W n0 n1 n2 n3);rw[if_neg (by simp[h0])]at hr;generalize dv 0 tx=nv at *;replace hr:=qh hr;replace h0:=qh h0;clear aj n0 n1 hF;go_enter func240,ntmps240;go_wp2_with fail;go_region
  go_wp2_with fail;(with_reducible refine(hN.out _ h1.out).mono ?_);rintro e w2 ⟨rfl,p2,o2⟩
  have aM:=o2.keep bH.out.1 (by omega);have pO:=o2.keep bH.out.2 (by omega);obtain⟨⟨s0,s1,s2⟩,_⟩:=own3 pO;replace p2:=qh p2;replace aM:=qh aM;replace pO:=qh pO;replace o2:=qh (o1.out.trans o2);go_wp2_with fail;(with_reducible refine(hA.out _).mono ?_);rintro e w3 ⟨rfl,b3⟩
  have p3:=qh (p2.out.below b3);obtain⟨⟨r0,r1,r2,r3,r4⟩,iC⟩:=own5 ((Only.of_below (p:=pb) b3).keep aM.out (by omega));obtain⟨⟨u0,u1,u2⟩,_⟩:=own3 ((Only.of_below (p:=pb) b3).keep pO.out (by omega));have o3:=qh (o2.out.trans (Only.of_below (p:=pb) b3));clear b3 s0 s1 s2;go_wp2_with fail;refine bodyPost_ret (v:=.agg #[.int .i64 9,.string ⟨#[]⟩,.int .i64 nv,.int .i64 ps,.slice none 0 0]) (by simp[results,results240,go_sem,r0,r1,r2,r3,r4]) rfl ⟨?_,?_⟩
  ·exact Only.two (q:=pb) <| Only.own (Only.own (Only.own (Only.own (Only.own o3.out (A4 _) _) (A4 _) _) (A4 _) _) (A4 _) _) (A4 _) _
  ·rw[hr.out]
   refine⟨⟨_,rfl,⟨_,rfl,.none⟩,trivial⟩,?_⟩;refine PS.own (PS.own (PS.own (PS.own (PS.own p3.out ?_ ?_) ?_ ?_) ?_ ?_) ?_ ?_) ?_ ?_<;>omega
 ·have b0:(kd !=1)=true:=by rw[bne_iff_ne];exact h0
  rw[if_pos h0]at hr;replace hr:=qh hr;replace h0:=qh h0;clear aj;go_enter func240,ntmps240;go_wp2_with fail;go_region
  go_wp2_with fail;(with_reducible refine(hF.out _ h1.out).mono ?_);rintro e w2 ⟨rfl,o2⟩
  exact⟨rfl,(o1.out.trans o2).two pb,by rw[hr.out]⟩
end Go.Proofs.YtakdifceogdioaaGreatDoor