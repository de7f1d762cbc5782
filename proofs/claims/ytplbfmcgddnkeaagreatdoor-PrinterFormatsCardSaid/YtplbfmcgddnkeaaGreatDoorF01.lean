/- Walks of functions, and plain facts. -/
import Derived.WalkKit
import Derived.WalkLawsBesides
import Derived.WalkSpells
import Derived.Deep.QuietTactic
import Derived.BigQuiet
import Derived.IntWalk
import Derived.Lib.Hide
import Derived.Handy
import Derived.Test.YtplbfmcgddnkeaaGreatDoorProg
import Derived.Shelf.Strings.Builder1
import Derived.Lib.Strings
import Derived.Lib.Atoi
import Derived.Lib.AtoiAll
import Derived.Lib.TrimByte
import Derived.Shelf.Strings.Prefix
import Derived.Shelf.Strings.Trim
import Derived.Shelf.Small.Utf8
import Derived.Shelf.Small.Strs
import Derived.Shelf.Strconv.Atoi
import Derived.Shelf.Strconv.Itoa0
import Derived.Shelf.Strconv.Itoa1
import Derived.Shelf.LaysM
import Derived.Shelf.Strconv.Itoa2
import Derived.Shelf.Strconv.Itoa3
import Derived.Shelf.Strconv.AtoiErrFast
import Derived.Shelf.Strconv.ParseIntEmpty
import Derived.Shelf.Strconv.AtoiFail
import Derived.Shelf.Strconv.Clone
import Derived.Shelf.Strconv.SyntaxError
import Derived.Shelf.LaysC
import Derived.Shelf.Strconv.ToError
import Derived.Shelf.Strconv.Lower
import Derived.Shelf.Strconv.ParseUint10
import Derived.Shelf.Strconv.ParseUint10Empty
import Derived.Shelf.Strconv.ParseUint10Any
import Derived.Shelf.Strconv.ParseInt10
import Derived.Shelf.Strconv.AtoiLong
import Derived.Shelf.Strconv.AtoiInnerAll
import Derived.Shelf.Strconv.RangeError
import Derived.Shelf.Strconv.ToErrorRange
import Derived.Shelf.Strconv.AtoiAll
import Derived.Shelf.Strings.Search1
import Derived.Shelf.Strings.Fields
import Derived.Shelf.Unicode.Latin
import Derived.Shelf.Strings.Runes
import Derived.Shelf.Strings.AsciiSet
import Derived.Shelf.Unicode.DecodeSlow
import Derived.Shelf.Unicode.Is16White
import Derived.Shelf.Unicode.IsSpaceAny
import Derived.Shelf.Unicode.Is16Any
import Derived.Shelf.Unicode.Is32Any
import Derived.Shelf.Unicode.ExclAny
import Derived.Shelf.Slices.Turned
set_option linter.unusedVariables false
set_option linter.unusedSimpArgs false
set_option maxHeartbeats 20000000
set_option maxRecDepth 100000
namespace Go.Proofs.YtplbfmcgddnkeaaGreatDoor
open Tryz
open Go.RowKit
theorem Q7o(l:List UInt8):(ByteArray.mk l.toArray).size=l.length:=by simp[ByteArray.size]
@[go_sem] theorem Qws(l:List UInt8)(k:Nat)(h:k<(ByteArray.mk l.toArray).size):(ByteArray.mk l.toArray)[k]'h=l[k]'(by rw[Q7o]at h;exact h):=rfl
attribute [go_sem] ByteArray.extract_mk ByteArray.toList_eq
@[go_sem] theorem Qwu{α:Type}(s:List α)(k:Nat):List.take (s.length-k) (List.drop k s)=List.drop k s:=List.take_of_length_le (by simp)
@[go_sem] theorem Qwt(a b:List UInt8):ByteArray.mk a.toArray++ByteArray.mk b.toArray=ByteArray.mk (a++b).toArray:=by apply ByteArray.ext;simp
theorem Q2o{k:IntKind}{a b:Int}(h:a=b):Ending.returned (.int k a)=.returned (.int k b):=by rw[h]
theorem Q3{a b:Bool}(h:a=b):Ending.returned (.bool a)=.returned (.bool b):=by rw[h]
theorem Q1h{a b:List UInt8}(h:a=b):Ending.returned (.string ⟨a.toArray⟩)=.returned (.string ⟨b.toArray⟩):=by rw[h]
theorem qh{p:Prop}(h:p):RowKit.Hid p:=h
theorem qs{a b c:World}(h:RowKit.Hid (RowKit.Below a.heap.size a b))(k:RowKit.Below b.heap.size b c):RowKit.Hid (RowKit.Below a.heap.size a c):=h.out.trans (k.mono h.out.size)
theorem qt{a b c:World}(h:RowKit.Hid (RowKit.Below a.heap.size a b))(k:RowKit.Hid (RowKit.Below b.heap.size b c)):RowKit.Hid (RowKit.Below a.heap.size a c):=h.out.trans (k.out.mono h.out.size)
theorem Qja:(prog.info? 75).map (·.size)=some 2:=by kernel_rfl
theorem Qqt:liesAt prog prog.depth 77 (2 / prog.cellsOf 77) 0 75 1=true:=by kernel_rfl
theorem Qv4:(prog.info? 5).map (fun i=>(i.zero,i.size,i.bytes))=some (some (.int .u8 0),1,1):=by kernel_rfl
abbrev IsWr(B b:Nat)(l:List UInt8)(w:World):Prop:=Lib.IsBuilder 77 5 B b (Lib.byteCells l) w
def Q1g(b:Nat)(w w':World):Prop:=∀k o,w.heap[k]?=some o→(∀cs fr,o≠.cells cs 5 fr)→k≠b→w'.heap[k]?=some o
theorem Q1g.refl(b:Nat)(w:World):Q1g b w w:=fun _ _ h _ _=>h
theorem Q1g.trans{b:Nat}{w w' w'':World}(h:Q1g b w w')(k:Q1g b w' w''):Q1g b w w'':=fun i o e n m=>k i o (h i o e n m) n m
theorem Q1g.setCell(b o:Nat)(w:World)(v:Value):Q1g b w (w.setCell ⟨b,o,none⟩ v):=fun k ob h _ hk=>by rw[Below.heap_setCell _ _ _ _ hk];exact h
theorem Q1g.alloc(b:Nat)(w:World)(o:Obj):Q1g b w (w.alloc o):=fun k ob h _ _=>by rw[Lib.alloc_old w o k (Array.getElem?_eq_some_iff.1 h).1];exact h
theorem Q1g.grown{b B n:Nat}{w w':World}{v:Value}{xs:List Value}(hown:w.ownsRow B 5 1 v n xs)(hg:w.grownBy w' v.ownBlock):Q1g b w w':=fun k ob h hT _=>by
 rw[hg.block k (Array.getElem?_eq_some_iff.1 h).1 (fun e=>?_)]
 ·exact h
 ·rcases hown.2 with⟨rfl,_⟩|⟨g,cap,cur,rfl,_,hh,_⟩
  ·simp[Value.ownBlock]at e
  ·simp only[Value.ownBlock,Option.some.injEq]at e
   subst e;rw[h]at hh;simp only[Option.some.injEq]at hh;exact hT _ _ hh
theorem Quq(b:Nat)(w:World)(h0:w.cell? ⟨b,0,none⟩=some (.pointer none))(hsh:w.shape? b=some (77,2))(hfz:w.frozen? ⟨b,0,none⟩=false):
  Calls prog 145 #[.pointer (some ⟨b,0,none⟩)] w fun e w'=>e=.returned (.tuple #[])∧w'=w.setCell ⟨b,0,none⟩ (.pointer (some ⟨b,0,none⟩)):=by
 obtain⟨j,hj,hjs⟩:=Option.map_eq_some_iff.1 Qja;go_enter func145,ntmps145;go_wp2
 rw[Lib.run_to_unsafe w ⟨b,0,none⟩ underlying72 underlying150 hj (by rw[hjs];decide) hsh (Nat.zero_lt_succ 1)];simp only[Result.andThen];rw[Oper.upon_value];go_wp2
 rw[run_callFunc_extern func176 (by kernel_rfl) (by kernel_rfl) (by kernel_rfl) (e:=Extern.AbiNoEscape.same) (by kernel_rfl)];rw[Lib.run_noEscape];simp only[Result.andThen];rw[Oper.upon_value];go_wp2
 rw[Lib.run_from_unsafe w ⟨b,0,none⟩ underlying150 underlying72 hj hsh Qqt];simp only[Result.andThen];rw[Oper.upon_value];go_wp2
 go_end0
 exact⟨rfl,rfl⟩
theorem Qtm(b:Nat)(w:World)(h0:w.cell? ⟨b,0,none⟩=some (.pointer (some ⟨b,0,none⟩))):
  Calls prog 145 #[.pointer (some ⟨b,0,none⟩)] w fun e w'=>e=.returned (.tuple #[])∧w=w':=by
 obtain⟨j,hj,_⟩:=Option.map_eq_some_iff.1 Qja;go_enter func145,ntmps145;go_wp2
 rw[Lib.run_neq_ptr_same w _ underlying72 hj];go_wp2
 go_end0
 exact⟨rfl,rfl⟩
theorem Qvn(B b:Nat)(bs:List Value)(w:World)(h:Lib.IsBuilder 77 5 B b bs w):
  Calls prog 145 #[.pointer (some ⟨b,0,none⟩)] w fun e w'=>e=.returned (.tuple #[])∧(Lib.BuilderAt 77 5 B b (.pointer (some ⟨b,0,none⟩)) bs w'∧Below B w w'∧Q1g b w w'):=by
 rcases h with h|h
 ·refine(Quq b w h.cell0 h.shape h.frozen0).mono ?_
  rintro e w' ⟨rfl,rfl⟩;exact⟨rfl,h.used _,(Below.refl B w).setCell (p:=⟨b,0,none⟩) h.1 _,Q1g.setCell _ _ _ _⟩
 ·refine(Qtm b w h.cell0).mono ?_
  rintro e w' ⟨rfl,rfl⟩;exact⟨rfl,h,Below.refl B _,Q1g.refl _ _⟩
theorem Qlc(B b:Nat)(l s:List UInt8)(w:World)(h:IsWr B b l w)(hlen:l.length+s.length≤140737488355328)(hBw:B≤w.heap.size):
  Calls prog 99 #[.pointer (some ⟨b,0,none⟩),.string ⟨s.toArray⟩] w fun e w'=>e=.returned (.tuple #[.int .i64 s.length,.nilIface])∧(IsWr B b (l++s) w'∧Below B w w'∧Q1g b w w'):=by
 obtain⟨i0,hi,hz0,hz1,hz2⟩:=info_parts Qv4;have hbl:(Lib.byteCells l).length≤l.length:=by simp[Lib.byteCells]
 go_enter func99,ntmps99;go_wp2_with (go_at_call 145;refine(Qvn B b _ _ h).mono ?_);rintro e w1 ⟨rfl,h1,hb1,hk1⟩;replace hk1:=qh hk1;obtain⟨hB,v,hbk,hown,hne⟩:=h1;have c0:w1.cell? ⟨b,0,none⟩=some (.pointer (some ⟨b,0,none⟩)):=by rw[Lib.cell_of_heap hbk];rfl
 have c1:w1.cell? ⟨b,1,none⟩=some v:=by rw[Lib.cell_of_heap hbk];rfl
 go_wp2_with (at_builtin;refine Lib.wpList_append_own_string _ rfl _ _ 73 9 rfl B 5 i0 underlying73 underlying9 hi hz0 hz1 hz2 _ _ _ rfl hown ⟨s.toArray⟩ rfl ?c3 ?c4 ?c5 ?_)
 case c3=>unfold maxLen;rw[Q7o];omega
 case c4=>rw[Q7o];omega
 case c5=>have:=hb1.size;omega
 intro v' w2 hown' hgrow _;have hk2:=qh (hk1.out.trans (Q1g.grown hown hgrow));have hlt:b<w1.heap.size:=by
  rcases Nat.lt_or_ge b w1.heap.size with h'|h'
  ·exact h'
  ·simp[Array.getElem?_eq_none h']at hbk
 have hb2:w2.heap[b]?=some (.cells #[.pointer (some ⟨b,0,none⟩),v] 77 (0,0)):=by rw[hgrow.block b hlt (fun e=>hne e.symm)];exact hbk
 have d0:w2.cell? ⟨b,0,none⟩=some (.pointer (some ⟨b,0,none⟩)):=by rw[Lib.cell_of_heap hb2];rfl
 have d1:w2.cell? ⟨b,1,none⟩=some v:=by rw[Lib.cell_of_heap hb2];rfl
 have f1:w2.frozen? ⟨b,1,none⟩=false:=Lib.frozen_of_heap hb2 1;obtain⟨ao,n',cap,rfl⟩:∃ao n' cap,v'=.slice ao n' cap:=by
  rcases hown'.2 with⟨hv,_⟩|⟨g,cap,cur,hv,_⟩
  ·exact⟨_,_,_,hv⟩
  ·exact⟨_,_,_,hv⟩
 go_wp2
 go_ret2
 refine⟨rfl,?_,?_,hk2.out.trans (Q1g.setCell _ _ _ _)⟩
 ·exact Or.inr (Lib.BuilderAt.put (T:=77) (e:=5) hB hb2 (bs':=Lib.byteCells (l++s)) (by simpa[Lib.byteCells,Lib.strCells,ByteArray.size]using hown') (by decide))
 ·exact(hb1.grown hgrow (by have:=hb1.size;omega) (fun k hk=>(hown.lt k hk).1)).setCell (p:=⟨b,1,none⟩) hB _
end Go.Proofs.YtplbfmcgddnkeaaGreatDoor
namespace Go.Proofs.YtplbfmcgddnkeaaGreatDoor
open Tryz
def Q0s(c:Int):Bool:=(decide (97≤c)&&decide (c≤122))||(decide (65≤c)&&decide (c≤90))
def Qe(c:Int):Bool:=(decide (48≤c)&&decide (c≤57))
def Q7(c:Int):Bool:=Q0s c||Qe c
def Q0f(c:Int):Bool:=(c==32)||(c==9)||(c==13)||(c==10)
def Q2f(c:Int):Bool:=c !=10
def Q1(p:Int→Bool):List UInt8→Nat
 | []=>0
 | c::r=>if p c.toNat then Q1 p r+1 else 0
theorem Q3c(p:Int→Bool)(l:List UInt8):Q1 p l≤l.length:=by
 induction l with
 | nil=>simp[Q1]
 | cons c r ih=>simp only[Q1];split<;>simp<;>omega
theorem Qay{p:Int→Bool}{l:List UInt8}{k:Nat}(h:k<l.length)(hp:p (l[k].toNat)=true):Q1 p (l.drop k)=Q1 p (l.drop (k+1))+1:=by rw[List.drop_eq_getElem_cons h];simp[Q1,hp]
theorem Qct{p:Int→Bool}{l:List UInt8}{k:Nat}(h:k<l.length)(hp:p (l[k].toNat)=false):Q1 p (l.drop k)=0:=by rw[List.drop_eq_getElem_cons h];simp[Q1,hp]
def skip:Bool→List UInt8→Nat
 | _,[]=>0
 | true,c::r=>if c.toNat=10 then skip false r+1 else skip true r+1
 | false,c::r=>if c.toNat=35 then skip true r+1 else if Q0f c.toNat then skip false r+1 else 0
theorem Q4u(b:Bool)(l:List UInt8):skip b l≤l.length:=by
 induction l generalizing b with
 | nil=>simp[skip]
 | cons c r ih=>have h1:=ih true;have h2:=ih false;cases b<;>simp only[skip]<;>(repeat' split)<;>simp<;>omega
theorem Qow(l:List UInt8):skip false l=Q1 Q0f l+skip false (l.drop (Q1 Q0f l)):=by
 induction l with
 | nil=>simp[skip,Q1]
 | cons c r ih=>
  by_cases h:c.toNat=35
  ·have:Q0f c.toNat=false:=by simp[Q0f,h]
   simp[Q1,this]
  ·cases hb:Q0f c.toNat
   ·simp[Q1,hb]
   ·simp only[Q1,hb,if_true,skip,h,if_false,List.drop_succ_cons];omega
theorem Qul(r:List UInt8):skip true r=Q1 Q2f r+skip false (r.drop (Q1 Q2f r)):=by
 induction r with
 | nil=>simp[skip,Q1]
 | cons c r ih=>
  by_cases h:c.toNat=10
  ·have h1:Q2f c.toNat=false:=by simp[Q2f,h]
   have h2:Q0f c.toNat=true:=by simp[Q0f,h]
   rw[skip,if_pos h,Q1,if_neg (by simp[h1]),List.drop_zero,skip,if_neg (by omega),if_pos h2];omega
  ·have h1:Q2f c.toNat=true:=by simp[Q2f];omega
   simp only[Q1,h1,if_true,skip,h,if_false,List.drop_succ_cons];omega
theorem Qvu{l:List UInt8}(h:Lib.hasPrefix l [35]=true):skip false l=Q1 Q2f l+skip false (l.drop (Q1 Q2f l)):=by
 cases l with
 | nil=>simp[Lib.hasPrefix]at h
 | cons c r=>
  have hc:c=35:=by
   have:(35:UInt8)=c:=by simpa[Lib.hasPrefix,List.isPrefixOf]using h
   exact this.symm
  subst hc;have:=Qul r;simp only[skip,Q1];rw[if_pos (by rfl),if_pos (by simp[Q2f]),List.drop_succ_cons];omega
theorem Qu8{l:List UInt8}(h:Lib.hasPrefix l [35]=true):0<Q1 Q2f l:=by
 cases l with
 | nil=>simp[Lib.hasPrefix]at h
 | cons c r=>
  have hc:c=35:=by
   have:(35:UInt8)=c:=by simpa[Lib.hasPrefix,List.isPrefixOf]using h
   exact this.symm
  subst hc;rw[Q1,if_pos (by simp[Q2f])];omega
theorem Qn4{l:List UInt8}(h:Lib.hasPrefix l [35]=false)(hb:Q1 Q0f l=0):skip false l=0:=by
 cases l with
 | nil=>rfl
 | cons c r=>
  have hc:¬ c.toNat=35:=by intro e;have:c=35:=UInt8.toNat_inj.1 e;simp[Lib.hasPrefix,List.isPrefixOf,this]at h
  simp only[Q1]at hb;simp only[skip,hc,if_false];split
  ·rename_i h';simp[h']at hb
  ·rfl
theorem Qqf{l:List UInt8}{k:Nat}(h:k<l.length)(hp:Q0f (l[k].toNat)=true):skip false (l.drop k)=skip false (l.drop (k+1))+1:=by
 have h1:¬ l[k].toNat=35:=by intro e;simp[e,Q0f]at hp
 rw[List.drop_eq_getElem_cons h,skip,if_neg h1,if_pos hp]
theorem Qq0{l:List UInt8}{k:Nat}(h:k<l.length)(hp:Q0f (l[k].toNat)=false)(h1:¬ l[k].toNat=35):skip false (l.drop k)=0:=by rw[List.drop_eq_getElem_cons h,skip,if_neg h1,if_neg (by simp[hp])]
theorem Qme{l:List UInt8}{k:Nat}(h:k<l.length)(h1:¬ l[k].toNat=10):skip true (l.drop k)=skip true (l.drop (k+1))+1:=by rw[List.drop_eq_getElem_cons h,skip,if_neg h1]
theorem Qvb{l:List UInt8}{k:Nat}(h:k<l.length)(h1:l[k].toNat=10):skip true (l.drop k)=skip false (l.drop k):=by rw[List.drop_eq_getElem_cons h];simp[skip,h1,Q0f]
theorem Qq7{l:List UInt8}{k:Nat}(h:k<l.length)(h1:l[k].toNat=35):skip false (l.drop k)=skip true (l.drop k):=by rw[List.drop_eq_getElem_cons h];simp[skip,h1]
def Q2p:Nat→List UInt8→Option Nat
 | n,[]=>some n
 | n,c::r=>if 1048576<10*n+(c.toNat-48)then none else Q2p (10*n+(c.toNat-48)) r
def Q1z:List UInt8:=[59,44,58,40,41,123,125,43,45,61,60]
def Q0v:List UInt8→Nat
 | []=>0
 | [c]=>if Q1z.contains c then 1 else 0
 | c::d::_=>if d=61∧(c=60∨c=33)then 2 else if Q1z.contains c then 1 else 0
theorem Q7e(l:List UInt8):Q0v l≤l.length:=by
 match l with
 | []=>simp[Q0v]
 | [c]=>simp only[Q0v];split<;>simp
 | c::d::r=>simp only[Q0v];(repeat' split)<;>simp
def tok(l:List UInt8):Except (Nat×Nat) (Nat×Nat):=
 if Q1 Q7 l=0 then
  if Q0v l=0 then .error (0,4)else .ok (2,Q0v l)
 else if Q1 Q0s l=0 then
  if Q1 Qe l<Q1 Q7 l then .error (Q1 Qe l,4)
  else if(Q2p 0 (l.take (Q1 Q7 l))).isNone then .error (0,2)
  else .ok (1,Q1 Q7 l)
 else if 24<Q1 Q7 l then .error (0,8)
 else .ok (0,Q1 Q7 l)
structure Tok where
 kind:Int
 text:List UInt8
 pos:Int
deriving DecidableEq
def Q0e:Nat→Nat→List UInt8→Except (Nat×Nat) (List Tok)
 | 0,_,_=>.ok []
 | f+1,p,l=>
  let k:=skip false l
  match l.drop k with
  | []=>.ok [⟨3,[],((p+k:Nat):Int)⟩]
  | c::r=>
   match tok (c::r)with
   | .error (d,e)=>.error (p+k+d,e)
   | .ok (kind,n)=>
    match Q0e f (p+k+n) ((c::r).drop n)with
    | .error x=>.error x
    | .ok ts=>.ok (⟨kind,(c::r).take n,((p+k:Nat):Int)⟩::ts)
def scan(l:List UInt8):Except (Nat×Nat) (List Tok):=if 65536<l.length then .error (0,13)else Q0e (l.length+1) 0 l
def dv(n:Nat)(l:List UInt8):Nat:=l.foldl (fun n c=>10*n+(c.toNat-48)) n
theorem Qh5(n:Nat):dv n []=n:=rfl
theorem Q5f(n:Nat)(c:UInt8)(r:List UInt8):dv n (c::r)=dv (10*n+(c.toNat-48)) r:=by unfold dv;rw[List.foldl_cons]
theorem Qao(l:List UInt8):∀n,n*10 ^ l.length≤dv n l:=by
 induction l with
 | nil=>intro n;simp[Qh5]
 | cons c r ih=>
  intro n;have e:n*10 ^ (c::r).length=10*n*10 ^ r.length:=by rw[List.length_cons,Nat.pow_succ,Nat.mul_comm (10 ^ r.length) 10,←Nat.mul_assoc,Nat.mul_comm n 10]
  rw[e];have e2:dv n (c::r)=dv (10*n+(c.toNat-48)) r:=Q5f n c r;rw[e2];have h1:10*n≤10*n+(c.toNat-48):=Nat.le_add_right _ _;have h2:=Nat.mul_le_mul_right (10 ^ r.length) h1;exact Nat.le_trans h2 (ih _)
theorem Qeb(l:List UInt8):∀n,n≤1048576→Q2p n l=if dv n l≤1048576 then some (dv n l)else none:=by
 induction l with
 | nil=>intro n h;simp[Q2p,Qh5,h]
 | cons c r ih=>
  intro n h;have e:dv n (c::r)=dv (10*n+(c.toNat-48)) r:=Q5f n c r;rw[e,Q2p];by_cases hg:1048576<10*n+(c.toNat-48)
  ·have h1:=Qao r (10*n+(c.toNat-48))
   have h2:0<10 ^ r.length:=Nat.pow_pos (by omega);have h3:10*n+(c.toNat-48)≤(10*n+(c.toNat-48))*10 ^ r.length:=Nat.le_mul_of_pos_right _ h2;rw[if_pos hg,if_neg (by omega)]
  ·rw[if_neg hg];exact ih _ (by omega)
theorem Qhv(l:List UInt8):dv 0 (l.dropWhile (·==48))=dv 0 l:=by
 induction l with
 | nil=>rfl
 | cons c r ih=>
  by_cases h:c=48
  ·subst h;rw[List.dropWhile_cons_of_pos (by rfl),ih];rfl
  ·have:(c==(48:UInt8))=false:=by simpa using h
   simp[List.dropWhile,this]
theorem Qot{l:List UInt8}(hd:∀c∈l,Qe c.toNat=true)(h:7<(l.dropWhile (·==48)).length):1048576<dv 0 l:=by
 rw[←Qhv];match hm:l.dropWhile (·==48),h with
 | c::r,h=>
  have hne:¬ c=48:=by intro e;have:=List.head_dropWhile_not (p:=(·==(48:UInt8))) (l:=l) (by rw[hm];simp);simp[hm,e]at this
  have hmem:c∈l:=by
   have:c∈l.dropWhile (·==48):=by rw[hm];simp
   exact(List.dropWhile_sublist _).subset this
  have hdc:=hd c hmem;simp only[Qe,Bool.and_eq_true,decide_eq_true_eq]at hdc;have hn:¬ c.toNat=48:=fun e=>hne (UInt8.toNat_inj.1 e)
  have h1:=Qao r (10*0+(c.toNat-48));rw[Q5f];have h2:7≤r.length:=by simp at h;omega
  have h3:10 ^ 7≤10 ^ r.length:=Nat.pow_le_pow_right (by omega) h2;have h4:1*10 ^ r.length≤(10*0+(c.toNat-48))*10 ^ r.length:=Nat.mul_le_mul_right _ (by omega);omega
theorem Qw0(l:List UInt8)(hd:∀c∈l,Qe c.toNat=true):∀n,Lib.decFrom n l=some (dv n l):=by
 induction l with
 | nil=>intro n;rfl
 | cons c r ih=>
  intro n;have hdc:=hd c (by simp);simp only[Qe,Bool.and_eq_true,decide_eq_true_eq]at hdc;have:Lib.digitVal c=some (c.toNat-48):=by unfold Lib.digitVal;rw[if_pos (by omega)]
  rw[Lib.decFrom,this,Q5f];simp only;rw[ih (fun c h=>hd c (by simp[h])),Nat.mul_comm]
theorem Qu7(l:List UInt8)(hd:∀c∈l,Qe c.toNat=true):Lib.atoi (48::l)=some ((dv 0 l:Nat):Int):=by
 have h0:Lib.decNat (48::l)=some (dv 0 l):=by
  unfold Lib.decNat
  rw[if_neg (by simp),Qw0 _ (fun c h=>(List.mem_cons.1 h).elim (fun e=>by rw[e];rfl) (hd c))];rfl
 simp[Lib.atoi,h0]
theorem Qvq{l:List UInt8}(hd:∀c∈l,Qe c.toNat=true):∀c∈l.dropWhile (·==(48:UInt8)),Qe c.toNat=true:=fun c h=>hd c ((List.dropWhile_sublist _).subset h)
def Q5x(l:List UInt8):Bool:=decide (1048576<dv 0 l)
theorem Qfc(l:List UInt8):Q5x l=(Q2p 0 l).isNone:=by
 rw[Qeb l 0 (by omega),Q5x];split
 ·simp;omega
 ·simp;omega
theorem Qfk{p:Int→Bool}{l:List UInt8}(h:Q1 p l=l.length):∀c∈l,p c.toNat=true:=by
 induction l with
 | nil=>simp
 | cons c r ih=>
  simp only[Q1]at h;split at h
  ·rename_i hc
   intro x hx;rcases List.mem_cons.1 hx with rfl|hx
   ·exact hc
   ·exact ih (by simpa using h) x hx
  ·simp at h
theorem Qec(p:Int→Bool)(l:List UInt8):∀c∈l.take (Q1 p l),p c.toNat=true:=by
 induction l with
 | nil=>simp
 | cons c r ih=>
  simp only[Q1];split
  ·rename_i hc
   intro x hx;rcases List.mem_cons.1 (by simpa using hx)with rfl|hx
   ·exact hc
   ·exact ih x hx
  ·simp
theorem Q7y{p:Int→Bool}{l:List UInt8}:∀{n:Nat},n≤l.length→Q1 p (l.take n)=min n (Q1 p l):=by
 induction l with
 | nil=>intro n h;simp[Q1]
 | cons c r ih=>
  intro n h;cases n with
  | zero=>simp[Q1]
  | succ n=>
   simp only[List.take_succ_cons,Q1];split
   ·rw[ih (by simpa using h)];omega
   ·simp
def Q09:List (List UInt8):=[[60,61],[33,61],[59],[44],[58],[40],[41],[123],[125],[43],[45],[61],[60]]
def Q1i:List (List UInt8)→List UInt8→List UInt8
 | [],_=>[]
 | x::r,s=>if Lib.hasPrefix s x then x else Q1i r s
theorem Qis(a c:UInt8)(x r:List UInt8):Lib.hasPrefix (c::r) (a::x)=(a==c&&Lib.hasPrefix r x):=rfl
theorem Qhp(r:List UInt8):Lib.hasPrefix r []=true:=by cases r<;>rfl
theorem Qwf(a:UInt8)(x:List UInt8):Lib.hasPrefix [] (a::x)=false:=rfl
theorem Q7f(l:List UInt8):Q1i Q09 l=l.take (Q0v l):=by
 match l with
 | []=>decide
 | [c]=>
  simp only[Q1i,Q09,Qis,Qhp,Qwf,Bool.and_false,Bool.and_true,Q0v,Q1z];by_cases h1:c=59;· subst h1;decide
  by_cases h2:c=44;· subst h2;decide
  by_cases h3:c=58;· subst h3;decide
  by_cases h4:c=40;· subst h4;decide
  by_cases h5:c=41;· subst h5;decide
  by_cases h6:c=123;· subst h6;decide
  by_cases h7:c=125;· subst h7;decide
  by_cases h8:c=43;· subst h8;decide
  by_cases h9:c=45;· subst h9;decide
  by_cases h10:c=61;· subst h10;decide
  by_cases h11:c=60;· subst h11;decide
  simp[Ne.symm h1,Ne.symm h2,Ne.symm h3,Ne.symm h4,Ne.symm h5,Ne.symm h6,Ne.symm h7,Ne.symm h8,Ne.symm h9,Ne.symm h10,Ne.symm h11,h1,h2,h3,h4,h5,h6,h7,h8,h9,h10,h11]
 | c::d::r=>
  simp only[Q1i,Q09,Qis,Qhp,Bool.and_true,Q0v,Q1z];by_cases hd:d=61
  ·subst hd
   by_cases h11:c=60;· subst h11;simp
   by_cases h12:c=33;· subst h12;simp
   by_cases h1:c=59;· subst h1;simp
   by_cases h2:c=44;· subst h2;simp
   by_cases h3:c=58;· subst h3;simp
   by_cases h4:c=40;· subst h4;simp
   by_cases h5:c=41;· subst h5;simp
   by_cases h6:c=123;· subst h6;simp
   by_cases h7:c=125;· subst h7;simp
   by_cases h8:c=43;· subst h8;simp
   by_cases h9:c=45;· subst h9;simp
   by_cases h10:c=61;· subst h10;simp
   simp[Ne.symm h1,Ne.symm h2,Ne.symm h3,Ne.symm h4,Ne.symm h5,Ne.symm h6,Ne.symm h7,Ne.symm h8,Ne.symm h9,Ne.symm h10,Ne.symm h11,Ne.symm h12,h1,h2,h3,h4,h5,h6,h7,h8,h9,h10,h11,h12]
  ·by_cases h11:c=60;· subst h11;simp[hd,Ne.symm hd]
   by_cases h1:c=59;· subst h1;simp[hd]
   by_cases h2:c=44;· subst h2;simp[hd]
   by_cases h3:c=58;· subst h3;simp[hd]
   by_cases h4:c=40;· subst h4;simp[hd]
   by_cases h5:c=41;· subst h5;simp[hd]
   by_cases h6:c=123;· subst h6;simp[hd]
   by_cases h7:c=125;· subst h7;simp[hd]
   by_cases h8:c=43;· subst h8;simp[hd]
   by_cases h9:c=45;· subst h9;simp[hd]
   by_cases h10:c=61;· subst h10;simp[hd]
   simp[hd,Ne.symm hd,Ne.symm h1,Ne.symm h2,Ne.symm h3,Ne.symm h4,Ne.symm h5,Ne.symm h6,Ne.symm h7,Ne.symm h8,Ne.symm h9,Ne.symm h10,Ne.symm h11,h1,h2,h3,h4,h5,h6,h7,h8,h9,h10,h11]
theorem Q7t(l:List UInt8):∀b,skip false (l.drop (skip b l))=0:=by
 induction l with
 | nil=>intro b;simp[skip]
 | cons c r ih=>
  intro b;cases b
  ·simp only[skip]
   split
   ·exact ih true
   ·split
    ·exact ih false
    ·rename_i h1 h2;simp[skip,h1,h2]
  ·simp only[skip]
   split
   ·exact ih false
   ·exact ih true
theorem Q3r{l:List UInt8}{kind n:Nat}(h:tok l=.ok (kind,n)):0<n∧n≤l.length:=by have hw:=Q3c Q7 l;have hs:=Q7e l;unfold tok at h;(repeat' split at h)<;>simp at h<;>omega
theorem Qge(f:Nat):∀(g p:Nat) (l:List UInt8),l.length<f→l.length<g→Q0e f p l=Q0e g p l:=by
 induction f with
 | zero=>intro g p l h;omega
 | succ f ih=>
  intro g p l hf hg;cases g with
  | zero=>omega
  | succ g=>
   have hk:=Q4u false l;simp only[Q0e];split
   ·rfl
   ·rename_i c r hd
    have hlen:(c::r).length=l.length-skip false l:=by rw[←hd];simp
    cases ht:tok (c::r)with
    | error x=>rfl
    | ok x=>obtain⟨kind,n⟩:=x;have hp:=Q3r ht;simp only[];rw[ih g _ _ (by simp only[List.length_drop];omega) (by simp only[List.length_drop];omega)]
def Q1j(p:Nat)(l:List UInt8):Except (Nat×Nat) (List Tok):=Q0e (l.length+1) p l
def app(ts:List Tok):Except (Nat×Nat) (List Tok)→Except (Nat×Nat) (List Tok)
 | .ok us=>.ok (ts++us)
 | .error x=>.error x
theorem Qcd(a b:List Tok)(x:Except (Nat×Nat) (List Tok)):app a (app b x)=app (a++b) x:=by cases x<;>simp[app]
theorem Qi6(x:Except (Nat×Nat) (List Tok)):app [] x=x:=by cases x<;>rfl
theorem Q69(p:Nat)(l:List UInt8):Q1j p l=Q1j (p+skip false l) (l.drop (skip false l)):=by
 have hk:=Q4u false l;rw[Q1j,Q1j,Q0e,Q0e,Q7t];simp only[List.drop_zero,Nat.add_zero];split
 ·rfl
 ·rename_i c r hd
  have hlen:(c::r).length=l.length-skip false l:=by rw[←hd];simp
  cases ht:tok (c::r)with
  | error x=>rfl
  | ok x=>obtain⟨kind,n⟩:=x;have hp:=Q3r ht;simp only[];rw[Qge l.length (l.drop (skip false l)).length _ _ (by simp only[List.length_drop];omega) (by simp only[List.length_drop];omega)]
theorem Qbp(p:Nat):Q1j p []=.ok [⟨3,[],p⟩]:=by simp[Q1j,Q0e,skip]
theorem Qdk{p:Nat}{l:List UInt8}{d e:Nat}(h0:skip false l=0)(hl:l≠[])(ht:tok l=.error (d,e)):Q1j p l=.error (p+d,e):=by
 match l,hl with
 | c::r,_=>simp[Q1j,Q0e,h0,ht]
theorem Q9l{p:Nat}{l:List UInt8}{kind n:Nat}(h0:skip false l=0)(hl:l≠[])(ht:tok l=.ok (kind,n)):
  Q1j p l=app [⟨kind,l.take n,p⟩] (Q1j (p+n) (l.drop n)):=by
 match l,hl with
 | c::r,_=>
  have hp:=Q3r ht;have hle:(c::r).length<(c::r).length+1:=by omega
  rw[Q1j,Q1j,Q0e,h0];simp only[List.drop_zero,ht,Nat.add_zero];rw[Qge (c::r).length (((c::r).drop n).length+1) _ _ (by simp only[List.length_drop];omega) (by omega)];cases Q0e (((c::r).drop n).length+1) (p+n) ((c::r).drop n)<;>simp[app]
theorem Qbt{l:List UInt8}(h:l.length≤65536):scan l=Q1j 0 l:=by rw[scan,if_neg (by omega),Q1j]
def Q0b(l:List UInt8):Nat×Nat×Nat:=
 if Q1 Q0s l=0 then
  if Q1 Qe l<l.length then(0,Q1 Qe l,4)
  else if Q5x l then(0,0,2)
  else(1,0,0)
 else if 24<l.length then(0,0,8)
 else(0,0,0)
theorem Qob(l:List UInt8):(Q0b l).2.1≤l.length:=by have:=Q3c Qe l;unfold Q0b;(repeat' split)<;>simp<;>omega
theorem Qdr{l:List UInt8}(h:0<Q1 Q7 l):
  tok l=if(Q0b (l.take (Q1 Q7 l))).2.2=0 then .ok ((Q0b (l.take (Q1 Q7 l))).1,Q1 Q7 l)
   else .error ((Q0b (l.take (Q1 Q7 l))).2.1,(Q0b (l.take (Q1 Q7 l))).2.2):=by
 have hle:=Q3c Q7 l;have h1:=Q7y (p:=Q0s) (l:=l) hle;have h2:=Q7y (p:=Qe) (l:=l) hle;have h3:(l.take (Q1 Q7 l)).length=Q1 Q7 l:=by simp;omega
 by_cases a:Q1 Q0s l=0
 ·by_cases b:Q1 Qe l<Q1 Q7 l
  ·have hw:Q0b (l.take (Q1 Q7 l))=(0,Q1 Qe l,4):=by
    rw[Q0b,h1,h2,h3,if_pos (by omega),if_pos (by omega),Nat.min_eq_right (by omega)]
   rw[hw,tok,if_neg (by omega),if_pos a,if_pos b];rfl
  ·cases g:(Q2p 0 (l.take (Q1 Q7 l))).isNone
   ·have hw:Q0b (l.take (Q1 Q7 l))=(1,0,0):=by
     rw[Q0b,h1,h2,h3,if_pos (by omega),if_neg (by omega),Qfc,g];rfl
    rw[hw,tok,if_neg (by omega),if_pos a,if_neg b,g];rfl
   ·have hw:Q0b (l.take (Q1 Q7 l))=(0,0,2):=by
     rw[Q0b,h1,h2,h3,if_pos (by omega),if_neg (by omega),Qfc,g];rfl
    rw[hw,tok,if_neg (by omega),if_pos a,if_neg b,g];rfl
 ·by_cases b:24<Q1 Q7 l
  ·have hw:Q0b (l.take (Q1 Q7 l))=(0,0,8):=by
    rw[Q0b,h1,h3,if_neg (by omega),if_pos b]
   rw[hw,tok,if_neg (by omega),if_neg a,if_pos b];rfl
  ·have hw:Q0b (l.take (Q1 Q7 l))=(0,0,0):=by
    rw[Q0b,h1,h3,if_neg (by omega),if_neg b]
   rw[hw,tok,if_neg (by omega),if_neg a,if_neg b];rfl
theorem Qb0{l:List UInt8}(h:Q1 Q7 l=0):tok l=if(Q1i Q09 l)=[]then .error (0,4)else .ok (2,(Q1i Q09 l).length):=by
 have hs:=Q7e l;rw[Q7f];unfold tok;rw[if_pos h];by_cases h0:Q0v l=0
 ·simp[h0]
 ·rw[if_neg h0,if_neg]
  ·rw[List.length_take,Nat.min_eq_left hs]
  ·intro e
   have:=congrArg List.length e;rw[List.length_take,List.length_nil]at this;omega
section
inductive Syn where
 | mk (kind:Int) (text:List UInt8) (num:Int) (pos:Int) (kids:List Syn)
def Syn.kind:Syn→Int|.mk k _ _ _ _=>k
def Syn.text:Syn→List UInt8|.mk _ t _ _ _=>t
def Syn.num:Syn→Int|.mk _ _ n _ _=>n
def Syn.pos:Syn→Int|.mk _ _ _ p _=>p
def Syn.kids:Syn→List Syn|.mk _ _ _ _ l=>l
def Q3d:Syn:=.mk 0 [] 0 0 []
inductive Out (α:Type) where
 | none
 | err (pos:Int) (e:Nat)
 | ok (a:α) (i:Nat)
def Out.bind{α β:Type}(x:Out α)(f:α→Nat→Out β):Out β:=match x with|.none=>.none|.err p e=>.err p e|.ok a i=>f a i
def Out.map{α β:Type}(x:Out α)(f:α→β):Out β:=x.bind fun a i=>.ok (f a) i
theorem Out.bind_ok(o:Out Syn):o=o.bind fun x j=>.ok x j:=by cases o<;>rfl
theorem Out.bind_assoc{α β γ:Type}(o:Out α)(f:α→Nat→Out β)(g:β→Nat→Out γ):(o.bind f).bind g=o.bind fun a i=>(f a i).bind g:=by cases o<;>rfl
def Qe0:Tok:=⟨3,[],0⟩
def tk(T:List Tok)(i:Nat):Tok:=T.getD i Qe0
def isW(T:List Tok)(ws:List (List UInt8))(i:Nat):Bool:=(decide ((tk T i).kind=2)||decide ((tk T i).kind=0))&&ws.contains (tk T i).text
def nx(T:List Tok)(i:Nat):Nat:=if i+1<T.length then i+1 else i
def fail{α:Type}(T:List Tok)(e:Nat)(i:Nat):Out α:=.err (tk T i).pos e
def need(T:List Tok)(s:List UInt8)(i:Nat):Out Tok:=if isW T [s] i then .ok (tk T i) (nx T i)else fail T 4 i
section
variable (res:List UInt8→Bool) (T:List Tok)
def name(i:Nat):Out Syn:=if(tk T i).kind≠0∨res (tk T i).text=true then fail T 4 i else .ok (.mk 8 (tk T i).text 0 (tk T i).pos []) (nx T i)
def number(i:Nat):Out Syn:=if(tk T i).kind≠1 then fail T 4 i else .ok (.mk 9 [] (dv 0 (tk T i).text:Nat) (tk T i).pos []) (nx T i)
abbrev Rd:=Nat→Nat→Out Syn
def within(r:Rd):Rd:=fun lv i=>if 128<lv+1 then fail T 12 i else r (lv+1) i
def parens(r:Rd):Rd:=fun lv i=>(need T [40] i).bind fun _ i=>(within T r lv i).bind fun x i=>(need T [41] i).bind fun _ i=>.ok x i
def Q04:List Rd→Nat→Nat→Out (List Syn)
 | [],_,i=>.ok [] i
 | r::rs,lv,i=>(r lv i).bind fun x i=>(argsMore rs lv i).bind fun xs i=>.ok (x::xs) i
where
 argsMore:List Rd→Nat→Nat→Out (List Syn)
 | [],_,i=>.ok [] i
 | r::rs,lv,i=>(need T [44] i).bind fun _ i=>(r lv i).bind fun x i=>(argsMore rs lv i).bind fun xs i=>.ok (x::xs) i
def arguments(word:Tok)(rs:List Rd):Rd:=fun lv i=>(need T [40] i).bind fun _ i=>if 128<lv+1 then fail T 12 i else(Q04 T rs (lv+1) i).bind fun xs i=>(need T [41] i).bind fun _ i=>.ok (.mk 10 word.text 0 word.pos xs) i
def binary(op:List UInt8)(num:Int)(a b:Syn):Syn:=.mk 11 op num a.pos [a,b]
def Q1v(r:Rd)(ops:List (List UInt8))(lv:Nat):Nat→Syn→Nat→Out Syn
 | 0,_,_=>.none
 | g+1,x,i=>if isW T ops i then(r lv (nx T i)).bind fun y j=>Q1v r ops lv g (binary (tk T i).text 0 x y) j else .ok x i
def left(r:Rd)(ops:List (List UInt8)):Rd:=fun lv i=>(r lv i).bind fun x i=>Q1v T r ops lv (T.length+1) x i
inductive NT where
 | cond|conj|neg|sum|unit|scheme|term|factor|atom|formula|disj|meet|lit
deriving DecidableEq
def kNot:List UInt8:=[110,111,116]
def kOr:List UInt8:=[111,114]
def kAnd:List UInt8:=[97,110,100]
def Q1w:Nat→List Syn→Nat→Out (List Syn)
 | 0,_,_=>.none
 | g+1,xs,i=>if isW T [[44]] i then(number T (nx T i)).bind fun y j=>Q1w g (xs++[y]) j else .ok xs i
def setR(i:Nat):Out Syn:=
 if isW T [[101,118,101,114,121,111,110,101]] i then .ok (.mk 14 (tk T i).text 0 (tk T i).pos []) (nx T i)
 else(need T [123] i).bind fun _ j=>
  if isW T [[125]] j then .ok (.mk 14 [] 0 (tk T i).pos []) (nx T j)
  else(number T j).bind fun x j=>(Q1w T (T.length+1) [x] j).bind fun xs j=>(need T [125] j).bind fun _ j=>.ok (.mk 14 [] 0 (tk T i).pos xs) j
def notR(r:Rd):Rd:=fun lv i=>(within T r lv (nx T i)).bind fun x j=>.ok (.mk 12 [] 0 (tk T i).pos [x]) j
def rd:Nat→NT→Rd
 | 0,_=>fun _ _=>.none
 | f+1,.cond=>left T (rd f .conj) [kOr]
 | f+1,.conj=>left T (rd f .neg) [kAnd]
 | f+1,.neg=>fun lv i=>
  if isW T [kNot] i then notR T (rd f .neg) lv i
  else if isW T [[97,108,108],[115,111,109,101]] i then
   (name res T (nx T i)).bind fun v j=>(need T [58] j).bind fun _ j=>(within T (rd f .cond) lv j).bind fun x j=>.ok (.mk 13 (tk T i).text 0 (tk T i).pos [v,x]) j
  else(rd f .sum lv i).bind fun x j=>
   if isW T [[61],[33,61],[60],[60,61]] j then(rd f .sum lv (nx T j)).bind fun y l=>.ok (binary (tk T j).text 0 x y) l
   else .ok x j
 | f+1,.sum=>left T (rd f .unit) [[43],[45]]
 | f+1,.unit=>fun lv i=>
  if(tk T i).kind=1 then number T i
  else if isW T [[105,110],[111,117,116]] i then arguments T (tk T i) [rd f .sum] lv (nx T i)
  else if isW T [[104,101,97,114,115]] i then arguments T (tk T i) [rd f .sum,rd f .sum] lv (nx T i)
  else if isW T [[99,111,117,110,116]] i then
   (name res T (nx T i)).bind fun v j=>(parens T (rd f .cond) lv j).bind fun x j=>.ok (.mk 13 (tk T i).text 0 (tk T i).pos [v,x]) j
  else if isW T [[40]] i then parens T (rd f .cond) lv i
  else name res T i
 | f+1,.scheme=>left T (rd f .term) [kOr]
 | f+1,.term=>left T (rd f .factor) [kAnd]
 | f+1,.factor=>fun lv i=>(rd f .atom lv i).bind fun x j=>
  if isW T [[116,104,101,110]] j then(number T (nx T j)).bind fun n j=>(within T (rd f .factor) lv j).bind fun y j=>.ok (binary [116,104,101,110] n.num x y) j
  else .ok x j
 | f+1,.atom=>fun lv i=>
  if isW T [[99,114,97,115,104],[115,101,110,100],[114,101,99,101,105,118,101],[111,109,105,116],[112,97,114,116,105,116,105,111,110]] i then arguments T (tk T i) [fun _=>number T] lv (nx T i)
  else if isW T [[115,110,97,112,115,104,111,116]] i then .ok (.mk 10 (tk T i).text 0 (tk T i).pos []) (nx T i)
  else if isW T [[103,114,97,112,104,115]] i then arguments T (tk T i) [rd f .cond] lv (nx T i)
  else if isW T [[40]] i then parens T (rd f .scheme) lv i
  else name res T i
 | f+1,.formula=>fun lv i=>(rd f .disj lv i).bind fun x j=>
  if isW T [[117,110,116,105,108]] j then(within T (rd f .formula) lv (nx T j)).bind fun y j=>.ok (binary [117,110,116,105,108] 0 x y) j
  else .ok x j
 | f+1,.disj=>left T (rd f .meet) [kOr]
 | f+1,.meet=>left T (rd f .lit) [kAnd]
 | f+1,.lit=>fun lv i=>
  if isW T [kNot] i then notR T (rd f .lit) lv i
  else if isW T [[116,114,117,101]] i then .ok (.mk 10 (tk T i).text 0 (tk T i).pos []) (nx T i)
  else if isW T [[40]] i then parens T (rd f .formula) lv i
  else if isW T [[105,110,112,117,116],[104,101,97,114,100],[100,101,99,105,100,101,100]] i then arguments T (tk T i) [fun _=>number T,fun _=>number T] lv (nx T i)
  else if isW T [[103,105,118,101,110],[102,97,117,108,116,121],[97,116]] i then arguments T (tk T i) [fun _=>number T] lv (nx T i)
  else if isW T [[75]] i then arguments T (tk T i) [fun _=>number T,rd f .formula] lv (nx T i)
  else if isW T [[69],[68],[67]] i then arguments T (tk T i) [fun _=>setR T,rd f .formula] lv (nx T i)
  else if isW T [[110,101,120,116],[97,108,119,97,121,115],[101,118,101,110,116,117,97,108,108,121]] i then arguments T (tk T i) [rd f .formula] lv (nx T i)
  else fail T 4 i
def part(f:Nat)(kind:Int):Rd:=fun lv i=>(rd res T f .cond lv (nx T i)).bind fun x j=>.ok (.mk kind [] 0 (tk T i).pos [x]) j
def Q10(f:Nat)(w:List UInt8)(kind:Int)(xs:List Syn):Nat→Nat→Out (List Syn):=fun lv i=>if isW T [w] i then(part res T f kind lv i).bind fun x j=>.ok (xs++[x]) j else .ok xs i
def declaration(f:Nat):Rd:=fun lv i=>
 (if isW T [[116,97,115,107]] i then
  (name res T (nx T i)).bind fun nm j=>(need T [105,110,112,117,116,115] j).bind fun _ j=>(number T j).bind fun a j=>(need T [111,117,116,112,117,116,115] j).bind fun _ j=>
  (number T j).bind fun b j=>(Q10 res T f [119,104,101,114,101] 2 [b] lv j).bind fun xs j=>
  if isW T [[97,108,108,111,119]] j then(part res T f 3 lv j).bind fun y j=>(Q10 res T f [99,97,108,109] 4 (xs++[y]) lv j).bind fun ys j=>.ok (Syn.mk 1 nm.text a.num (tk T i).pos ys) j
  else fail T 4 j
 else if isW T [[97,100,118,101,114,115,97,114,121]] i then
  (name res T (nx T i)).bind fun nm j=>(need T [61] j).bind fun _ j=>(rd res T f .scheme lv j).bind fun x j=>.ok (Syn.mk 5 nm.text 0 (tk T i).pos [x]) j
 else if isW T [[102,111,114,109,117,108,97]] i then
  (name res T (nx T i)).bind fun nm j=>(need T [61] j).bind fun _ j=>(rd res T f .formula lv j).bind fun x j=>.ok (Syn.mk 6 nm.text 0 (tk T i).pos [x]) j
 else if isW T [[112,114,111,98,108,101,109]] i then
  (name res T (nx T i)).bind fun nm j=>(need T [61] j).bind fun _ j=>(name res T j).bind fun a j=>(need T [117,110,100,101,114] j).bind fun _ j=>(name res T j).bind fun b j=>
  (need T [114,111,117,110,100,115] j).bind fun _ j=>(number T j).bind fun n j=>.ok (Syn.mk 7 nm.text n.num (tk T i).pos [a,b]) j
 else fail T 4 i).bind fun x j=>(need T [59] j).bind fun _ j=>.ok x j
def Q2m(f:Nat)(lv:Nat):Nat→List Syn→Nat→Out (List Syn)
 | 0,_,_=>.none
 | g+1,xs,i=>if(tk T i).kind=3 then .ok xs i else(declaration res T f lv i).bind fun x j=>Q2m f lv g (xs++[x]) j
def program(f:Nat):Rd:=fun lv i=>
 (need T [112,114,111,99,101,115,115,101,115] i).bind fun t j=>(number T j).bind fun n j=>(need T [59] j).bind fun _ j=>
 (Q2m res T f lv (T.length+1) [] j).bind fun xs j=>.ok (.mk 0 [] n.num t.pos xs) j
def whole(r:Rd):Out Syn:=(r 0 0).bind fun x i=>if(tk T i).kind=3 then .ok x i else fail T 4 i
end
end
mutual
inductive Twin (P:Int→Int→Prop):Syn→Syn→Prop
 | mk {kd:Int} {tx:List UInt8} {n a b:Int} {k l:List Syn} (hp:P a b) (h:TwinL P k l):Twin P (.mk kd tx n a k) (.mk kd tx n b l)
inductive TwinL (P:Int→Int→Prop):List Syn→List Syn→Prop
 | nil:TwinL P [] []
 | cons {x y:Syn} {k l:List Syn} (h:Twin P x y) (hr:TwinL P k l):TwinL P (x::k) (y::l)
end
theorem TwinL.length{P:Int→Int→Prop}:∀{k l:List Syn},TwinL P k l→k.length=l.length
 | _,_,.nil=>rfl
 | _,_,.cons _ hr=>by rw[List.length_cons,List.length_cons,hr.length]
theorem TwinL.get{P:Int→Int→Prop}:∀{k l:List Syn},TwinL P k l→∀i (h:i<k.length) (h':i<l.length),Twin P k[i] l[i]
 | _,_,.nil,i,h,_=>absurd h (Nat.not_lt_zero _)
 | _,_,.cons hx hr,0,_,_=>hx
 | _,_,.cons hx hr,i+1,h,h'=>hr.get i (by simpa using h) (by simpa using h')
theorem TwinL.add{P:Int→Int→Prop}:∀{k l:List Syn},TwinL P k l→∀{x y:Syn},Twin P x y→TwinL P (k++[x]) (l++[y])
 | _,_,.nil,_,_,h=>.cons h .nil
 | _,_,.cons hx hr,_,_,h=>.cons hx (hr.add h)
mutual
theorem Twin.symm{P:Int→Int→Prop}:∀{x y:Syn},Twin P x y→Twin (fun a b=>P b a) y x
 | _,_,.mk hp h=>.mk hp (TwinL.symm h)
theorem TwinL.symm{P:Int→Int→Prop}:∀{k l:List Syn},TwinL P k l→TwinL (fun a b=>P b a) l k
 | _,_,.nil=>.nil
 | _,_,.cons h hr=>.cons (Twin.symm h) (TwinL.symm hr)
end
mutual
theorem Twin.trans{P Q R:Int→Int→Prop}(hPQ:∀a b c,P a b→Q b c→R a c):∀{x y z:Syn},Twin P x y→Twin Q y z→Twin R x z
 | _,_,_,.mk hp h,.mk hq h'=>.mk (hPQ _ _ _ hp hq) (TwinL.trans hPQ h h')
theorem TwinL.trans{P Q R:Int→Int→Prop}(hPQ:∀a b c,P a b→Q b c→R a c):∀{k l m:List Syn},TwinL P k l→TwinL Q l m→TwinL R k m
 | _,_,_,.nil,.nil=>.nil
 | _,_,_,.cons h hr,.cons h' hr'=>.cons (Twin.trans hPQ h h') (TwinL.trans hPQ hr hr')
end
def Q0o(kind:Int)(s:List UInt8):Bool:=
 if kind=3 then s.isEmpty
 else if kind=2 then decide (s∈Q09)
 else !s.isEmpty&&decide (Q1 Q7 s=s.length)&&decide ((Q0b s).2.2=0)&&decide (((Q0b s).1:Int)=kind)
def Q73(kind:Int):Bool:=decide (kind=0)||decide (kind=1)
def gap(p t:Tok):Bool:=(Q73 p.kind&&Q73 t.kind)||(decide (p.text=[60])&&decide (t.text=[61]))
def Q58(last:Bool)(t:Tok):Nat:=if t.kind<0∨3<t.kind then 1 else if Q0o t.kind t.text=false then 3 else if t.kind=3∧last=false then 14 else 0
def Q8l:List Tok→Nat
 | []=>0
 | t::r=>if Q58 r.isEmpty t=0 then Q8l r else Q58 r.isEmpty t
def Q5k:Option Tok→List Tok→List UInt8
 | _,[]=>[]
 | none,t::r=>t.text++Q5k (some t) r
 | some p,t::r=>(if gap p t then[32]else[])++(t.text++Q5k (some t) r)
end Go.Proofs.YtplbfmcgddnkeaaGreatDoor
namespace Go.Proofs.YtplbfmcgddnkeaaGreatDoor
open Tryz
open Go.RowKit
theorem Q7i(c:Int)(w:World):
  Calls prog 80 #[.int .u8 c] w fun e w'=>e=.returned (.bool (Q0s c))∧w'=w:=by
 go_enter func80,ntmps80;go_wp2
 all_goals (go_ret;refine⟨?_,rfl⟩;congr 2;simp only[Q0s];simp[*];try omega)
theorem Qe6(c:Int)(w:World):
  Calls prog 81 #[.int .u8 c] w fun e w'=>e=.returned (.bool (Qe c))∧w'=w:=by
 go_enter func81,ntmps81;go_wp2
 all_goals (go_ret;refine⟨?_,rfl⟩;refine Q3 ?_;simp only[Qe];try simp[*];try omega)
theorem Qnl(c:Int)(w:World):
  Calls prog 40 #[.int .u8 c] w fun e w'=>e=.returned (.bool (Q7 c))∧w'=w:=by
 cases hl:Q0s c
 ·go_enter func40,ntmps40
  go_wp2_with (first|(go_at_call 80;refine(Q7i _ _).mono ?_;rintro e w' ⟨rfl,rfl⟩)|(go_at_call 81;refine(Qe6 _ _).mono ?_;rintro e w' ⟨rfl,rfl⟩));all_goals (go_ret;refine⟨?_,rfl⟩;congr 2;simp[Q7,hl])
 ·go_enter func40,ntmps40
  go_wp2_with (first|(go_at_call 80;refine(Q7i _ _).mono ?_;rintro e w' ⟨rfl,rfl⟩)|(go_at_call 81;refine(Qe6 _ _).mono ?_;rintro e w' ⟨rfl,rfl⟩));all_goals (go_ret;refine⟨?_,rfl⟩;congr 2;simp[Q7,hl])
theorem Qve(c:Int)(w:World):
  Calls prog 79 #[.int .u8 c] w fun e w'=>e=.returned (.bool (Q2f c))∧w'=w:=by
 go_enter func79,ntmps79;go_wp2
 all_goals (go_ret;exact⟨rfl,rfl⟩)
theorem Qt0(c:Int)(w:World):
  Calls prog 77 #[.int .u8 c] w fun e w'=>e=.returned (.bool (Q0f c))∧w'=w:=by
 go_enter func77,ntmps77;go_wp2
 all_goals (go_ret;refine⟨Q3 ?_,rfl⟩;first|rfl|(simp only[Q0f];simp[*]))
theorem Qac(fn:Nat)(p:Int→Bool)(hc:∀args w,(callFunc fn args).run prog w=.ok (.enter fn args) w)
  (hp:∀(c:Int) w,Calls prog fn #[.int .u8 c] w fun e w'=>e=.returned (.bool (p c))∧w'=w) (s:List UInt8) (hs:s.length≤maxLen) (w:World):
  Calls prog 39 #[.string ⟨s.toArray⟩,.func (.func fn) #[] #[]] w fun e w'=>e=.returned (.int .i64 (Q1 p s))∧w'=w:=by
 unfold maxLen at hs;have HP:=qh hp;clear hp;go_enter func39,ntmps39;go_wp2_with fail;go_loop [8] (fun i=>∃k:Nat,k≤s.length∧i=.int .i64 k∧Hid (Q1 p s=k+Q1 p (s.drop k))) (fun i=>s.length-(intOf i).toNat)
 case atStart=>exact⟨0,Nat.zero_le _,rfl,show _=_ by simp⟩
 case round=>
  obtain⟨k,hk,rfl,hall⟩:=hrel;by_cases hlt:k<s.length
  ·cases hpk:p (s[k].toNat)
   ·go_wp2_with ((refine(HP.out _ _).mono ?_);rintro e w' ⟨rfl,rfl⟩)
    go_ret;exact⟨by rw[hall.out,Qct hlt hpk];rfl,rfl⟩
   ·go_wp2_with ((refine(HP.out _ _).mono ?_);rintro e w' ⟨rfl,rfl⟩)
    go_round
    case rel=>exact⟨k+1,by omega,by go_num,show _=_ by rw[hall.out,Qay hlt hpk];omega⟩
    case measure=>simp[intOf];omega
  ·go_wp2
   go_ret;exact⟨by rw[hall.out,List.drop_of_length_le (by omega)];simp[Q1];omega,rfl⟩
theorem Qch(s:List UInt8)(hs:s.length≤maxLen)(w:World):
  Calls prog 39 #[.string ⟨s.toArray⟩,.func (.func 77) #[] #[]] w fun e w'=>e=.returned (.int .i64 (Q1 Q0f s))∧w'=w:=
 Qac 77 Q0f (fun _ _=>by kernel_rfl) Qt0 s hs w
theorem Quu(s:List UInt8)(hs:s.length≤maxLen)(w:World):
  Calls prog 39 #[.string ⟨s.toArray⟩,.func (.func 79) #[] #[]] w fun e w'=>e=.returned (.int .i64 (Q1 Q2f s))∧w'=w:=
 Qac 79 Q2f (fun _ _=>by kernel_rfl) Qve s hs w
theorem Qia(s:List UInt8)(hs:s.length≤maxLen)(w:World):
  Calls prog 39 #[.string ⟨s.toArray⟩,.func (.func 81) #[] #[]] w fun e w'=>e=.returned (.int .i64 (Q1 Qe s))∧w'=w:=
 Qac 81 Qe (fun _ _=>by kernel_rfl) Qe6 s hs w
theorem Qe7(s:List UInt8)(hs:s.length≤maxLen)(w:World):
  Calls prog 39 #[.string ⟨s.toArray⟩,.func (.func 40) #[] #[]] w fun e w'=>e=.returned (.int .i64 (Q1 Q7 s))∧w'=w:=
 Qac 40 Q7 (fun _ _=>by kernel_rfl) Qnl s hs w
theorem Qnv(s p:List UInt8)(w:World)(hs:s.length≤maxLen):
  Calls prog 129 #[.string ⟨s.toArray⟩,.string ⟨p.toArray⟩] w fun e w'=>e=.returned (.bool (Lib.hasPrefix s p))∧w'=w:=by
 have hs:=hs;unfold maxLen at hs;by_cases h:p.length≤s.length
 ·go_enter func129,ntmps129
  go_wp2
  go_ret;exact⟨Q3 (by rw[←Lib.hasPrefix_of_take];simp[h]),rfl⟩
 ·go_enter func129,ntmps129
  go_wp2
  go_ret;exact⟨Q3 (by rw[←Lib.hasPrefix_of_take];simp[h]),rfl⟩
theorem Q9z(s p:List UInt8)(w:World)(hs:s.length≤maxLen):
  Calls prog 78 #[.string ⟨s.toArray⟩,.string ⟨p.toArray⟩] w fun e w'=>e=.returned (.bool (Lib.hasPrefix s p))∧w'=w:=by
 go_enter func78,ntmps78;go_wp2_with (go_at_call 129;refine(Qnv _ _ _ hs).mono ?_;rintro e w' ⟨rfl,rfl⟩);go_ret;exact⟨rfl,rfl⟩
theorem Qbw(s:List UInt8)(w:World)(hs:s.length≤1000000000):
  Calls prog 38 #[.string ⟨s.toArray⟩] w fun e w'=>e=.returned (.int .i64 (skip false s))∧w'=w:=by
 go_enter func38,ntmps38;go_wp2_with fail;go_loop [3] (fun i=>∃k:Nat,k≤s.length∧i=.int .i64 k∧Hid (skip false s=k+skip false (s.drop k))) (fun i=>s.length-(intOf i).toNat)
 case atStart=>exact⟨0,Nat.zero_le _,rfl,show _=_ by simp⟩
 case round=>
  obtain⟨k,hk,rfl,hall⟩:=hrel;have hl:=qh (show(s.drop k).length≤maxLen by simp[maxLen];omega);have b0:=Q3c Q0f (s.drop k);have b1:=Q3c Q2f (s.drop k);simp only[List.length_drop]at b0 b1;by_cases h0:Q1 Q0f (s.drop k)=0
  ·cases h1:Lib.hasPrefix (s.drop k) [35]
   ·have e1:=qh (Qn4 h1 h0)
    have h1:=qh h1;(go_wp2_with fail;(with_reducible refine(Qch _ hl.out _).mono ?_);rintro e w' ⟨rfl,rfl⟩)
    rw[h0];clear h0;(go_wp2_with fail;(with_reducible refine(Q9z _ _ _ hl.out).mono ?_);rintro e w' ⟨rfl,rfl⟩)
    rw[h1.out];go_wp2_with fail;go_ret;exact⟨Q2o (by rw[hall.out,e1.out];rfl),rfl⟩
   ·have e1:=qh (Qvu h1)
    have hpos:=Qu8 h1;have hb:((Q1 Q2f (List.drop k s):Int)==0)=false:=by rw[beq_eq_false_iff_ne];omega
    have h1:=qh h1;(go_wp2_with fail;(with_reducible refine(Qch _ hl.out _).mono ?_);rintro e w' ⟨rfl,rfl⟩)
    rw[h0];clear h0;(go_wp2_with fail;(with_reducible refine(Q9z _ _ _ hl.out).mono ?_);rintro e w' ⟨rfl,rfl⟩)
    rw[h1.out];(go_wp2_with fail;(with_reducible refine(Quu _ hl.out _).mono ?_);rintro e w' ⟨rfl,rfl⟩)
    go_wp2_with fail;go_round
    case rel=>exact⟨k+Q1 Q2f (s.drop k),by omega,by go_num,show _=_ by rw[hall.out,e1.out,List.drop_drop];omega⟩
    case measure=>simp[intOf];omega
  ·have e1:=qh (Qow (s.drop k))
   have hpos:0<Q1 Q0f (List.drop k s):=by omega
   have h0:((Q1 Q0f (List.drop k s):Int)==0)=false:=by simpa using h0
   (go_wp2_with fail;(with_reducible refine(Qch _ hl.out _).mono ?_);rintro e w' ⟨rfl,rfl⟩)
   go_wp2_with fail;go_round
   case rel=>exact⟨k+Q1 Q0f (s.drop k),by omega,by go_num,show _=_ by rw[hall.out,e1.out,List.drop_drop];omega⟩
   case measure=>simp[intOf];omega
def Q8k(k:Nat):List UInt8:=Q09.getD k []
def Qbz:Array Value:=(Q09.map fun l=>Value.string ⟨l.toArray⟩).toArray
def Q02(w:World):Prop:=∃t fr,w.heap[0]?=some (.cells Qbz t fr)
theorem Qqs(k:Nat)(h:k<13):∀w,(Instr.index 102 (.agg Qbz) (.int .i64 (k:Int))).run prog w=.ok (.string ⟨(Q8k k).toArray⟩) w:=by
 intro w;match k,h with
 | 0,_=>(show _=_;kernel_rfl)
 | 1,_=>(show _=_;kernel_rfl)
 | 2,_=>(show _=_;kernel_rfl)
 | 3,_=>(show _=_;kernel_rfl)
 | 4,_=>(show _=_;kernel_rfl)
 | 5,_=>(show _=_;kernel_rfl)
 | 6,_=>(show _=_;kernel_rfl)
 | 7,_=>(show _=_;kernel_rfl)
 | 8,_=>(show _=_;kernel_rfl)
 | 9,_=>(show _=_;kernel_rfl)
 | 10,_=>(show _=_;kernel_rfl)
 | 11,_=>(show _=_;kernel_rfl)
 | 12,_=>(show _=_;kernel_rfl)
theorem Qst{k:Nat}(h:k<13)(s:List UInt8):Q1i (Q09.drop k) s=if Lib.hasPrefix s (Q8k k)then Q8k k else Q1i (Q09.drop (k+1)) s:=by have hl:k<Q09.length:=h;rw[List.drop_eq_getElem_cons hl,Q1i];simp[Q8k,List.getD,hl]
theorem Quw(s:List UInt8)(w:World)(hs:s.length≤maxLen)(hg:Q02 w):
  Calls prog 42 #[.string ⟨s.toArray⟩] w fun e w'=>e=.returned (.string ⟨(Q1i Q09 s).toArray⟩)∧w'=w:=by
 have hs:=qh hs;obtain⟨t,fr,hg⟩:=hg;have HG:=qh hg;clear hg;go_enter func42,ntmps42;go_wp2_with (refine wpList_load_row rfl 102 _ rfl 0 rfl t _ fr _ HG.out underlying102 rfl (by kernel_rfl) ?_);go_loop [6] (fun i=>∃k:Nat,k≤13∧i=.int .i64 k∧Hid (Q1i Q09 s=Q1i (Q09.drop k) s)) (fun i=>13-(intOf i).toNat)
 case atStart=>exact⟨0,Nat.zero_le _,rfl,show _=_ from rfl⟩
 case round=>
  obtain⟨k,hk,rfl,hall⟩:=hrel;by_cases hlt:k<13
  ·have hidx:=Qqs k hlt
   have hst:=qh (Qst hlt s);cases hp:Lib.hasPrefix s (Q8k k)
   ·have hp:=qh hp
    (go_wp2_with fail;(with_reducible refine(Q9z _ _ _ hs.out).mono ?_);rintro e w' ⟨rfl,rfl⟩)
    rw[hp.out];go_wp2_with fail;go_round
    case rel=>exact⟨k+1,by omega,by go_num,show _=_ by rw[hall.out,hst.out,hp.out];rfl⟩
    case measure=>simp[intOf];omega
   ·have hp:=qh hp
    (go_wp2_with fail;(with_reducible refine(Q9z _ _ _ hs.out).mono ?_);rintro e w' ⟨rfl,rfl⟩)
    rw[hp.out];go_wp2_with fail;go_ret;exact⟨Q1h (by rw[hall.out,hst.out,hp.out];rfl),rfl⟩
  ·go_wp2_with fail
   go_ret;have:k=13:=by omega
   subst this;exact⟨Q1h (by rw[hall.out];rfl),rfl⟩
end Go.Proofs.YtplbfmcgddnkeaaGreatDoor
section
namespace Go.Proofs
open Go.Shelf
def Tryz.lays161_ren:Go.Shelf.Ren:=⟨fun|161=>130|231=>165|227=>166|233=>167|235=>168|228=>192|197=>193|151=>194|260=>208|152=>209|137=>217|119=>218|224=>219|225=>220|217=>222|266=>225|n=>n,fun|9=>9|4=>4|3=>3|5=>5|117=>145|116=>144|0=>0|124=>148|105=>165|21=>21|119=>184|46=>175|139=>194|138=>193|n=>n,fun|3=>5|4=>6|n=>n⟩
theorem Tryz.lays161:Go.Proofs.Lays.n161 prog Tryz.lays161_ren:=by constructor<;>repeat' first|kernel_rfl|(intro w;simp[go_sem,Tryz.lays161_ren];done)|decide|constructor
open Go.RowKit in
theorem Tryz.strings_TrimLeft_one(s:ByteArray)(c:UInt8)(hc:c.toNat<128)(w:World):
  Calls prog 130 #[.string s,.string ⟨#[c]⟩] w fun e w'=>e=.returned (.string ⟨(Lib.trimLeftB s.data.toList c).toArray⟩)∧w'=w:=Any.strings_TrimLeft_one Tryz.lays161 s c hc w
def Tryz.lays172_ren:Go.Shelf.Ren:=⟨fun|172=>122|244=>158|245=>159|247=>183|279=>184|280=>185|281=>186|282=>187|287=>204|316=>205|171=>54|205=>206|321=>215|322=>216|243=>100|246=>146|283=>177|284=>178|285=>179|286=>180|129=>199|317=>198|318=>200|319=>201|320=>202|337=>213|338=>214|n=>n,fun|9=>9|3=>3|75=>113|76=>114|4=>4|5=>5|167=>158|37=>73|0=>0|85=>159|2=>2|168=>161|53=>153|175=>177|46=>175|210=>180|127=>125|145=>191|143=>189|21=>21|171=>152|173=>156|212=>172|51=>173|20=>20|213=>174|232=>202|233=>203|80=>86|n=>n,fun|15=>2|16=>3|17=>1|18=>8|19=>9|n=>n⟩
theorem Tryz.lays172:Go.Proofs.Lays.n172 prog Tryz.lays172_ren:=by constructor<;>repeat' first|kernel_rfl|(intro w;simp[go_sem,Tryz.lays172_ren];done)|decide|constructor
open Go.RowKit in
theorem Tryz.strconv_Atoi(s:ByteArray)(n:Int)(hl:s.size≤18)(h:Lib.atoi s.data.toList=some n)(w:World):
  Calls prog 122 #[.string s] w fun e w'=>e=.returned (.tuple #[.int .i64 n,.nilIface])∧∃t,w'=Lib.bytesWorld w 5 t:=Any.strconv_Atoi Tryz.lays172 s n hl h w
def Tryz.laysM171_ren:Go.Shelf.Ren:=⟨fun|171=>54|243=>100|246=>146|283=>177|284=>178|285=>179|286=>180|129=>199|317=>198|318=>200|319=>201|320=>202|337=>213|338=>214|n=>n,fun|3=>3|9=>9|2=>2|4=>4|171=>152|0=>0|53=>153|37=>73|5=>5|173=>156|212=>172|51=>173|20=>20|213=>174|46=>175|232=>202|233=>203|n=>n,fun|17=>1|18=>8|19=>9|n=>n⟩
theorem Tryz.laysM171:Go.Proofs.LaysM.n171 prog Tryz.laysM171_ren:=by constructor<;>repeat' first|kernel_rfl|(intro w;simp[go_sem,Tryz.laysM171_ren];done)|decide|constructor
open Go.RowKit Go.Sort Go.Lib in
theorem Tryz.strconv_Itoa(n:Int)(h0:-9223372036854775808≤n)(h1:n≤9223372036854775807)(w:World)(htab:Lib.TabIs prog w "internal/strconv.uint64pow10" .u64 Lib.pow10Tab):
  Calls prog 54 #[.int .i64 n] w fun e w'=>e=.returned (.string ⟨(Lib.itoa n).toArray⟩)∧∃k os,w'=grow (w.drewN k) os:=Any.strconv_Itoa Tryz.laysM171 n h0 h1 w htab
def Tryz.laysC172_ren:Go.Shelf.Ren:=⟨fun|172=>122|244=>158|245=>159|247=>183|279=>184|280=>185|281=>186|282=>187|287=>204|316=>205|171=>54|205=>206|321=>215|322=>216|243=>100|246=>146|283=>177|284=>178|285=>179|286=>180|129=>199|317=>198|318=>200|319=>201|320=>202|337=>213|338=>214|n=>n,fun|9=>9|3=>3|75=>113|76=>114|4=>4|5=>5|167=>158|37=>73|0=>0|85=>159|2=>2|168=>161|53=>153|175=>177|46=>175|210=>180|127=>125|145=>191|143=>189|21=>21|171=>152|173=>156|212=>172|51=>173|20=>20|213=>174|232=>202|233=>203|80=>86|n=>n,fun|15=>2|16=>3|17=>1|18=>8|19=>9|n=>n⟩
theorem Tryz.laysC172:Go.Proofs.LaysC.n172 prog Tryz.laysC172_ren:=by constructor<;>repeat' first|kernel_rfl|(intro w;simp[go_sem,Tryz.laysC172_ren];done)|decide|constructor
open Go.RowKit in
theorem Tryz.strconv_Atoi_ok(s:ByteArray)(hmax:s.size≤9223372036854775806)(v:Int)(h:Lib.atoiAll s.data.toList=.ok v)(w:World):
  Calls prog 122 #[.string s] w fun e w'=>e=.returned (.tuple #[.int .i64 v,.nilIface])∧(w'=w∨∃t,w'=Lib.bytesWorld w 5 t):=Any.strconv_Atoi_ok Tryz.laysC172 s hmax v h w
def Tryz.lays157_ren:Go.Shelf.Ren:=⟨fun|157=>197|229=>211|199=>212|261=>221|311=>223|312=>224|n=>n,fun|9=>9|31=>111|3=>3|5=>5|4=>4|119=>184|0=>0|40=>186|152=>197|21=>21|154=>199|51=>173|141=>201|196=>207|193=>204|198=>210|49=>208|194=>205|201=>213|226=>215|46=>175|227=>216|n=>n,fun|0=>4|6=>7|n=>n⟩
theorem Tryz.lays157:Go.Proofs.Lays.n157 prog Tryz.lays157_ren:=by constructor<;>repeat' first|kernel_rfl|(intro w;simp[go_sem,Tryz.lays157_ren];done)|decide|constructor
open Go.RowKit Go.Lib in
theorem Tryz.strings_Fields(s:ByteArray)(w:World)(hs:s.size<4294967281)(hascii:∀(j:Nat) b,s.data.toList[j]?=some b→b.toNat<128)(htab:Lib.TabIs prog w "strings.asciiSpace" .u8 Lib.asciiSpaceTab):
  Calls prog 197 #[.string s] w fun e w'=>e=.returned (.slice (some ⟨w.heap.size,0,none⟩) (Lib.fields s.data.toList).length (Lib.fields s.data.toList).length)∧w'=w.alloc (.cells ((Lib.fields s.data.toList).map fun l=>Value.string ⟨l.toArray⟩).toArray 9):=Any.strings_Fields Tryz.lays157 (by kernel_rfl) (by kernel_rfl) s w hs hascii htab
def Tryz.lays110_ren:Go.Shelf.Ren:=⟨fun|110=>128|109=>164|n=>n,fun|31=>111|9=>9|4=>4|3=>3|0=>0|n=>n,fun|n=>n⟩
theorem Tryz.lays110:Go.Proofs.Lays.n110 prog Tryz.lays110_ren:=by constructor<;>repeat' first|kernel_rfl|(intro w;simp[go_sem,Tryz.lays110_ren];done)|decide|constructor
open Go.Lib in
theorem Tryz.slices_Contains_string(b off n c:Nat)(zs:List ByteArray)(x:ByteArray)(w:World)(hz:n≤zs.length)(hbig:n≤9223372036854775807)(hc:∀j,j<zs.length→w.cell? ⟨b,off+j,none⟩=some (.string (zs.getD j ByteArray.empty))):
  Calls prog 128 #[.slice (some ⟨b,off,none⟩) n c,.string x] w fun e w'=>e=.returned (.bool (Lib.containsS (zs.take n) x))∧w'=w:=Any.slices_Contains_string Tryz.lays110 b off n c zs x w hz hbig hc
end Go.Proofs
end
namespace Go.Proofs.YtplbfmcgddnkeaaGreatDoor
open Tryz
open Go.RowKit
theorem Qhn(w:World)(e:TypeId)(s:ByteArray):Below w.heap.size w (Lib.bytesWorld w e s):=by
 unfold Lib.bytesWorld World.freeze;split
 ·exact(Below.refl _ _).drew.alloc (Nat.le_refl _) _
 ·have h:=((Below.refl w.heap.size w).drew.alloc (Nat.le_refl _) (.cells (Lib.bytesCells w e s) e))
  refine h.trans ⟨rfl,rfl,rfl,by simp,fun k hk=>?_⟩;simp only[Array.getElem?_modify];rw[if_neg (by omega)]
theorem Qol(l:List UInt8)(w:World)(hl:l.length≤1000000000)(hd:∀c∈l,Qe c.toNat=true):
  Calls prog 82 #[.string ⟨l.toArray⟩] w fun e w'=>e=.returned (.bool (Q5x l))∧Below w.heap.size w w':=by
 have hl:=hl;have h1:=Tryz.strings_TrimLeft_one ⟨l.toArray⟩ 48 (by decide) w;have H1:Hid (Calls prog 130 #[.string ⟨l.toArray⟩,.string ⟨#[48]⟩] w fun e w'=>e=.returned (.string ⟨(l.dropWhile (·==(48:UInt8))).toArray⟩)∧w'=w):=h1;clear h1;by_cases hg:7<(l.dropWhile (·==(48:UInt8))).length
 ·have hr:=qh (Qot hd hg)
  have hle:=(List.dropWhile_sublist (p:=(·==(48:UInt8))) (l:=l)).length_le;clear hd;generalize l.dropWhile (·==(48:UInt8))=m at *;go_enter func82,ntmps82;(go_wp2_with fail;(with_reducible refine(H1.out).mono ?_);rintro e w' ⟨rfl,rfl⟩)
  go_wp2_with fail;go_ret;exact⟨Q3 (by simp[Q5x,hr.out]),Below.refl _ _⟩
 ·have ha:=Qu7 _ (Qvq hd)
  rw[Qhv]at ha;have hv:dv 0 l≤dv 0 l:=Nat.le_refl _;clear hd;generalize l.dropWhile (·==(48:UInt8))=m at *;generalize hn:dv 0 l=n at *;have HA:=qh (Tryz.strconv_Atoi ⟨(48::m).toArray⟩ n (by rw[Q7o];simp;omega) ha w);have hn:=qh hn;clear ha;go_enter func82,ntmps82;(go_wp2_with fail;(with_reducible refine(H1.out).mono ?_);rintro e w' ⟨rfl,rfl⟩)
  go_wp2_with fail;(with_reducible refine(HA.out).mono ?_);rintro e w'' ⟨rfl,t,rfl⟩
  go_wp2_with fail;go_ret;exact⟨Q3 (by simp[Q5x,hn.out];omega),Qhn _ _ _⟩
def Q55(l:List UInt8):Value:=.tuple #[.int .i64 (Q0b l).1,.int .i64 (Q0b l).2.1,.int .i64 (Q0b l).2.2]
theorem Qf4{p:Int→Bool}{c:UInt8}{r:List UInt8}:(Q1 p (c::r)=0)=(p c.toNat=false):=by simp only[Q1];cases p c.toNat<;>simp
theorem Qei(c:UInt8)(r:List UInt8)(w:World)(hl:(c::r).length≤1000000000):
  Calls prog 41 #[.string ⟨(c::r).toArray⟩] w fun e w'=>e=.returned (Q55 (c::r))∧Below w.heap.size w w':=by
 have hm:=qh (show(c::r).length≤maxLen by simp only[maxLen];omega);cases hc:Q0s c.toNat
 ·have h0:Q1 Q0s (c::r)=0:=by rw[Qf4];exact hc
  have hw:Q0b (c::r)=if Q1 Qe (c::r)<(c::r).length then(0,Q1 Qe (c::r),4)else if Q5x (c::r)then(0,0,2)else(1,0,0):=by rw[Q0b,if_pos h0]
  have hle:=Q3c Qe (c::r);have hc:=qh hc;clear h0;by_cases hd:Q1 Qe (c::r)<(c::r).length
  ·rw[if_pos hd]at hw
   have hw:=qh hw;have hd':(Q1 Qe (c::r):Int)<(c::r).length:=by omega
   simp only[List.length_cons]at hd hle hd' hl;go_enter func41,ntmps41;(go_wp2_with fail;(with_reducible refine(Q7i _ _).mono ?_);rintro e w' ⟨rfl,rfl⟩)
   rw[hc.out];(go_wp2_with fail;(with_reducible refine(Qia _ hm.out _).mono ?_);rintro e w' ⟨rfl,rfl⟩)
   go_wp2_with fail;go_ret3
   exact⟨by rw[Q55,hw.out];rfl,Below.refl _ _⟩
  ·have hall:=qh (Qfk (show Q1 Qe (c::r)=(c::r).length by omega))
   have hle':(c::r).length≤Q1 Qe (c::r):=by omega
   rw[if_neg hd]at hw;have hlen:=qh hl;simp only[List.length_cons]at hd hle hl hle';cases hg:Q5x (c::r);all_goals
    rw[hg]at hw;have hw:=qh hw;have hg:=qh hg;go_enter func41,ntmps41;(go_wp2_with fail;(with_reducible refine(Q7i _ _).mono ?_);rintro e w' ⟨rfl,rfl⟩)
    rw[hc.out];(go_wp2_with fail;(with_reducible refine(Qia _ hm.out _).mono ?_);rintro e w' ⟨rfl,rfl⟩)
    go_wp2_with fail;(with_reducible refine(Qol (c::r) _ hlen.out hall.out).mono ?_)
    rintro e w1 ⟨rfl,hb⟩;rw[hg.out];go_wp2_with fail;go_ret3
    exact⟨by rw[Q55,hw.out];rfl,hb⟩
 ·have h0:¬ Q1 Q0s (c::r)=0:=by rw[Qf4];simp[hc]
  have hw:Q0b (c::r)=if 24<(c::r).length then(0,0,8)else(0,0,0):=by rw[Q0b,if_neg h0]
  have hc:=qh hc;clear h0;by_cases hd:24<(c::r).length
  ·rw[if_pos hd]at hw
   have hw:=qh hw;simp only[List.length_cons]at hd hl;go_enter func41,ntmps41;(go_wp2_with fail;(with_reducible refine(Q7i _ _).mono ?_);rintro e w' ⟨rfl,rfl⟩)
   rw[hc.out];go_wp2_with fail;go_ret3
   exact⟨by rw[Q55,hw.out];rfl,Below.refl _ _⟩
  ·rw[if_neg hd]at hw
   have hw:=qh hw;simp only[List.length_cons]at hd hl;go_enter func41,ntmps41;(go_wp2_with fail;(with_reducible refine(Q7i _ _).mono ?_);rintro e w' ⟨rfl,rfl⟩)
   rw[hc.out];go_wp2_with fail;go_ret3
   exact⟨by rw[Q55,hw.out];rfl,Below.refl _ _⟩
theorem bcell{W w1:World}(hb:Below W.heap.size W w1):(∀b o,b<W.heap.size→w1.cell? ⟨b,o,none⟩=W.cell? ⟨b,o,none⟩)∧(∀b o,b<W.heap.size→w1.frozen? ⟨b,o,none⟩=W.frozen? ⟨b,o,none⟩):=⟨fun b o h=>hb.cell (p:=⟨b,o,none⟩) h,fun b o h=>hb.frozen (p:=⟨b,o,none⟩) h⟩
theorem Q6c{B:Nat}{a w:World}(h:Below B a w)(n:Nat):Below B a (w.drewN n):=h.trans ⟨rfl,rfl,rfl,Nat.le_refl _,fun _ _=>rfl⟩
theorem Qhq:(prog.info? 45).map (fun i=>(i.zero,i.size,i.bytes))=some (some (.agg #[.int .i64 0,.string ByteArray.empty,.int .i64 0]),3,32):=by kernel_rfl
def Q2e:List Tok→List Value
 | []=>[]
 | t::r=>.int .i64 t.kind::.string ⟨t.text.toArray⟩::.int .i64 t.pos::Q2e r
theorem Q89(a b:List Tok):Q2e (a++b)=Q2e a++Q2e b:=by
 induction a with
 | nil=>rfl
 | cons t r ih=>simp[Q2e,ih]
theorem Q02.below{w w':World}{B:Nat}(h:Q02 w)(hb:Below B w w')(hB:0<B):Q02 w':=by obtain⟨t,fr,h⟩:=h;exact⟨t,fr,by rw[hb.block _ hB];exact h⟩
def Qh1(w:World)(r:Except (Nat×Nat) (List Tok))(e:Ending)(w':World):Prop:=
 Below w.heap.size w w'∧match r with
 | .error (d,x)=>e=.returned (.tuple #[.slice none 0 0,.int .i64 d,.int .i64 x])
 | .ok ts=>∃v,e=.returned (.tuple #[v,.int .i64 0,.int .i64 0])∧w'.ownsRow w.heap.size 45 3 v ts.length (Q2e ts)
theorem news3(w:World)(a b c:Value)(T:TypeId):∀j u,[a,b,c][j]?=some u→(w.alloc (.cells #[a,b,c] T)).cell? ((⟨w.heap.size,0,none⟩:Addr).add j)=some u:=by
 intro j u h;have:(⟨w.heap.size,0,none⟩:Addr).add j=⟨w.heap.size,j,none⟩:=by unfold Addr.add;split<;>simp_all
 rw[this,World.cell?,heap_alloc_new];simpa using h
theorem one3(k p:Int)(s:ByteArray):∀u∈[Value.int .i64 k,.string s,.int .i64 p],u.oneCell'=true:=by intro u h;simp at h;rcases h with rfl|rfl|rfl<;>rfl
theorem Qvs{w w':World}{B e size n:Nat}{v:Value}{xs:List Value}(h:w.ownsRow B e size v n xs)(hb:Below w.heap.size w w'):w'.ownsRow B e size v n xs:=h.kept (row:=none) ⟨hb.os,hb.tape,hb.output,hb.size,fun k hk _=>hb.block k hk⟩ (by cases hv:v.ownBlock<;>simp)
theorem Qs6{w:World}{B e size n b o:Nat}{v:Value}{xs:List Value}(h:w.ownsRow B e size v n xs)(hne:v.ownBlock≠some b)(x:Value):(w.setCell ⟨b,o,none⟩ x).ownsRow B e size v n xs:=h.kept (row:=some b) ⟨rfl,rfl,rfl,by simp[World.setCell],fun k _ hk=>Below.heap_setCell _ _ _ _ (fun e=>hk (by simp[e]))⟩ (Or.inr hne)
theorem Qs5(l:List UInt8)(h:l≠[])(w:World)(hl:l.length≤1000000000):
  Calls prog 41 #[.string ⟨l.toArray⟩] w fun e w'=>e=.returned (Q55 l)∧Below w.heap.size w w':=by
 match l,h with
 | c::r,_=>exact Qei c r w hl
theorem Qji(s:List UInt8)(w:World)(hs:s.length≤1000000)(hg:Q02 w)(hg0:0<w.heap.size):
  Calls prog 23 #[.string ⟨s.toArray⟩] w (Qh1 w (scan s)):=by
 by_cases hlong:65536<s.length
 ·have hr:Hid (scan s=.error (0,13)):=show _=_ by rw[scan,if_pos hlong]
  go_enter func23,ntmps23;go_wp2_with fail;go_ret3
  rw[hr.out];exact⟨Below.refl _ _,rfl⟩
 ·have hle:s.length≤65536:=by omega
  have hr:=qh (Qbt hle);obtain⟨i0,hi,hz0,hz1,hz2⟩:=info_parts Qhq;have HG:=qh hg;have HI:=qh hi;have HZ:=qh (And.intro hz0 (And.intro hz1 hz2));clear hg hi hz0 hz1 hz2 hlong;have hsk:=Q4u false s;go_enter func23,ntmps23;go_wp2_with fail;(with_reducible refine(Qbw _ _ (by omega)).mono ?_);rintro e w' ⟨rfl,rfl⟩
  go_wp2_with fail;obtain⟨w0,hw0⟩:∃w0:World,w0=w':=⟨_,rfl⟩;replace hw0:=qh hw0;go_loopw [5,6] (fun v i wr=>∃k:Nat,∃ts:List Tok,k≤s.length∧i=.int .i64 k∧wr.ownsRow w'.heap.size 45 3 v ts.length (Q2e ts)∧ts.length≤k∧Below w'.heap.size w' wr∧Q02 wr∧Hid (skip false (s.drop k)=0∧Q1j 0 s=app ts (Q1j k (s.drop k)))) (fun _ i _=>s.length-(intOf i).toNat)
  case atStart=>exact⟨skip false s,[],hsk,rfl,World.ownsRow_nil _ _ _ _,by simp,Below.refl _ _,HG.out,Q7t s false,by rw[Qi6,Q69];simp⟩
  case round=>
   obtain⟨k,ts,hk,rfl,hown,hts,hb,hsg,hall⟩:=hrel;by_cases hlt:k<s.length
   ·by_cases hw:Q1 Q7 (s.drop k)=0
    ·have htok:=qh (Qb0 hw)
     have hm:=qh (show(s.drop k).length≤maxLen by simp[maxLen];omega);have hrun:=fun W=>Qe7 (s.drop k) hm.out W
     rw[hw]at hrun;replace hrun:=qh hrun;have hne':Hid (s.drop k≠[]):=by intro e;have:=congrArg List.length e;simp at this;omega
     have hsl:=Q7e (s.drop k);have hfp:=Q7f (s.drop k);have hsd:=qh (fun W=>Quw (s.drop k) W hm.out);have hlen:(Q1i Q09 (s.drop k)).length=Q0v (s.drop k):=by rw[hfp,List.length_take];omega
     have hfl:Hid (Q1i Q09 (s.drop k)=(s.drop k).take (Q1i Q09 (s.drop k)).length):=show _=_ by rw[hlen];exact hfp
     have hkn:k+(Q1i Q09 (s.drop k)).length≤s.length:=by simp only[List.length_drop]at hsl;omega
     clear hw hfp hsl hlen;have hsg2:∀o,Q02 (wr.alloc o):=fun o=>hsg.below ((Below.refl _ _).alloc (Nat.le_refl _) o) (by have:=hb.size;omega)
     generalize Q1i Q09 (s.drop k)=sg at *;cases sg with
     | nil=>
      have hto:Hid (scan s=.error (k,4)):=show _=_ by have h1:=htok.out;simp only[if_true]at h1;rw[hr.out,hall.out.2,Qdk hall.out.1 hne'.out h1];rfl
      replace hsg2:=qh hsg2;go_wp2_with fail;(with_reducible refine(hrun.out _).mono ?_);rintro e w1 ⟨rfl,rfl⟩
      go_wp2_with fail;(with_reducible refine(hsd.out _ (hsg2.out _)).mono ?_);rintro e w1 ⟨rfl,rfl⟩
      go_wp2_with fail;go_ret3
      rw[hto.out];exact⟨hb.alloc hb.size _,rfl⟩
     | cons c0 r0=>
      replace hsg2:=qh hsg2;have hlp:0<(c0::r0).length:=by simp
      generalize hn:(c0::r0).length=n at *;have hlen:Hid ((c0::r0).length=n):=hn;replace hn:=qh hn;have hto:Hid (scan s=app (ts++[⟨2,c0::r0,k⟩]) (Q1j (k+n) (s.drop (k+n)))):=show _=_ by have h1:=htok.out;rw[if_neg (by simp)]at h1;rw[hr.out,hall.out.2,Q9l hall.out.1 hne'.out h1,Qcd,List.drop_drop,←hfl.out];rfl
      obtain⟨hz0,hz1,hz2⟩:=HZ.out;have hi:=HI.out;go_wp2_with fail;(with_reducible refine(hrun.out _).mono ?_);rintro e w1 ⟨rfl,rfl⟩
      go_wp2_with fail;(with_reducible refine(hsd.out _ (hsg2.out _)).mono ?_);rintro e w1 ⟨rfl,rfl⟩
      have hneB:Hid (u5.ownBlock≠some wr.heap.size):=by intro e;have:=hown.lt _ e;omega
      have hown2:=qh (fun(o o':Obj)=>(hown.alloc o).alloc o');go_wp2_with (at_builtin;refine wpList_append_own _ rfl _ _ 39 rfl w'.heap.size 45 i0 _ 3 32 underlying39 hi hz0 hz1 hz2 rfl (by decide) _ _ _ rfl (hown2.out _ _) ⟨wr.heap.size+1,0,none⟩ 1 1 [.int .i64 2,.string ⟨(c0::r0).toArray⟩,.int .i64 k] rfl rfl ?c1 ?c2 ?c3 ?c4 ?c5 ?_)
      case c1=>have h:=news3 (wr.alloc (Obj.cells #[.int .i64 2,.string ⟨(c0::r0).toArray⟩,.int .i64 k] 45)) (.int .i64 2) (.string ⟨(c0::r0).toArray⟩) (.int .i64 k) 45;rw[World.size_alloc]at h;exact h
      case c2=>exact one3 _ _ _
      case c3=>unfold maxLen;omega
      case c4=>omega
      case c5=>have:=hb.size;simp;omega
      intro v' w3 hown' hgrow _;have c3:w3.cell? ⟨wr.heap.size,1,none⟩=some (.string ⟨(c0::r0).toArray⟩):=hgrow.cell (by simp[go_sem]) (Ne.symm hneB.out);have hsm:=Q4u false (s.drop (k+n));have hlen1:=hlen.out;simp only[List.length_cons]at hlen1;have hlen2:((r0.length:Int)+1)=n:=by omega
      clear hlen1;simp only[List.length_drop]at hsm;replace hown':=qh hown';have hB3:=qh ((hb.alloc hb.size (Obj.cells #[.int .i64 2,.string ⟨(c0::r0).toArray⟩,.int .i64 k] 45)).alloc (by have:=hb.size;simp;omega) (Obj.cells #[.int .i64 2,.string ⟨(c0::r0).toArray⟩,.int .i64 k] 45) |>.grown hgrow (by have:=hb.size;simp;omega) (fun g hg=>(hown.lt g hg).1));clear hgrow;go_wp2_with fail;(with_reducible refine(Qbw _ _ (by simp only[List.length_drop];omega)).mono ?_);rintro e w1 ⟨rfl,rfl⟩
      go_wp2_with fail;go_roundw
      case rel=>exact⟨k+n+skip false (s.drop (k+n)),ts++[⟨2,c0::r0,k⟩],by omega,by go_num,by rw[Q89,List.length_append];exact hown'.out,by simp;omega,hB3.out,HG.out.below hB3.out hg0,by have h:=Q7t (s.drop (k+n)) false;rwa[List.drop_drop]at h,by rw[←hr.out,hto.out,Q69,List.drop_drop]⟩
      case measure=>simp[intOf];omega
    ·have hwle:=Q3c Q7 (s.drop k)
     have hwpos:0<Q1 Q7 (s.drop k):=by omega
     have htok:=qh (Qdr hwpos);have hm:=qh (show(s.drop k).length≤maxLen by simp[maxLen];omega);have hrun:=qh (fun W=>Qe7 (s.drop k) hm.out W);have hne:s.drop k≠[]:=by intro e;have:=congrArg List.length e;simp at this;omega
     have hlen:(List.take (Q1 Q7 (s.drop k)) (s.drop k)).length=Q1 Q7 (s.drop k):=by rw[List.length_take];omega
     have hall:=hall;generalize hn:Q1 Q7 (s.drop k)=n at *;generalize htx:List.take n (s.drop k)=txt at *;have hdr:Hid (List.drop n (s.drop k)=s.drop (k+n)):=show _=_ by rw[List.drop_drop]
     have hkn:k+n≤s.length:=by simp only[List.length_drop]at hwle;omega
     have hne':Hid (s.drop k≠[]):=hne;have hwd:=qh (fun W=>Qs5 txt (by intro e;rw[e]at hlen;simp at hlen;omega) W (by omega));replace hlen:=qh hlen;replace hn:=qh hn;clear hw hwle hne;generalize hwr:Q0b txt=res at *;have hpl:=Qob txt;rw[hwr,hlen.out]at hpl;obtain⟨kd,pl,er⟩:=res;replace hpl:pl≤n:=hpl;have hwv:Hid (Q55 txt=.tuple #[.int .i64 kd,.int .i64 pl,.int .i64 er]):=show _=_ by rw[Q55,hwr]
     replace hwr:=qh hwr;by_cases her:er=0
     ·subst her
      have hto:Hid (scan s=app (ts++[⟨kd,txt,k⟩]) (Q1j (k+n) (s.drop (k+n)))):=show _=_ by have h1:=htok.out;simp only[if_true]at h1;rw[hr.out,hall.out.2,Q9l hall.out.1 hne'.out h1,Qcd,htx,List.drop_drop]
      obtain⟨hz0,hz1,hz2⟩:=HZ.out;have hi:=HI.out;go_wp2_with fail;(with_reducible refine(hrun.out _).mono ?_);rintro e w1 ⟨rfl,rfl⟩
      go_wp2_with fail;(with_reducible refine(hwd.out _).mono ?_);rintro e w2 ⟨rfl,hb2⟩
      rw[hwv.out];obtain⟨hc,hf⟩:=bcell hb2;have hwsz:wr.heap.size<w2.heap.size:=by have:=hb2.size;simp at this;omega
      have hneB:u5.ownBlock≠some wr.heap.size:=by intro e;have:=hown.lt _ e;omega
      have hown2:=qh (fun(o:Obj)=>(Qs6 (o:=0) (Qvs (hown.alloc _) hb2) hneB (.int .i64 kd)).alloc o);replace hneB:=qh hneB;clear htok hwr;go_wp2_with (at_builtin;refine wpList_append_own _ rfl _ _ 39 rfl w'.heap.size 45 i0 _ 3 32 underlying39 hi hz0 hz1 hz2 rfl (by decide) _ _ _ rfl (hown2.out _) ⟨w2.heap.size,0,none⟩ 1 1 [.int .i64 kd,.string ⟨txt.toArray⟩,.int .i64 k] rfl rfl ?c1 ?c2 ?c3 ?c4 ?c5 ?_)
      case c1=>have h:=news3 (w2.setCell ⟨wr.heap.size,0,none⟩ (.int .i64 kd)) (.int .i64 kd) (.string ⟨txt.toArray⟩) (.int .i64 k) 45;rw[World.size_setCell]at h;exact h
      case c2=>exact one3 _ _ _
      case c3=>unfold maxLen;omega
      case c4=>omega
      case c5=>have:=hb.size;simp;omega
      intro v' w3 hown' hgrow _;have c3:w3.cell? ⟨wr.heap.size,1,none⟩=some (.string ⟨txt.toArray⟩):=hgrow.cell (by simp[go_sem,hc,hwsz]) (Ne.symm hneB.out);have hlen1:=hlen.out;have hsm:=Q4u false (s.drop (k+n));simp only[List.length_drop]at hsm;replace hown':=qh hown';have hB3:=qh (((hb.trans (((Below.refl _ _).alloc hb.size _).trans (hb2.mono (by have:=hb.size;simp;omega)))).setCell (p:=⟨wr.heap.size,0,none⟩) hb.size (.int .i64 kd)).alloc (by have:=hb.size;simp;omega) (Obj.cells #[.int .i64 kd,.string ⟨txt.toArray⟩,.int .i64 k] 45) |>.grown hgrow (by have:=hb.size;simp;omega) (fun g hg=>(hown.lt g hg).1));clear hgrow hc hf hb2;go_wp2_with fail;(with_reducible refine(Qbw _ _ (by simp only[List.length_drop];omega)).mono ?_);rintro e w1 ⟨rfl,rfl⟩
      go_wp2_with fail;go_roundw
      case rel=>exact⟨k+n+skip false (s.drop (k+n)),ts++[⟨kd,txt,k⟩],by omega,by go_num,by rw[Q89,List.length_append];exact hown'.out,by simp;omega,hB3.out,HG.out.below hB3.out hg0,by have h:=Q7t (s.drop (k+n)) false;rwa[List.drop_drop]at h,by rw[←hr.out,hto.out,Q69,List.drop_drop]⟩
      case measure=>simp[intOf];omega
     ·have hb0:((er:Int)!=0)=true:=by rw[bne_iff_ne];omega
      have hto:Hid (scan s=.error (k+pl,er)):=show _=_ by rw[hr.out];have h1:=htok.out;simp only[her,if_false]at h1;rw[hall.out.2,Qdk hall.out.1 hne'.out h1];rfl
      clear her;go_wp2_with fail;(with_reducible refine(hrun.out _).mono ?_);rintro e w1 ⟨rfl,rfl⟩
      go_wp2_with fail;(with_reducible refine(hwd.out _).mono ?_);rintro e w2 ⟨rfl,hb2⟩
      rw[hwv.out];obtain⟨hc,hf⟩:=bcell hb2;go_wp2_with fail;go_ret3
      rw[hto.out];exact⟨hb.trans (((Below.refl _ _).alloc hb.size _).trans (hb2.mono (by have:=hb.size;simp;omega))),rfl⟩
   ·have hkl:k=s.length:=by omega
    have hres:Hid (scan s=.ok (ts++[⟨3,[],s.length⟩])):=show _=_ by rw[hr.out,hall.out.2,List.drop_of_length_le (by omega),Qbp,hkl];rfl
    obtain⟨hz0,hz1,hz2⟩:=HZ.out;have hi:=HI.out;replace hkl:=qh hkl;go_wp2_with (at_builtin;refine wpList_append_own _ rfl _ _ 39 rfl w'.heap.size 45 i0 _ 3 32 underlying39 hi hz0 hz1 hz2 rfl (by decide) _ _ _ rfl (hown.alloc _) ⟨wr.heap.size,0,none⟩ 1 1 [.int .i64 3,.string ⟨#[]⟩,.int .i64 s.length] rfl rfl ?c1 ?c2 ?c3 ?c4 ?c5 ?_)
    case c1=>exact news3 _ _ _ _ _
    case c2=>exact one3 _ _ _
    case c3=>unfold maxLen;omega
    case c4=>omega
    case c5=>have:=hb.size;simp;omega
    intro v' w1 hown' hgrow _;go_wp2_with fail;go_ret3
    rw[hres.out];refine⟨(hb.alloc hb.size _).grown hgrow (by have:=hb.size;simp;omega) (fun g hg=>(hown.lt g hg).1),v',rfl,?_⟩;rw[Q89];simpa[Q2e]using hown'
def Q1u:List (List UInt8):=[[67],[68],[69],[75],[97,100,118,101,114,115,97,114,121],[97,108,108],[97,108,108,111,119],[97,108,119,97,121,115],[97,110,100],[97,116],[99,97,108,109],[99,111,117,110,116],[99,114,97,115,104],[100,101,99,105,100,101,100],[101,118,101,110,116,117,97,108,108,121],[101,118,101,114,121,111,110,101],[102,97,117,108,116,121],[102,111,114],[102,111,114,109,117,108,97],[103,105,118,101,110],[103,114,97,112,104,115],[104,101,97,114,100],[104,101,97,114,115],[105,110],[105,110,112,117,116],[105,110,112,117,116,115],[110,101,120,116],[110,111,116],[111,109,105,116],[111,114],[111,117,116],[111,117,116,112,117,116,115],[112,97,114,116,105,116,105,111,110],[112,114,111,98,108,101,109],[112,114,111,99,101,115,115,101,115],[114,101,99,101,105,118,101],[114,111,117,110,100,115],[115,101,110,100],[115,110,97,112,115,104,111,116],[115,111,109,101],[116,97,115,107],[116,104,101,110],[116,114,117,101],[117,110,100,101,114],[117,110,116,105,108],[119,104,101,114,101]]
def Q7w:Array Value:=(Q1u.map fun l=>Value.string ⟨l.toArray⟩).toArray
def Q05(w:World):Prop:=Lib.TabIs prog w "strings.asciiSpace" .u8 Lib.asciiSpaceTab
theorem Q05.below{w w':World}(h:Q05 w)(hb:Below w.heap.size w w'):Q05 w':=by
 unfold Q05 Lib.TabIs World.var? at *;rw[show prog.globalNamed "strings.asciiSpace" = some 4 from by kernel_rfl]at *;simp only[Option.bind_some]at *;have:4<w.heap.size:=by
  rcases Nat.lt_or_ge 4 w.heap.size with h'|h'
  ·exact h'
  ·simp[Array.getElem?_eq_none h']at h
 rw[hb.block _ this];exact h
def Q9w:List UInt8:=[67,32,68,32,69,32,75,32,97,100,118,101,114,115,97,114,121,32,97,108,108,32,97,108,108,111,119,32,97,108,119,97,121,115,32,97,110,100,32,97,116,32,99,97,108,109,32,99,111,117,110,116,32,99,114,97,115,104,32,100,101,99,105,100,101,100,32,101,118,101,110,116,117,97,108,108,121,32,101,118,101,114,121,111,110,101,32,102,97,117,108,116,121,32,102,111,114,32,102,111,114,109,117,108,97,32,103,105,118,101,110,32,103,114,97,112,104,115,32,104,101,97,114,100,32,104,101,97,114,115,32,105,110,32,105,110,112,117,116,32,105,110,112,117,116,115,32,110,101,120,116,32,110,111,116,32,111,109,105,116,32,111,114,32,111,117,116,32,111,117,116,112,117,116,115,32,112,97,114,116,105,116,105,111,110,32,112,114,111,98,108,101,109,32,112,114,111,99,101,115,115,101,115,32,114,101,99,101,105,118,101,32,114,111,117,110,100,115,32,115,101,110,100,32,115,110,97,112,115,104,111,116,32,115,111,109,101,32,116,97,115,107,32,116,104,101,110,32,116,114,117,101,32,117,110,100,101,114,32,117,110,116,105,108,32,119,104,101,114,101]
theorem Qrw:Lib.fields Q9w=Q1u:=by kernel_rfl
theorem Qu4:Q9w.all (fun b=>decide (b.toNat<128))=true:=by decide +kernel
theorem Qlq(w:World)(hsp:Q05 w):
  Calls prog 175 #[] w fun e w'=>e=.returned (.slice (some ⟨w.heap.size,0,none⟩) 46 46)∧w'=w.alloc (.cells Q7w 9):=by
 have hF:Hid (Calls prog 197 #[.string ⟨Q9w.toArray⟩] w fun e w'=>e=.returned (.slice (some ⟨w.heap.size,0,none⟩) 46 46)∧w'=w.alloc (.cells Q7w 9)):=by
  have h:=Tryz.strings_Fields ⟨Q9w.toArray⟩ w (by rw[Q7o];decide) (fun j b hj=>by have:=List.all_eq_true.1 Qu4 b (List.mem_of_getElem? hj);simpa using this) hsp
  rw[Qrw]at h;exact h
 replace hsp:=qh hsp;go_enter func175,ntmps175;go_wp2_with fail;refine(hF.out).mono ?_;rintro e w1 ⟨rfl,rfl⟩;go_wp2_with fail;go_ret;exact⟨rfl,rfl⟩
def kwBA:List ByteArray:=Q1u.map fun l=>⟨l.toArray⟩
def Q0(s:List UInt8):Bool:=decide (s∈Q1u)
theorem Qq2(s:List UInt8):Lib.containsS (kwBA.take 46) ⟨s.toArray⟩=Q0 s:=by
 rw[Bool.eq_iff_iff,Lib.containsS_iff,Q0,decide_eq_true_eq];have:kwBA.take 46=kwBA:=by kernel_rfl
 rw[this,kwBA,List.mem_map];constructor
 ·rintro⟨l,hl,e⟩
  have:l=s:=by simpa using e
  rw[←this];exact hl
 ·intro h;exact⟨s,h,rfl⟩
theorem Qpl(w:World):∀j,j<kwBA.length→(w.alloc (.cells Q7w 9)).cell? ⟨w.heap.size,0+j,none⟩=some (.string (kwBA.getD j ByteArray.empty)):=by
 intro j hj;rw[World.cell?,heap_alloc_new,Nat.zero_add];have hj':j<Q1u.length:=by simpa[kwBA]using hj
 simp[Q7w,kwBA,List.getD,hj']
theorem Qex(s:List UInt8)(w:World)(hsp:Q05 w):
  Calls prog 143 #[.string ⟨s.toArray⟩] w fun e w'=>e=.returned (.bool (Q0 s))∧Below w.heap.size w w':=by
 have hK:=qh (Qlq w hsp);have hc:=qh (Tryz.slices_Contains_string w.heap.size 0 46 46 kwBA ⟨s.toArray⟩ (w.alloc (.cells Q7w 9)) (by decide) (by omega) (Qpl w));replace hsp:=qh hsp;go_enter func143,ntmps143;go_wp2_with fail;(with_reducible refine(hK.out).mono ?_);rintro e w1 ⟨rfl,rfl⟩
 go_wp2_with fail;(with_reducible refine(hc.out).mono ?_);rintro e w1 ⟨rfl,rfl⟩
 rw[Qq2];go_wp2_with fail;go_ret;exact⟨rfl,(Below.refl _ _).alloc (Nat.le_refl _) _⟩
end Go.Proofs.YtplbfmcgddnkeaaGreatDoor