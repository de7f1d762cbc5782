/- Walks of functions, and plain facts. -/
import Derived.Deep.WholeRow
import Derived.Deep.MidRow
import Derived.Deep.AppendLies
import Derived.Test.YtffimpicdclbgaaGreatDoorN02
import Derived.Test.YtffimpicdclbgaaGreatDoorN04
import Derived.Test.YtffimpicdclbgaaGreatDoorN01
set_option linter.unusedVariables false
set_option linter.unusedSimpArgs false
set_option maxHeartbeats 20000000
set_option maxRecDepth 100000
namespace Go.Proofs.YtffimpicdclbgaaGreatDoor
inductive Fm where
 | mk (op pr ot va gr:Int) (args:List Fm)
def Fm.op:Fm→Int|.mk a _ _ _ _ _=>a
def Fm.pr:Fm→Int|.mk _ a _ _ _ _=>a
def Fm.ot:Fm→Int|.mk _ _ a _ _ _=>a
def Fm.va:Fm→Int|.mk _ _ _ a _ _=>a
def Fm.gr:Fm→Int|.mk _ _ _ _ a _=>a
def Fm.args:Fm→List Fm|.mk _ _ _ _ _ l=>l
def useP(o:Int):Bool:=o==1||o==3||o==4||o==5||o==10
def useO(o:Int):Bool:=o==3
def useV(o:Int):Bool:=o==1||o==2||o==5||o==6
def useG(o:Int):Bool:=o==11||o==12||o==13
def Qkp(o:Int):Nat:=if o=8∨o=9∨o=17 then 2 else if o≤6 then 0 else 1
def vMax(o:Int):Int:=if o=6 then 6 else 7
def fsz:Fm→Nat
 | .mk _ _ _ _ _ l=>1+fszL l
where
 fszL:List Fm→Nat
 | []=>0
 | x::l=>fsz x+fszL l
abbrev fszL:=fsz.fszL
def fdp:Fm→Nat
 | .mk _ _ _ _ _ l=>fdpL l+1
where
 fdpL:List Fm→Nat
 | []=>0
 | x::l=>max (fdp x) (fdpL l)
abbrev fdpL:=fdp.fdpL
def feq:Fm→Fm→Bool
 | .mk a b c d e l,.mk a' b' c' d' e' l'=>a==a'&&b==b'&&c==c'&&d==d'&&e==e'&&feqL l l'
where
 feqL:List Fm→List Fm→Bool
 | [],[]=>true
 | x::l,y::m=>feq x y&&feqL l m
 | _,_=>false
abbrev feqL:=feq.feqL
theorem Qiv{a b c d e a' b' c' d' e':Int}{l l':List Fm}:feq (.mk a b c d e l) (.mk a' b' c' d' e' l')=(a==a'&&b==b'&&c==c'&&d==d'&&e==e'&&feqL l l'):=by rw[feq]
theorem Qit:feqL [] []=true:=by show feq.feqL [] []=true;simp only[feq.feqL]
theorem Qir{x y:Fm}{l m:List Fm}:feqL (x::l) (y::m)=(feq x y&&feqL l m):=by show feq.feqL _ _=_;simp only[feq.feqL]
theorem Qis{x:Fm}{l:List Fm}:feqL (x::l) []=false:=by show feq.feqL _ _=_;simp only[feq.feqL]
theorem Qiu{x:Fm}{l:List Fm}:feqL [] (x::l)=false:=by show feq.feqL _ _=_;simp only[feq.feqL]
mutual
theorem Q7j:∀(x y:Fm),feq x y=true↔x=y
 | .mk a b c d e l,.mk a' b' c' d' e' l'=>by
  rw[Qiv];simp only[Bool.and_eq_true,beq_iff_eq,Qbm l l',Fm.mk.injEq];constructor
  ·rintro⟨⟨⟨⟨⟨h1,h2⟩,h3⟩,h4⟩,h5⟩,h6⟩;exact⟨h1,h2,h3,h4,h5,h6⟩
  ·rintro⟨h1,h2,h3,h4,h5,h6⟩;exact⟨⟨⟨⟨⟨h1,h2⟩,h3⟩,h4⟩,h5⟩,h6⟩
theorem Qbm:∀(l m:List Fm),feqL l m=true↔l=m
 | [],[]=>by simp[Qit]
 | [],y::m=>by simp[Qiu]
 | x::l,[]=>by simp[Qis]
 | x::l,y::m=>by rw[Qir,Bool.and_eq_true,Q7j x y,Qbm l m,List.cons.injEq]
end
def fnode(n:Int)(f:Fm):Nat:=
 if f.op<0∨17<f.op then 1
 else if f.args.length≠Qkp f.op then 15
 else if(useP f.op∧(f.pr<0∨n-1<f.pr))∨(useO f.op∧(f.ot<0∨n-1<f.ot))∨(useV f.op∧(f.va<0∨vMax f.op<f.va))∨(useG f.op∧(f.gr<0∨2 ^ n.toNat-1<f.gr))then 2
 else if(useP f.op=false∧f.pr≠0)∨(useO f.op=false∧f.ot≠0)∨(useV f.op=false∧f.va≠0)∨(useG f.op=false∧f.gr≠0)then 3
 else 0
def fnodes(n:Int):Fm→Nat
 | .mk a b c d e l=>if fnode n (.mk a b c d e l)≠0 then fnode n (.mk a b c d e l)else fnodesL n l
where
 fnodesL (n:Int):List Fm→Nat
 | []=>0
 | x::l=>if fnodes n x≠0 then fnodes n x else fnodesL n l
abbrev fnodesL:=fnodes.fnodesL
def fbig(n d:Nat):Nat:=if 128<n then 5 else if 24<d then 12 else 0
def fcheck(n:Int)(f:Fm):Nat:=if n<1∨5<n then 2 else if fbig (fsz f) (fdp f)≠0 then fbig (fsz f) (fdp f)else fnodes n f
end Go.Proofs.YtffimpicdclbgaaGreatDoor
namespace Go.Proofs.YtffimpicdclbgaaGreatDoor
open Go.RowKit
inductive FmR (w:World):List Fm→Value→Prop
 | nil {p:Option Addr} {c:Nat}:FmR w [] (.slice p 0 c)
 | row {l:List Fm} {b o c:Nat} {u:Nat→Value} (hc:∀i (hi:i<l.length),w.cell? ⟨b,o+i*6,none⟩=some (.int .i64 l[i].op)∧w.cell? ⟨b,o+i*6+1,none⟩=some (.int .i64 l[i].pr) ∧
   w.cell? ⟨b,o+i*6+2,none⟩=some (.int .i64 l[i].ot)∧w.cell? ⟨b,o+i*6+3,none⟩=some (.int .i64 l[i].va)∧w.cell? ⟨b,o+i*6+4,none⟩=some (.int .i64 l[i].gr)∧w.cell? ⟨b,o+i*6+5,none⟩=some (u i))
   (hk:∀i (hi:i<l.length),FmR w l[i].args (u i)) (hcap:l.length≤c):FmR w l (.slice (some ⟨b,o,none⟩) l.length c)
theorem FmR.low{w w':World}(hb:Below w.heap.size w w'):∀{l:List Fm} {v:Value},FmR w l v→FmR w' l v:=by
 intro l v h;induction h with
 | nil=>exact .nil
 | row hc _ hcap ih=>exact .row (fun i hi=>⟨Q4 (hc i hi).1 hb,Q4 (hc i hi).2.1 hb,Q4 (hc i hi).2.2.1 hb,Q4 (hc i hi).2.2.2.1 hb,Q4 (hc i hi).2.2.2.2.1 hb,Q4 (hc i hi).2.2.2.2.2 hb⟩) ih hcap
theorem FmR.form{w:World}{l:List Fm}{v:Value}(h:FmR w l v):∃(p:Option Addr) (c:Nat),v=.slice p l.length c:=by
 cases h with
 | nil=>exact⟨_,_,rfl⟩
 | row=>exact⟨_,_,rfl⟩
theorem FmR.cap{w:World}{l:List Fm}{p:Option Addr}{n c:Nat}(h:FmR w l (.slice p n c)):l.length≤c:=by
 cases h with
 | nil=>exact Nat.zero_le _
 | row _ _ hcap=>exact hcap
abbrev Six(w:World)(b o:Nat)(v0 v1 v2 v3 v4 v5:Value):Prop:=w.cell? ⟨b,o,none⟩=some v0∧w.cell? ⟨b,o+1,none⟩=some v1∧w.cell? ⟨b,o+2,none⟩=some v2∧w.cell? ⟨b,o+3,none⟩=some v3∧w.cell? ⟨b,o+4,none⟩=some v4∧w.cell? ⟨b,o+5,none⟩=some v5
abbrev FmC(w:World)(b o:Nat)(f:Fm)(q:Option Addr)(d:Nat):Prop:=Six w b o (.int .i64 f.op) (.int .i64 f.pr) (.int .i64 f.ot) (.int .i64 f.va) (.int .i64 f.gr) (.slice q f.args.length d)
theorem FmR.get{w:World}{l:List Fm}{p:Option Addr}{n c:Nat}(h:FmR w l (.slice p n c))(i:Nat)(hi:i<l.length):
  ∃b o q d,p=some (⟨b,o,none⟩:Addr)∧FmC w b (o+i*6) l[i] q d∧FmR w l[i].args (.slice q l[i].args.length d):=by
 cases h with
 | nil=>exact absurd hi (Nat.not_lt_zero _)
 | row hc hk hcap=>rename_i u _;have h1:=hk i hi;have h2:=hc i hi;obtain⟨q,d,e⟩:=h1.form;rw[e]at h1 h2;exact⟨_,_,q,d,rfl,h2,h1⟩
def Ownf(B:Nat)(bx:Nat→Prop)(v:Value):Nat→Prop:=fun k=>B≤k∧¬ bx k∧some k≠v.ownBlock
def Kept(B:Nat)(bx:Nat→Prop)(W W':World):Prop:=Below B W W'∧∀k,B≤k→k<W.heap.size→¬ bx k→W'.heap[k]?=W.heap[k]?
theorem Kept.below{B:Nat}{bx:Nat→Prop}{W W':World}(h:Below W.heap.size W W')(hB:B≤W.heap.size):Kept B bx W W':=⟨h.mono hB,fun k _ hk _=>h.block k hk⟩
theorem Kept.setCell{B b o:Nat}{bx:Nat→Prop}(W:World)(v:Value)(hb:bx b)(hB:B≤b):Kept B bx W (W.setCell ⟨b,o,none⟩ v):=⟨(Below.refl _ _).setCell (p:=⟨b,o,none⟩) hB _,fun k _ _ hk=>Below.heap_setCell _ _ _ _ (fun e=>hk (e▸hb))⟩
theorem Kept.trans{B:Nat}{bx:Nat→Prop}{W W' W'':World}(h:Kept B bx W W')(h':Kept B bx W' W''):Kept B bx W W'':=⟨h.1.trans h'.1,fun k hk hs hn=>(h'.2 k hk (Nat.lt_of_lt_of_le hs h.1.size) hn).trans (h.2 k hk hs hn)⟩
theorem Qg2{w w':World}{B:Nat}{row:Option Nat}(hg:w.grownBy w' row)(hb:∀k,row=some k→B≤k)(hB:B≤w.heap.size):Below B w w':=⟨hg.os,hg.tape,hg.output,hg.size,fun k hk=>hg.block k (by omega) (fun e=>by have:=hb k e.symm;omega)⟩
end Go.Proofs.YtffimpicdclbgaaGreatDoor
namespace Go.Proofs.YtffimpicdclbgaaGreatDoor
abbrev Qin:List UInt8:=[105,110,112,117,116]
abbrev Qil:List UInt8:=[103,105,118,101,110]
abbrev Qim:List UInt8:=[104,101,97,114,100]
abbrev Qik:List UInt8:=[102,97,117,108,116,121]
abbrev Qii:List UInt8:=[100,101,99,105,100,101,100]
abbrev fAt:List UInt8:=[97,116]
abbrev Qio:List UInt8:=[110,101,120,116]
abbrev Qih:List UInt8:=[97,108,119,97,121,115]
abbrev Qij:List UInt8:=[101,118,101,110,116,117,97,108,108,121]
abbrev Q4x:List (Int×List UInt8):=[(0,Q0m),(1,Qin),(2,Qil),(3,Qim),(4,Qik),(5,Qii),(6,fAt),(8,kAnd),(9,kOr),(10,[75]),(11,[69]),(12,[68]),(13,[67]),(14,Qio),(15,Qih),(16,Qij),(17,Q50)]
def Q81(s:List UInt8):Int:=((Q4x.find? fun x=>x.2==s).map (·.1)).getD 0
def opOf(k:Int)(t:List UInt8):Int:=if k=12 then 7 else Q81 t
def numT(v:Int):Syn:=.mk 9 [] v 0 []
theorem Qlh{v:Int}(h:0≤v∧v≤1048576):Q9 (numT v)=true:=by unfold Q9 numT natB;simp[Syn.kind,Syn.text,Syn.num,Syn.kids,h.1,h.2]
structure PermB (p:List Nat):Prop where
 len:1≤p.length∧p.length≤5
 lt:∀x∈p,x<p.length
 nd:p.Nodup
instance:DecidableEq Fm:=fun x y=>if h:feq x y=true then isTrue ((Q7j x y).1 h)else isFalse fun e=>h ((Q7j x y).2 e)
def post:Fm→List Fm
 | .mk a b c d e l=>postL l++[.mk a b c d e l]
where
 postL:List Fm→List Fm
 | []=>[]
 | x::l=>post x++postL l
abbrev postL:=post.postL
end Go.Proofs.YtffimpicdclbgaaGreatDoor
namespace Go.Proofs.YtffimpicdclbgaaGreatDoor
open Go.RowKit
theorem Q3t{x y:Int}(h:x≠y):(x !=y)=true∧(x==y)=false∧Hid (x≠y):=⟨bne_iff_ne.2 h,beq_eq_false_iff_ne.2 h,qh h⟩
def Q35(w:World)(b:Bool)(e:Ending)(w':World):Prop:=e=.returned (.bool b)∧Below w.heap.size w w'
section
section
variable {w W W':World} {B2:Nat} {fx:List (Nat×Obj)} {c0 c1 c2 c3 c4 v cv:Value} {l:List Fm}
end
end
end Go.Proofs.YtffimpicdclbgaaGreatDoor
namespace Go.Proofs.YtffimpicdclbgaaGreatDoor
section
def On{α:Type}(T:List Tok)(i:Nat)(o:Out α):Prop:=∀a j,o=.ok a j→i<j∧j<T.length
def On0{α:Type}(T:List Tok)(i:Nat)(o:Out α):Prop:=∀a j,o=.ok a j→i≤j∧j<T.length
section
variable {T:List Tok} {i lv:Nat} (hl:(tk T (T.length-1)).kind=3) {res:List UInt8→Bool}
theorem Yr(hl:(tk T (T.length-1)).kind=3)(hi:i<T.length)(hk:(tk T i).kind≠3):nx T i=i+1∧i+1<T.length:=by
 have:i+1<T.length:=by
  rcases Nat.lt_or_ge (i+1) T.length with h|h
  ·exact h
  ·have:i=T.length-1:=by omega
   subst this;exact absurd hl hk
 exact⟨if_pos this,this⟩
theorem J3{ws:List (List UInt8)}(h:isW T ws i=true):(tk T i).kind≠3:=by intro e;unfold isW at h;rw[e]at h;simp at h
theorem On.bind{α β:Type}{o:Out α}{f:α→Nat→Out β}(h:On T i o)(hf:∀a j,i<j→j<T.length→On0 T j (f a j)):On T i (o.bind f):=by
 cases o with
 | none=>intro b j e;cases e
 | err p e=>intro b j e;cases e
 | ok a k=>obtain⟨h1,h2⟩:=h a k rfl;intro b j e;obtain⟨h3,h4⟩:=hf a k h1 h2 b j e;exact⟨by omega,h4⟩
theorem On.zero{α:Type}{o:Out α}(h:On T i o):On0 T i o:=fun a j e=>⟨Nat.le_of_lt (h a j e).1,(h a j e).2⟩
theorem On0.bind{α β:Type}{o:Out α}{f:α→Nat→Out β}(h:On0 T i o)(hf:∀a j,i≤j→j<T.length→On0 T j (f a j)):On0 T i (o.bind f):=by
 cases o with
 | none=>intro b j e;cases e
 | err p e=>intro b j e;cases e
 | ok a k=>obtain⟨h1,h2⟩:=h a k rfl;intro b j e;obtain⟨h3,h4⟩:=hf a k h1 h2 b j e;exact⟨by omega,h4⟩
theorem On0.ok{α:Type}{a:α}(hi:i<T.length):On0 T i (.ok a i):=fun b j e=>by cases e;exact⟨Nat.le_refl _,hi⟩
theorem On.step{α:Type}{a:α}(hl:(tk T (T.length-1)).kind=3)(hi:i<T.length)(hk:(tk T i).kind≠3):On T i (.ok a (nx T i)):=fun b j e=>by obtain⟨h1,h2⟩:=Yr hl hi hk;cases e;omega
theorem On.fail{α:Type}(e:Nat):On T i (fail T e i:Out α):=fun _ _ e=>by cases e
theorem Y3(hl:(tk T (T.length-1)).kind=3)(s:List UInt8)(hi:i<T.length):On T i (need T s i):=by
 unfold need;split
 ·rename_i h;exact On.step hl hi (J3 h)
 ·exact On.fail _
theorem Q2n(hl:(tk T (T.length-1)).kind=3)(hi:i<T.length):On T i (name res T i):=by
 unfold name;split
 ·exact On.fail _
 ·rename_i h
  refine On.step hl hi fun e=>h (.inl ?_)
  rw[e];decide
theorem Q08(hl:(tk T (T.length-1)).kind=3)(hi:i<T.length):On T i (number T i):=by
 unfold number;split
 ·exact On.fail _
 ·rename_i h
  refine On.step hl hi fun e=>h ?_
  rw[e];decide
theorem On.behind{α:Type}{o:Out α}(hl:(tk T (T.length-1)).kind=3)(hi:i<T.length)(hk:(tk T i).kind≠3)(h:∀j,i<j→j<T.length→nx T i=j→On0 T j o):On T i o:=fun a j e=>by obtain⟨h1,h2⟩:=Yr hl hi hk;obtain⟨h3,h4⟩:=h (i+1) (by omega) h2 h1 a j e;exact⟨by omega,h4⟩
def OnR(T:List Tok)(r:Rd):Prop:=∀lv i,i<T.length→On T i (r lv i)
theorem Q4h{r:Rd}(hr:OnR T r)(hi:i<T.length):On T i (within T r lv i):=by
 unfold within;split
 ·exact On.fail _
 ·exact hr _ _ hi
theorem Q5m{r:Rd}(hl:(tk T (T.length-1)).kind=3)(hr:OnR T r)(hi:i<T.length):On T i (parens T r lv i):=(Y3 hl _ hi).bind fun _ _ _ h=>((Q4h hr h).bind fun _ _ _ h=>((Y3 hl _ h).bind fun _ _ _ h=>On0.ok h).zero).zero
theorem Qft{rs:List Rd}(hl:(tk T (T.length-1)).kind=3)(hr:∀r∈rs,OnR T r):∀i,i<T.length→On0 T i (Jo.argsMore T rs lv i):=by
 induction rs with
 | nil=>intro i hi;exact On0.ok hi
 | cons r rs ih=>intro i hi;exact((Y3 hl _ hi).bind fun _ _ _ h=>((hr r (List.mem_cons_self ..) _ _ h).bind fun _ _ _ h=>(ih (fun r h=>hr r (List.mem_cons_of_mem _ h)) _ h).bind fun _ _ _ h=>On0.ok h).zero).zero
theorem Qfp{rs:List Rd}(hl:(tk T (T.length-1)).kind=3)(hr:∀r∈rs,OnR T r)(hi:i<T.length):On0 T i (Jo T rs lv i):=by
 cases rs with
 | nil=>exact On0.ok hi
 | cons r rs=>exact((hr r (List.mem_cons_self ..) _ _ hi).bind fun _ _ _ h=>(Qft hl (fun r h=>hr r (List.mem_cons_of_mem _ h)) _ h).bind fun _ _ _ h=>On0.ok h).zero
theorem Q38{rs:List Rd}{w:Tok}(hl:(tk T (T.length-1)).kind=3)(hr:∀r∈rs,OnR T r)(hi:i<T.length):On T i (arguments T w rs lv i):=
 (Y3 hl _ hi).bind fun _ _ _ h=>by
  split
  ·exact(On.fail _).zero
  ·exact(Qfp hl hr h).bind fun _ _ _ h=>((Y3 hl _ h).bind fun _ _ _ h=>On0.ok h).zero
theorem Qk8{r:Rd}{ops:List (List UInt8)}(hl:(tk T (T.length-1)).kind=3)(hr:OnR T r)(g:Nat):∀x i,i<T.length→On0 T i (Z7 T r ops lv g x i):=by
 induction g with
 | zero=>intro x i _ a j e;cases e
 | succ g ih=>
  intro x i hi;unfold Z7;split
  ·rename_i h
   refine(On.behind hl hi (J3 h) fun j h1 h2 e=>?_).zero;rw[e];exact((hr _ _ h2).bind fun _ _ _ h=>ih _ _ h).zero
  ·exact On0.ok hi
theorem Q1z{r:Rd}{ops:List (List UInt8)}(hl:(tk T (T.length-1)).kind=3)(hr:OnR T r):OnR T (left T r ops):=fun _ _ hi=>(hr _ _ hi).bind fun _ _ _ h=>Qk8 hl hr _ _ _ h
theorem Qp4(hl:(tk T (T.length-1)).kind=3)(g:Nat):∀xs i,i<T.length→On0 T i (Q09 T g xs i):=by
 induction g with
 | zero=>intro x i _ a j e;cases e
 | succ g ih=>
  intro x i hi;unfold Q09;split
  ·rename_i h
   refine(On.behind hl hi (J3 h) fun j h1 h2 e=>?_).zero;rw[e];exact((Q08 hl h2).bind fun _ _ _ h=>ih _ _ h).zero
  ·exact On0.ok hi
theorem Qdv(hl:(tk T (T.length-1)).kind=3)(hi:i<T.length):On T i (setR T i):=by
 unfold setR;split
 ·rename_i h;exact On.step hl hi (J3 h)
 ·refine(Y3 hl _ hi).bind fun _ j _ hj=>?_
  split
  ·rename_i h;exact(On.step hl hj (J3 h)).zero
  ·exact((Q08 hl hj).bind fun _ _ _ h=>(Qp4 hl _ _ _ h).bind fun _ _ _ h=>((Y3 hl _ h).bind fun _ _ _ h=>On0.ok h).zero).zero
theorem Qck{r:Rd}(hl:(tk T (T.length-1)).kind=3)(hr:OnR T r)(hi:i<T.length)(hk:(tk T i).kind≠3):On T i (notR T r lv i):=On.behind hl hi hk fun j _ h2 e=>by unfold notR;rw[e];exact((Q4h hr h2).bind fun _ _ _ h=>On0.ok h).zero
theorem Qnr(hl:(tk T (T.length-1)).kind=3)(f:Nat):∀nt,OnR T (rd res T f nt):=by
 induction f with
 | zero=>intro nt lv i _ a j e;cases e
 | succ f ih=>
  intro nt;cases nt with
  | cond=>exact Q1z hl (ih _)
  | conj=>exact Q1z hl (ih _)
  | sum=>exact Q1z hl (ih _)
  | scheme=>exact Q1z hl (ih _)
  | term=>exact Q1z hl (ih _)
  | disj=>exact Q1z hl (ih _)
  | meet=>exact Q1z hl (ih _)
  | neg=>
   intro lv i hi;show On T i (if _ then _ else if _ then _ else _);split
   ·rename_i h;exact Qck hl (ih _) hi (J3 h)
   ·split
    ·rename_i h
     refine On.behind hl hi (J3 h) fun j _ h2 e=>?_
     rw[e];exact((Q2n hl h2).bind fun _ _ _ h=>((Y3 hl _ h).bind fun _ _ _ h=>((Q4h (ih _) h).bind fun _ _ _ h=>On0.ok h).zero).zero).zero
    ·refine(ih .sum lv i hi).bind fun x j _ hj=>?_
     split
     ·rename_i h
      refine(On.behind hl hj (J3 h) fun k _ h2 e=>?_).zero;rw[e];exact((ih .sum lv _ h2).bind fun _ _ _ h=>On0.ok h).zero
     ·exact On0.ok hj
  | unit=>
   intro lv i hi;show On T i (if _ then _ else if _ then _ else if _ then _ else if _ then _ else if _ then _ else _);split
   ·exact Q08 hl hi
   ·split
    ·rename_i h
     refine On.behind hl hi (J3 h) fun j _ h2 e=>?_
     rw[e];exact(Q38 hl (fun r hr=>by rw[List.mem_singleton.1 hr];exact ih _) h2).zero
    ·split
     ·rename_i h
      refine On.behind hl hi (J3 h) fun j _ h2 e=>?_
      rw[e];exact(Q38 hl (fun r hr=>by simp only[List.mem_cons,List.not_mem_nil,or_false,or_self]at hr;rw[hr];exact ih _) h2).zero
     ·split
      ·rename_i h
       refine On.behind hl hi (J3 h) fun j _ h2 e=>?_
       rw[e];exact((Q2n hl h2).bind fun _ _ _ h=>((Q5m hl (ih _) h).bind fun _ _ _ h=>On0.ok h).zero).zero
      ·split
       ·exact Q5m hl (ih _) hi
       ·exact Q2n hl hi
  | factor=>
   intro lv i hi;refine(ih .atom lv i hi).bind fun x j _ hj=>?_
   split
   ·rename_i h
    refine(On.behind hl hj (J3 h) fun k _ h2 e=>?_).zero;rw[e];exact((Q08 hl h2).bind fun _ _ _ h=>((Q4h (ih _) h).bind fun _ _ _ h=>On0.ok h).zero).zero
   ·exact On0.ok hj
  | atom=>
   intro lv i hi;show On T i (if _ then _ else if _ then _ else if _ then _ else if _ then _ else _);split
   ·rename_i h
    refine On.behind hl hi (J3 h) fun j _ h2 e=>?_
    rw[e];exact(Q38 hl (fun r hr=>by rw[List.mem_singleton.1 hr];exact fun _ _ h=>Q08 hl h) h2).zero
   ·split
    ·rename_i h;exact On.step hl hi (J3 h)
    ·split
     ·rename_i h
      refine On.behind hl hi (J3 h) fun j _ h2 e=>?_
      rw[e];exact(Q38 hl (fun r hr=>by rw[List.mem_singleton.1 hr];exact ih _) h2).zero
     ·split
      ·exact Q5m hl (ih _) hi
      ·exact Q2n hl hi
  | formula=>
   intro lv i hi;refine(ih .disj lv i hi).bind fun x j _ hj=>?_
   split
   ·rename_i h
    refine(On.behind hl hj (J3 h) fun k _ h2 e=>?_).zero;rw[e];exact((Q4h (ih _) h2).bind fun _ _ _ h=>On0.ok h).zero
   ·exact On0.ok hj
  | lit=>
   intro lv i hi;show On T i (if _ then _ else if _ then _ else if _ then _ else if _ then _ else if _ then _ else if _ then _ else if _ then _ else if _ then _ else _);have hargs:∀rs,isW T rs i=true→∀rds:List Rd,(∀r∈rds,OnR T r)→On T i (arguments T (tk T i) rds lv (nx T i)):=fun rs h rds hr=>On.behind hl hi (J3 h) fun j _ h2 e=>by rw[e];exact(Q38 hl hr h2).zero
   have hnum:OnR T (fun _=>number T):=fun _ _ h=>Q08 hl h
   have hset:OnR T (fun _=>setR T):=fun _ _ h=>Qdv hl h
   split
   ·rename_i h;exact Qck hl (ih _) hi (J3 h)
   ·split
    ·rename_i h;exact On.step hl hi (J3 h)
    ·split
     ·exact Q5m hl (ih _) hi
     ·split
      ·rename_i h;exact hargs _ h _ fun r hr=>by simp only[List.mem_cons,List.not_mem_nil,or_false,or_self]at hr;rw[hr];exact hnum
      ·split
       ·rename_i h;exact hargs _ h _ fun r hr=>by rw[List.mem_singleton.1 hr];exact hnum
       ·split
        ·rename_i h;exact hargs _ h _ fun r hr=>by
          simp only[List.mem_cons,List.not_mem_nil,or_false]at hr;rcases hr with rfl|rfl
          ·exact hnum
          ·exact ih _
        ·split
         ·rename_i h;exact hargs _ h _ fun r hr=>by
           simp only[List.mem_cons,List.not_mem_nil,or_false]at hr;rcases hr with rfl|rfl
           ·exact hset
           ·exact ih _
         ·split
          ·rename_i h;exact hargs _ h _ fun r hr=>by rw[List.mem_singleton.1 hr];exact ih _
          ·exact On.fail _
end
end
end Go.Proofs.YtffimpicdclbgaaGreatDoor