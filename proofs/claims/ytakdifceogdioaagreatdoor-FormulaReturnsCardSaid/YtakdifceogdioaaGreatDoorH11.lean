/- Walks of functions, and plain facts. -/
import Derived.Test.YtakdifceogdioaaGreatDoorRows
import Derived.Test.YtakdifceogdioaaGreatDoorChecked
import Derived.JoinedOf
import Derived.SevenTiedAt
import Derived.Deep.Slices
import Derived.Deep.Fields
import Derived.ChangeSame
import Derived.Carry
import Derived.OpenShut
import Derived.Test.YtakdifceogdioaaGreatDoorH10
import Derived.Test.YtakdifceogdioaaGreatDoorH01
open Bool renaming and_eq_true->Ai,or_eq_true->AG
open List renaming append_assoc->AC,cons_append->AH,contains_iff_mem->Au,length_append->Ad,length_cons->Ac,length_nil->Ak,mem_cons->A8,mem_cons_of_mem->Ae,mem_cons_self->A6,not_mem_nil->A5
open Nat renaming add_assoc->BC,le_refl->A4,lt_of_lt_of_le->AK,zero_le->Ay
set_option linter.unusedVariables false
set_option linter.unusedSimpArgs false
set_option maxHeartbeats 20000000
set_option maxRecDepth 100000
namespace Go.Proofs.YtakdifceogdioaaGreatDoor
open Go.Proofs.Tryz
section
def Zg(ks:List Syn):List KT:=ks.flatMap fun x=>[(2,[44]),(1,dec x.num.toNat)]
def Q96(ks:List Syn):List KT:=(2,[123])::((match ks with|[]=>[]|x::r=>(1,dec x.num.toNat)::Zg r)++[(2,[125])])
def kta(a:Syn):List KT:=if a.kind=9 then[(1,dec a.num.toNat)]else if a.text=[]then Q96 a.kids else[(0,a.text)]
def ktf:Syn->List KT
 | .mk _ t _ _ []=>[(0,t)]
 | .mk k t _ _ [a]=>if k=12 then(0,kNot)::parK (decide (lvl 2 a<3)) (ktf a)else if fone.contains t then(0,t)::(2,[40])::(kta a++[(2,[41])])else(0,t)::(2,[40])::(ktf a++[(2,[41])])
 | .mk k t _ _ [a,b]=>
  if k=10 then if ftwo.contains t then(0,t)::(2,[40])::(kta a++(2,[44])::(kta b++[(2,[41])]))else(0,t)::(2,[40])::(kta a++(2,[44])::(ktf b++[(2,[41])]))
  else parK (decide (lvl 2 a<lft 2 t)) (ktf a)++(0,t)::parK (decide (lvl 2 b<rgt 2 t)) (ktf b)
 | _=>[]
theorem Qfb{k:Int}{t:List UInt8}{n p:Int}(h:okf (.mk k t n p [])=true):k=10/\n=0/\t=Jg:=by rw[okf]at h;simp only[Ai,decide_eq_true_eq,beq_iff_eq]at h;exact⟨h.1.1,h.1.2,h.2⟩
theorem Qfd{k:Int}{t:List UInt8}{n p:Int}{a:Syn}(h:okf (.mk k t n p [a])=true):n=0/\((k=12/\t=[]/\okf a=true)∨(k=10/\((t∈fone/\Q1 a=true)∨(t∈ftim/\okf a=true)))):=by
 rw[okf]at h;simp only[AG,Ai,decide_eq_true_eq,beq_iff_eq,Au]at h;rcases h with⟨⟨⟨h1,h2⟩,h3⟩,h4⟩|⟨⟨h1,h2⟩,h3⟩
 ·exact⟨h3,.inl ⟨h1,h2,h4⟩⟩
 ·exact⟨h2,.inr ⟨h1,h3⟩⟩
theorem Qpy{t:List UInt8}(h:(opP 2 t).isSome=true):t=Jq∨t=kOr∨t=kAnd:=by
 unfold opP at h;rw[if_neg (by decide),if_neg (by decide)]at h;by_cases h1:t=Jq
 ·exact .inl h1
 ·by_cases h2:t=kOr
  ·exact .inr (.inl h2)
  ·by_cases h3:t=kAnd
   ·exact .inr (.inr h3)
   ·simp[h1,h2,h3]at h
theorem Qfe{k:Int}{t:List UInt8}{n p:Int}{a b:Syn}(h:okf (.mk k t n p [a,b])=true):
  n=0/\((k=10/\((t∈ftwo/\Q1 a=true/\Q1 b=true)∨(t=[75]/\Q1 a=true/\okf b=true)∨(t∈fset/\Qd a=true/\okf b=true))) ∨
   (k=11/\okf a=true/\okf b=true/\(t=Jq∨t=kOr∨t=kAnd))):=by
 rw[okf]at h;simp only[AG,Ai,decide_eq_true_eq,beq_iff_eq,Au]at h;rcases h with⟨⟨h1,h2⟩,h3⟩|⟨⟨⟨⟨h1,h2⟩,h3⟩,h4⟩,h5⟩
 ·refine⟨h2,.inl ⟨h1,?_⟩⟩
  rcases h3 with(⟨⟨h3,h4⟩,h5⟩|⟨⟨h3,h4⟩,h5⟩)|⟨⟨h3,h4⟩,h5⟩
  ·exact .inl ⟨h3,h4,h5⟩
  ·exact .inr (.inl ⟨h3,h4,h5⟩)
  ·exact .inr (.inr ⟨h3,h4,h5⟩)
 ·exact⟨h2,.inr ⟨h1,h4,h5,Qpy h3⟩⟩
theorem Qhw{a:Syn}(h:Qd a=true):a.kind=14/\a.num=0/\((a.text=Z9/\a.kids=[])∨(a.text=[]/\∀x∈a.kids,Q1 x=true)):=by unfold Qd at h;simp only[AG,Ai,decide_eq_true_eq,beq_iff_eq,List.isEmpty_iff,List.all_eq_true]at h;exact⟨h.1.1,h.1.2,h.2⟩
theorem Qcf(x:List UInt8):∀r:List (List UInt8),commas (x::r)=x++r.flatMap fun y=>44::32::y
 | []=>by simp[commas]
 | y::r=>by rw[commas,Qcf y r];simp
theorem Qb7{a:Syn}(h:Q1 a=true):Spl (dec a.num.toNat) [(1,dec a.num.toNat)]:=by have:=(Q5z h).2.2.1;exact Q1j (k:=1) (Qld (by omega))
theorem Qi5{s:List UInt8}{K:List KT}(hs:Spl s K)(pH:∀y,sepd y->sepd (s++y)):∀ks:List Syn,(∀x∈ks,Q1 x=true) ->
  Spl ((ks.flatMap fun x=>44::32::dec x.num.toNat)++s) (Zg ks++K)/\∀y,sepd y->sepd ((ks.flatMap fun x=>44::32::dec x.num.toNat)++s++y)
 | [],_=>⟨hs,pH⟩
 | x::r,h=>by
  obtain⟨h1,h2⟩:=Qi5 hs pH r fun y hy=>h y (Ae _ hy)
  refine⟨?_,fun y hy=>Qhi (by decide) (by decide)⟩;have e1:((x::r).flatMap fun x=>44::32::dec x.num.toNat)++s=44::32::(dec x.num.toNat++((r.flatMap fun x=>44::32::dec x.num.toNat)++s)):=by simp
  have e2:Zg (x::r)++K=(2,[44])::([(1,dec x.num.toNat)]++(Zg r++K)):=by simp[Zg]
  rw[e1,e2];exact Spl.signed (by simp) ((Qb7 (h x (A6 ..))).then h1 h2).blank
theorem Q4n{a:Syn}(h:Q1 a=true∨Qd a=true):Spl (warg a) (kta a):=by
 unfold warg kta;rcases h with h|h
 ·have:=(Q5z h).1
  rw[if_pos this,if_pos this];exact Qb7 h
 ·obtain⟨h1,-,h2⟩:=Qhw h
  rw[if_neg (by omega),if_neg (by omega)];unfold wset;rcases h2 with⟨h2,h3⟩|⟨h2,h3⟩
  ·rw[if_neg (by rw[h2];decide),if_neg (by rw[h2];decide),h2]
   exact Qb6
  ·rw[if_pos h2,if_pos h2]
   unfold Q96;refine Spl.signed (by simp) ?_;cases hk:a.kids with
   | nil=>exact Q1i (by simp)
   | cons x r=>
    rw[hk]at h3;obtain⟨q1,q2⟩:=Qi5 (Q1i (b:=125) (by simp)) (Qhh (t:=[]) (by decide) (by decide)) r fun y hy=>h3 y (Ae _ hy)
    have e1:commas ((x::r).map fun x=>dec x.num.toNat)++[125]=dec x.num.toNat++((r.flatMap fun x=>44::32::dec x.num.toNat)++[125]):=by rw[List.map_cons,Qcf,AC,List.flatMap_map]
    rw[e1];exact(Qb7 (h3 x (A6 ..))).then q1 q2
theorem Q2e:∀t:Syn,okf t=true->Spl (wrf t) (ktf t)
 | .mk k t n p [],h=>by rw[wrf,ktf];obtain⟨-,-,h'⟩:=Qfb h;rw[h'];exact Qb6
 | .mk k t n p [a],h=>by
  rw[wrf,ktf];obtain⟨-,h'⟩:=Qfd h;rcases h' with⟨hk,-,ha⟩|⟨hk,⟨ht,ha⟩|⟨ht,ha⟩⟩
  ·rw[if_pos hk,if_pos hk]
   exact(Qb6).thenC (Qb8 (Q2e a ha)).blank
  ·have hw:tok t=.ok (0,t.length):=by
    clear h;simp only[fone,A8,A5,or_false]at ht;rcases ht with rfl|rfl|rfl<;>exact tokIs (by decide)
   have hc:fone.contains t=true:=by simpa using ht
   rw[if_neg (by omega),if_pos hc,if_neg (by omega),if_pos hc];exact(Q1j hw).thenC (Spl.signed (.inl rfl) ((Q4n (.inl ha)).thenC (Q1i (.inr (.inl rfl)))))
  ·have hw:tok t=.ok (0,t.length)/\fone.contains t=false:=by
    clear h;simp only[ftim,A8,A5,or_false]at ht;rcases ht with rfl|rfl|rfl<;>exact⟨tokIs (by decide),by decide⟩
   rw[if_neg (by omega),if_neg (by rw[hw.2];decide),if_neg (by omega),if_neg (by rw[hw.2];decide)];exact(Q1j hw.1).thenC (Spl.signed (.inl rfl) ((Q2e a ha).thenC (Q1i (.inr (.inl rfl)))))
 | .mk k t n p [a,b],h=>by
  rw[wrf,ktf];obtain⟨-,h'⟩:=Qfe h;rcases h' with⟨hk,h'⟩|⟨hk,ha,hb,h'⟩
  ·rw[if_pos hk,if_pos hk]
   rcases h' with⟨ht,ha,hb⟩|⟨ht,ha,hb⟩|⟨ht,ha,hb⟩
   ·have hw:tok t=.ok (0,t.length):=by
     clear h;simp only[ftwo,A8,A5,or_false]at ht;rcases ht with rfl|rfl|rfl<;>exact tokIs (by decide)
    have hc:ftwo.contains t=true:=by simpa using ht
    rw[if_pos hc,if_pos hc];exact(Q1j hw).thenC (Spl.signed (.inl rfl) ((Q4n (.inl ha)).thenC (Spl.signed (by simp) ((Q4n (.inl hb)).thenC (Q1i (.inr (.inl rfl)))).blank)))
   ·have hw:tok t=.ok (0,t.length)/\ftwo.contains t=false:=by
     clear h;subst ht;exact⟨tokIs (by decide),by decide⟩
    rw[if_neg (by rw[hw.2];decide),if_neg (by rw[hw.2];decide)];exact(Q1j hw.1).thenC (Spl.signed (.inl rfl) ((Q4n (.inl ha)).thenC (Spl.signed (by simp) ((Q2e b hb).thenC (Q1i (.inr (.inl rfl)))).blank)))
   ·have hw:tok t=.ok (0,t.length)/\ftwo.contains t=false:=by
     clear h;simp only[fset,A8,A5,or_false]at ht;rcases ht with rfl|rfl|rfl<;>exact⟨tokIs (by decide),by decide⟩
    rw[if_neg (by rw[hw.2];decide),if_neg (by rw[hw.2];decide)];exact(Q1j hw.1).thenC (Spl.signed (.inl rfl) ((Q4n (.inr ha)).thenC (Spl.signed (by simp) ((Q2e b hb).thenC (Q1i (.inr (.inl rfl)))).blank)))
  ·rw[if_neg (by omega),if_neg (by omega)]
   have hw:tok t=.ok (0,t.length):=by clear h;rcases h' with rfl|rfl|rfl<;>exact tokIs (by decide)
   exact(Qb8 (Q2e a ha)).thenC ((Q1j hw).thenC (Qb8 (Q2e b hb)).blank).blank
 | .mk _ _ _ _ (_::_::_::_),h=>by simp[okf]at h
def sdp:Syn->Nat
 | .mk _ _ _ _ l=>sdpL l+2
where
 sdpL:List Syn->Nat
 | []=>0
 | x::l=>max (sdp x) (sdpL l)
abbrev sdpL:=sdp.sdpL
theorem Q30{k n p:Int}{t:List UInt8}{l:List Syn}:sdp (.mk k t n p l)=sdpL l+2:=by rw[sdp]
theorem Q4h:sdpL []=0:=by show sdp.sdpL []=0;simp only[sdp.sdpL]
theorem Q4g{x:Syn}{l:List Syn}:sdpL (x::l)=max (sdp x) (sdpL l):=by show sdp.sdpL (x::l)=_;simp only[sdp.sdpL]
def nd(t:Syn):Nat:=sdpL t.kids+1
theorem Q26{k n p:Int}{t:List UInt8}{x:Syn}{l:List Syn}:x∈l->nd x+2<=nd (.mk k t n p l):=by
 intro h;show sdpL x.kids+1+2<=sdpL l+1;have hx:sdp x=sdpL x.kids+2:=by cases x;exact Q30
 have:∀l:List Syn,x∈l->sdp x<=sdpL l:=by
  intro l;induction l with
  | nil=>intro h;cases h
  | cons y r ih=>
   intro h;rw[Q4g];rcases A8.1 h with rfl|h
   ·omega
   ·have:=ih h;omega
 have:=this l h;omega
def DNd(D:Nat)(x:Syn)(L:Nat)(o:Out Syn):Prop:=match o with|.ok y l=>l=L/\Twin Any x y|.err _ e=>e=12/\128<D|.none=>True
theorem DNd.up{D D':Nat}{x:Syn}{L:Nat}{o:Out Syn}(h:DNd D x L o)(hd:D<=D'):DNd D' x L o:=by
 cases o with
 | none=>exact h
 | err p e=>exact⟨h.1,AK h.2 hd⟩
 | ok y l=>exact h
theorem DNd.dn{D:Nat}{x:Syn}{L:Nat}{o:Out Syn}(h:DNd D x L o):DN x L o:=by
 cases o with
 | none=>exact h
 | err p e=>exact h.1
 | ok y l=>exact h
theorem DNd.bind{D:Nat}{x z:Syn}{L M:Nat}{o:Out Syn}{f:Syn->Nat->Out Syn}(h:DNd D x L o)(hf:∀y,Twin Any x y->DNd D z M (f y L)):DNd D z M (o.bind f):=by
 cases o with
 | none=>exact h
 | err p e=>exact h
 | ok y l=>obtain⟨rfl,h⟩:=h;exact hf y h
theorem Yb{D:Nat}{x y:Syn}{L:Nat}(h:Twin Any x y):DNd D x L (.ok y L):=⟨rfl,h⟩
section
variable {U:List Tok} {f g lv i j L M D:Nat} {x y:Syn} {K A B:List KT} {c:KT} {r r':Rd} {ops:List (List UInt8)} {w:Tok} {t:List UInt8}
theorem Q7x(h:DNd D x L (r (lv+1) i))(hd:lv+1<=D):DNd D x L (within U r lv i):=by
 unfold within;split
 ·exact⟨rfl,by omega⟩
 ·exact h
theorem Qlh(h0:Tl U i ((2,[40])::A))(hi:i+1<U.length)(h:DNd D x L (r (lv+1) (i+1)))(hd:lv+1<=D)(h1:Tl U L ((2,[41])::c::B)):DNd D x (L+1) (parens U r lv i):=by
 unfold parens;rw[Q6t h0 (.inl rfl) hi,Z3];refine(Q7x h hd).bind fun y hy=>?_
 rw[Q34 h1 (.inl rfl),Z3];exact Yb hy
theorem Qcq{n p:Int}(hw:w.text=t)(hn:n=0)(hd:lv+1<=D)(h0:Tl U j ((2,[40])::A))(hj:j+1<U.length)(h:DNd D x L (r (lv+1) (j+1)))(h1:Tl U L ((2,[41])::c::B)):
  DNd D (.mk 10 t n p [x]) (L+1) (arguments U w [r] lv j):=by
 unfold arguments;rw[Q6t h0 (.inl rfl) hj,Z3];split
 ·exact⟨rfl,by omega⟩
 ·rw[Qj,Out.bind_assoc]
  refine h.bind fun y hy=>?_
  rw[Qj.argsMore,Z3,Z3,Q34 h1 (.inl rfl),Z3,hw,hn];exact Yb (.mk trivial (.cons hy .nil))
theorem Qlg{n p:Int}(hw:w.text=t)(hn:n=0)(hd:lv+1<=D)(h0:Tl U j ((2,[40])::A))(hj:j+1<U.length)(h:DNd D x L (r (lv+1) (j+1)))(h1:Tl U L ((2,[44])::K))(hL:L+1<U.length)(h':DNd D y M (r' (lv+1) (L+1)))
  (h2:Tl U M ((2,[41])::c::B)):DNd D (.mk 10 t n p [x,y]) (M+1) (arguments U w [r,r'] lv j):=by
 unfold arguments;rw[Q6t h0 (.inl rfl) hj,Z3];split
 ·exact⟨rfl,by omega⟩
 ·rw[Qj,Out.bind_assoc]
  refine h.bind fun x' hx=>?_
  rw[Qj.argsMore,Q6t h1 (.inl rfl) hL,Z3,Out.bind_assoc,Out.bind_assoc];refine h'.bind fun y' hy=>?_
  rw[Qj.argsMore,Z3,Z3,Z3,Q34 h2 (.inl rfl),Z3,hw,hn];exact Yb (.mk trivial (.cons hx (.cons hy .nil)))
def SPd(U:List Tok)(r:Rd)(ops:List (List UInt8))(D lv i:Nat)(x:Syn)(L:Nat):Prop:=
 ∀g,let o:=(r lv i).bind fun y j=>Ju U r ops lv g y j
  o=.none∨(∃p,o=.err p 12/\128<D)∨∃y g',Twin Any x y/\o=Ju U r ops lv g' y L
theorem SPd.up{D':Nat}(h:SPd U r ops D lv i x L)(hd:D<=D'):SPd U r ops D' lv i x L:=fun g=>by
 rcases h g with h|⟨p,h,h'⟩|h
 ·exact .inl h
 ·exact .inr (.inl ⟨p,h,AK h' hd⟩)
 ·exact .inr (.inr h)
theorem Q4m(h:DNd D x L (r lv i)):SPd U r ops D lv i x L:=by
 intro g;cases hr:r lv i with
 | none=>exact .inl rfl
 | err p e=>rw[hr]at h;obtain⟨rfl,h⟩:=h;exact .inr (.inl ⟨p,rfl,h⟩)
 | ok y l=>rw[hr]at h;obtain⟨rfl,h⟩:=h;exact .inr (.inr ⟨y,g,h,rfl⟩)
theorem Qvm{kd:Int}{op:List UInt8}{p:Int}(h:SPd U r ops D lv i x L)(h0:Tl U L ((kd,op)::c::K))(hk:kd=2∨kd=0)(ho:op∈ops)(hy:DNd D y M (r lv (L+1))):SPd U r ops D lv i (.mk 11 op 0 p [x,y]) M:=by
 intro g;rcases h g with h|h|⟨x',g',hx,h⟩
 ·exact .inl h
 ·exact .inr (.inl h)
 ·show _∨_
  rw[h];cases g' with
  | zero=>exact .inl rfl
  | succ g'=>
   have hw:isW U ops L=true:=Yd h0 (by rcases hk with rfl|rfl<;>simpa using ho);rw[Ju,if_pos hw,Y5 h0];cases hr:r lv (L+1)with
   | none=>exact .inl rfl
   | err p e=>rw[hr]at hy;obtain⟨rfl,hy⟩:=hy;exact .inr (.inl ⟨p,rfl,hy⟩)
   | ok y' l=>rw[hr]at hy;obtain⟨rfl,hy⟩:=hy;refine .inr (.inr ⟨_,g',?_,rfl⟩);rw[Q1k h0];exact .mk trivial (.cons hx (.cons hy .nil))
theorem Qb5(h:SPd U r ops D lv i x L)(ho:¬ isW U ops L=true):DNd D x L (left U r ops lv i):=by
 unfold left;rcases h (U.length+1)with h|⟨p,h,h'⟩|⟨y,g',hy,h⟩
 ·rw[h];trivial
 ·rw[h];exact⟨rfl,h'⟩
 ·rw[h]
  cases g' with
  | zero=>trivial
  | succ g'=>rw[Ju,if_neg ho];exact Yb hy
end
def ntf:Nat->NT|0=>.formula|1=>.disj|2=>.meet|_=>.lit
def goF(m:Nat):List (List (List UInt8)):=if m=0 then[[Jq],[kOr],[kAnd]]else if m=1 then[[kOr],[kAnd]]else if m=2 then[[kAnd]]else[]
def Jw(m:Nat)(c:KT):Prop:=∀ws∈goF m,noOp ws c
theorem Jw.le{m m':Nat}{c:KT}(h:Jw m c)(km:m'<=3)(hl:m<=m'):Jw m' c:=fun ws hw=>h ws (by
 have hm:m=0∨m=1∨m=2∨m=3:=by omega
 have km:m'=0∨m'=1∨m'=2∨m'=3:=by omega
 rcases hm with rfl|rfl|rfl|rfl<;>rcases km with rfl|rfl|rfl|rfl<;>first|omega|(simp[goF]at hw;done)|exact hw|(simp[goF]at hw⊢;first|done|exact hw|(subst hw;simp;done)|(rcases hw with rfl|rfl<;>simp;done)))
theorem Q6p{m:Nat}:Jw m (2,[41]):=by unfold Jw goF noOp;split<;>(try split)<;>(try split)<;>decide
section
variable {U:List Tok} {f lv i L D:Nat} {x a b:Syn} {A B:List KT} {c:KT} {t:List UInt8}
abbrev RF(U:List Tok)(f m:Nat):Rd:=rd Q8 U f (ntf m)
theorem upF12(h:∀f lv,DNd (lv+D) x L (RF U f 3 lv i))(hL:Tl U L (c::B))(hs:Jw 2 c):∀f lv,DNd (lv+D) x L (RF U f 2 lv i)
 | 0,_=>trivial
 | f+1,lv=>Qb5 (r:=RF U f 3) (Q4m (h f lv)) (noOp.isW hL (hs [kAnd] (by simp[goF])))
theorem upF01(h:∀f lv,DNd (lv+D) x L (RF U f 2 lv i))(hL:Tl U L (c::B))(hs:Jw 1 c):∀f lv,DNd (lv+D) x L (RF U f 1 lv i)
 | 0,_=>trivial
 | f+1,lv=>Qb5 (r:=RF U f 2) (Q4m (h f lv)) (noOp.isW hL (hs [kOr] (by simp[goF])))
theorem upF00(h:∀f lv,DNd (lv+D) x L (RF U f 1 lv i))(hL:Tl U L (c::B))(hs:Jw 0 c):∀f lv,DNd (lv+D) x L (RF U f 0 lv i)
 | 0,_=>trivial
 | f+1,lv=>by
  show DNd (lv+D) x L (rd Q8 U (f+1) .formula lv i);rw[rd];dsimp only
  refine(h f lv).bind fun y hy=>?_
  rw[if_neg (noOp.isW hL (hs [Jq] (by simp[goF])))];exact Yb hy
theorem upF{m m':Nat}(hm:m<=3)(hl:m'<=m)(h:∀f lv,DNd (lv+D) x L (RF U f m lv i))(hL:Tl U L (c::B))(hs:Jw m' c):∀f lv,DNd (lv+D) x L (RF U f m' lv i):=by
 by_cases e3:m'=3
 ·obtain rfl:m=m':=by omega
  exact h
 have h2:2<=m->∀f lv,DNd (lv+D) x L (RF U f 2 lv i):=fun e=>by
  by_cases e':m=2
  ·exact e'▸h
  ·obtain rfl:m=3:=by omega
   exact upF12 h hL (hs.le (by omega) (by omega))
 by_cases e2:m'=2
 ·subst e2;exact h2 hl
 have h1:1<=m->∀f lv,DNd (lv+D) x L (RF U f 1 lv i):=fun e=>by
  by_cases e':m=1
  ·exact e'▸h
  ·exact upF01 (h2 (by omega)) hL (hs.le (by omega) (by omega))
 by_cases e1:m'=1
 ·subst e1;exact h1 hl
 obtain rfl:m'=0:=by omega
 by_cases e':m=0
 ·exact e'▸h
 ·exact upF00 (h1 (by omega)) hL hs
def RdF(U:List Tok)(t:Syn):Prop:=∀m f lv i c B,m<=3->m<=lvl 2 t->Tl U i (ktf t++c::B)->Jw m c->DNd (lv+nd t) t (i+(ktf t).length) (RF U f m lv i)
theorem operF{b:Bool}{m:Nat}(h:RdF U x)(hm:m<=3)(hb:b=false->m<=lvl 2 x)(h0:Tl U i (parK b (ktf x)++c::B))(hs:Jw m c):
  ∀f lv,DNd (lv+(nd x+1)) x (i+(parK b (ktf x)).length) (RF U f m lv i):=by
 cases b with
 | false=>exact fun f lv=>(h m f lv i c B hm (hb rfl) h0 hs).up (by omega)
 | true=>
  have cD:Tl U i ((2,[40])::(ktf x++(2,[41])::c::B)):=by simpa[parK]using h0
  have h1:=Z5 cD;have h2:=Yh (A:=ktf x) h1;have hlen:i+(parK true (ktf x)).length=i+1+(ktf x).length+1:=by simp[parK];omega
  rw[hlen];refine upF (m:=3) (A4 _) hm (fun f lv=>?_) (Z5 h2) hs;cases f with
  | zero=>trivial
  | succ f=>show DNd (lv+(nd x+1)) x _ (rd Q8 U (f+1) .lit lv i);rw[Qog cD];exact Qlh cD (Q4o h1) ((h 0 f (lv+1) (i+1) _ _ (by omega) (Ay _) h1 Q6p).up (by omega)) (by omega) h2
def opsF(p:Nat):List (List UInt8):=if p=1 then[kOr]else[kAnd]
def SpF(U:List Tok)(t:Syn):Prop:=∀p f lv i c B,1<=p->p<=2->p<=lvl 2 t->Tl U i (ktf t++c::B)->Jw (p+1) c->SPd U (RF U f (p+1)) (opsF p) (lv+nd t) lv i t (i+(ktf t).length)
theorem Qvl(h:RdF U x)(hl:3<=lvl 2 x):SpF U x:=fun p f lv i c B _ hp hle h0 hs=>Q4m (h (p+1) f lv i c B (by omega) (by omega) h0 hs)
theorem Qid{p:Nat}(h:(p=1/\t=kOr)∨(p=2/\t=kAnd)):Jw (p+1) (0,t):=by rcases h with⟨rfl,rfl⟩|⟨rfl,rfl⟩<;>(unfold Jw goF noOp;decide)
theorem Qec{n p:Int}{ks:List Syn}{o l r:Nat}(h:opP 2 t=some (o,l,r)):lvl 2 (.mk 11 t n p ks)=o:=by simp[lvl,Syn.kind,Syn.text,own,h]
theorem Q5p{o l r:Nat}(h:opP 2 t=some (o,l,r)):lft 2 t=l/\rgt 2 t=r:=by simp[lft,rgt,h]
theorem Qca{p:Nat}{n q:Int}(hp:(p=1/\t=kOr)∨(p=2/\t=kAnd))(ho:opP 2 t=some (p,p,p+1))(hn:n=0)
  (ha:RdF U a/\SpF U a) (hb:RdF U b):RdF U (.mk 11 t n q [a,b])/\SpF U (.mk 11 t n q [a,b]):=by
 have bF:1<=p/\p<=2:=by rcases hp with⟨h,-⟩|⟨h,-⟩<;>omega
 have jd:lvl 2 (.mk 11 t n q [a,b])=p:=Qec ho;have jq:ktf (.mk 11 t n q [a,b])=parK (decide (lvl 2 a<p)) (ktf a)++(0,t)::parK (decide (lvl 2 b<p+1)) (ktf b):=by rw[ktf,if_neg (by decide),(Q5p ho).1,(Q5p ho).2]
 have na:nd a+2<=nd (.mk 11 t n q [a,b]):=Q26 (by simp);have nb:nd b+2<=nd (.mk 11 t n q [a,b]):=Q26 (by simp);have core:∀f lv i c B,Tl U i (ktf (.mk 11 t n q [a,b])++c::B)->Jw (p+1) c ->
   SPd U (RF U f (p+1)) (opsF p) (lv+nd (.mk 11 t n q [a,b])) lv i (.mk 11 t n q [a,b]) (i+(ktf (.mk 11 t n q [a,b])).length):=by
  intro f lv i c B h0 hs;rw[jq,AC,AH]at h0;have h1:=Yh h0;obtain⟨d,K,lg⟩:=Q3k (A:=parK (decide (lvl 2 b<p+1)) (ktf b)) (c:=c) (B:=B);have hl:SPd U (RF U f (p+1)) (opsF p) (lv+nd (.mk 11 t n q [a,b])) lv i a (i+(parK (decide (lvl 2 a<p)) (ktf a)).length):=by
   cases cd:decide (lvl 2 a<p)with
   | true=>rw[cd]at h0;exact Q4m ((operF (b:=true) ha.1 (by omega) (fun h=>by cases h) h0 (Qid hp) f lv).up (by omega))
   | false=>rw[cd]at h0;simp only[decide_eq_false_iff_not]at cd;exact(ha.2 p f lv i _ _ bF.1 bF.2 (by omega) h0 (Qid hp)).up (by omega)
  have kF:=h1;rw[lg]at kF;have hr:=operF (b:=decide (lvl 2 b<p+1)) hb (m:=p+1) (by omega) (fun h=>by simpa using h) (Z5 h1) hs f lv;have:=Qvm (p:=q) hl kF (.inr rfl) (by rcases hp with⟨rfl,rfl⟩|⟨rfl,rfl⟩<;>simp[opsF]) (hr.up (by omega));rw[jq,hn];have e:i+(parK (decide (lvl 2 a<p)) (ktf a)++(0,t)::parK (decide (lvl 2 b<p+1)) (ktf b)).length=i+(parK (decide (lvl 2 a<p)) (ktf a)).length+1+(parK (decide (lvl 2 b<p+1)) (ktf b)).length:=by simp only[Ad,Ac];omega
  rw[e];exact this
 have rdp:∀f lv i c B,Tl U i (ktf (.mk 11 t n q [a,b])++c::B)->Jw p c->DNd (lv+nd (.mk 11 t n q [a,b])) (.mk 11 t n q [a,b]) (i+(ktf (.mk 11 t n q [a,b])).length) (RF U f p lv i):=by
  intro f lv i c B h0 hs;cases f with
  | zero=>trivial
  | succ f=>have h1:=Qb5 (core f lv i c B h0 (hs.le (by omega) (by omega))) (noOp.isW (Yh h0) (hs _ (by rcases hp with⟨rfl,rfl⟩|⟨rfl,rfl⟩<;>simp[goF,opsF])));rcases hp with⟨rfl,-⟩|⟨rfl,-⟩<;>exact h1
 have eM:RdF U (.mk 11 t n q [a,b]):=by intro m f lv i c B hm hle h0 hs;rw[jd]at hle;exact upF (by omega) hle (fun f lv=>rdp f lv i c B h0 (hs.le (by omega) hle)) (Yh h0) hs f lv
 refine⟨eM,fun p' f lv i c B ki lT hle h0 hs=>?_⟩;rw[jd]at hle;by_cases e:p'=p
 ·subst e;exact core f lv i c B h0 hs
 ·exact Q4m (eM (p'+1) f lv i c B (by omega) (by rw[jd];omega) h0 hs)
theorem Qoe{K:List KT}(h0:Tl U i ((0,kNot)::c::K)):rd Q8 U (f+1) .lit lv i=notR U (rd Q8 U f .lit) lv i:=by
 rw[rd];dsimp only
 rw[if_pos (Yd h0 (by decide))]
theorem Qok{K:List KT}(h0:Tl U i ((0,Jg)::c::K)):rd Q8 U (f+1) .lit lv i=.ok (.mk 10 Jg 0 (tk U i).pos []) (i+1):=by
 rw[rd];dsimp only
 rw[if_neg (Z7 h0 (by decide)),if_pos (Yd h0 (by decide)),Q1k h0,Y5 h0]
theorem Qol{K:List KT}(h0:Tl U i ((0,t)::c::K))(ht:t∈ftwo):rd Q8 U (f+1) .lit lv i=arguments U (tk U i) [fun _=>number U,fun _=>number U] lv (i+1):=by
 have hf:∀ws,ws=[kNot]∨ws=[Jg]∨ws=[[40]]->¬ isW U ws i=true:=fun ws hw=>Z7 h0 (by simp only[ftwo,A8,A5,or_false]at ht;rcases hw with rfl|rfl|rfl<;>rcases ht with rfl|rfl|rfl<;>decide)
 rw[rd];dsimp only
 rw[if_neg (hf _ (by simp)),if_neg (hf _ (by simp)),if_neg (hf _ (by simp)),if_pos (Yd h0 (by simpa using ht)),Y5 h0]
theorem Qof{K:List KT}(h0:Tl U i ((0,t)::c::K))(ht:t∈fone):rd Q8 U (f+1) .lit lv i=arguments U (tk U i) [fun _=>number U] lv (i+1):=by
 have hf:∀ws,ws=[kNot]∨ws=[Jg]∨ws=[[40]]∨ws=ftwo->¬ isW U ws i=true:=fun ws hw=>Z7 h0 (by simp only[fone,A8,A5,or_false]at ht;rcases hw with rfl|rfl|rfl|rfl<;>rcases ht with rfl|rfl|rfl<;>decide)
 rw[rd];dsimp only
 rw[if_neg (hf _ (by simp)),if_neg (hf _ (by simp)),if_neg (hf _ (by simp)),if_neg (hf _ (by simp)),if_pos (Yd h0 (by simpa using ht)),Y5 h0]
theorem Qod{K:List KT}(h0:Tl U i ((0,[75])::c::K)):rd Q8 U (f+1) .lit lv i=arguments U (tk U i) [fun _=>number U,rd Q8 U f .formula] lv (i+1):=by
 rw[rd];dsimp only
 rw[if_neg (Z7 h0 (by decide)),if_neg (Z7 h0 (by decide)),if_neg (Z7 h0 (by decide)),if_neg (Z7 h0 (by decide)),if_neg (Z7 h0 (by decide)),if_pos (Yd h0 (by decide)),Y5 h0]
theorem Qoi{K:List KT}(h0:Tl U i ((0,t)::c::K))(ht:t∈fset):rd Q8 U (f+1) .lit lv i=arguments U (tk U i) [fun _=>setR U,rd Q8 U f .formula] lv (i+1):=by
 have hf:∀ws,ws=[kNot]∨ws=[Jg]∨ws=[[40]]∨ws=ftwo∨ws=fone∨ws=[[75]]->¬ isW U ws i=true:=fun ws hw=>Z7 h0 (by simp only[fset,A8,A5,or_false]at ht;rcases hw with rfl|rfl|rfl|rfl|rfl|rfl<;>rcases ht with rfl|rfl|rfl<;>decide)
 rw[rd];dsimp only
 rw[if_neg (hf _ (by simp)),if_neg (hf _ (by simp)),if_neg (hf _ (by simp)),if_neg (hf _ (by simp)),if_neg (hf _ (by simp)),if_neg (hf _ (by simp)),if_pos (Yd h0 (by simpa using ht)),Y5 h0]
theorem Qoj{K:List KT}(h0:Tl U i ((0,t)::c::K))(ht:t∈ftim):rd Q8 U (f+1) .lit lv i=arguments U (tk U i) [rd Q8 U f .formula] lv (i+1):=by
 have hf:∀ws,ws=[kNot]∨ws=[Jg]∨ws=[[40]]∨ws=ftwo∨ws=fone∨ws=[[75]]∨ws=fset->¬ isW U ws i=true:=fun ws hw=>Z7 h0 (by simp only[ftim,A8,A5,or_false]at ht;rcases hw with rfl|rfl|rfl|rfl|rfl|rfl|rfl<;>rcases ht with rfl|rfl|rfl<;>decide)
 rw[rd];dsimp only
 rw[if_neg (hf _ (by simp)),if_neg (hf _ (by simp)),if_neg (hf _ (by simp)),if_neg (hf _ (by simp)),if_neg (hf _ (by simp)),if_neg (hf _ (by simp)),if_neg (hf _ (by simp)),if_pos (Yd h0 (by simpa using ht)),Y5 h0]
theorem Q9s{x:Syn}(h:Q1 x=true)(q:Int):Twin Any x (.mk 9 [] (dv 0 (dec x.num.toNat):Nat) q []):=by obtain⟨n,p,rfl,h1,-⟩:=Qpk h;rw[Qcj,show(((Syn.mk 9 [] n p []).num.toNat:Nat):Int)=n by show((n.toNat:Nat):Int)=n;omega];exact .mk trivial .nil
theorem Qhx:∀(ks:List Syn) (xs:List Syn) (i g:Nat) (c:KT) (B:List KT),(∀x∈ks,Q1 x=true)->Tl U i (Zg ks++(2,[125])::c::B) ->
  Jz U g xs i=.none∨∃ys,TwinL Any ks ys/\Jz U g xs i=.ok (xs++ys) (i+(Zg ks).length)
 | _,_,_,0,_,_,_,_=>.inl rfl
 | [],xs,i,g+1,c,B,_,h0=>by refine .inr ⟨[],.nil,?_⟩;have cD:Tl U i ((2,[125])::c::B):=h0;rw[Jz,if_neg (Z7 cD (by decide)),List.append_nil];rfl
 | x::r,xs,i,g+1,c,B,h,h0=>by
  have cD:Tl U i ((2,[44])::(1,dec x.num.toNat)::(Zg r++(2,[125])::c::B)):=by simpa[Zg]using h0
  have h1:=Z5 cD;have h2:=Z5 h1;obtain⟨d,K,lg⟩:=Q3k (A:=Zg r) (c:=(2,[125])) (B:=c::B);have kF:=h1;rw[lg]at kF;rw[Jz,if_pos (Yd cD (by decide)),Y5 cD,Qbe kF,Z3];rcases Qhx r (xs++[.mk 9 [] (dv 0 (dec x.num.toNat):Nat) (tk U (i+1)).pos []]) (i+1+1) g c B (fun y hy=>h y (Ae _ hy)) h2 with h3|⟨ys,h3,h4⟩
  ·exact .inl h3
  ·refine .inr ⟨_::ys,.cons (Q9s (h x (A6 ..)) (tk U (i+1)).pos) h3,?_⟩
   rw[h4,AC,List.singleton_append];have:(Zg (x::r)).length=2+(Zg r).length:=by simp[Zg];omega
   rw[this,<-BC]
theorem Qbm{k:Int}{t:List UInt8}{n q:Int}{ks:List Syn}(h1:x.kind=k)(h2:x.text=t)(h3:x.num=n)(h4:TwinL Any x.kids ks):Twin Any x (.mk k t n q ks):=by cases x;subst h1 h2 h3;exact .mk trivial h4
theorem Qlf(h:Qd x=true)(h0:Tl U i (kta x++c::B)):DNd D x (i+(kta x).length) (setR U i):=by
 obtain⟨h1,h2,h3⟩:=Qhw h;unfold kta at h0⊢;rw[if_neg (by omega)]at h0⊢;unfold setR;rcases h3 with⟨h3,h4⟩|⟨h3,h4⟩
 ·rw[if_neg (by rw[h3];decide),h3]at h0⊢
  have cD:Tl U i ((0,Z9)::c::B):=h0;rw[if_pos (Yd cD (by decide)),Q1k cD,Y5 cD];exact Yb (Qbm h1 h3 h2 (by rw[h4];exact .nil))
 ·rw[if_pos h3]at h0⊢
  unfold Q96 at h0⊢;cases ad:x.kids with
  | nil=>rw[ad]at h0;have cD:Tl U i ((2,[123])::(2,[125])::c::B):=h0;have t1:=Z5 cD;rw[if_neg (Z7 cD (by decide)),Q34 cD (.inl rfl),Z3,if_pos (Yd t1 (by decide)),Y5 t1];exact Yb (Qbm h1 h3 h2 (by rw[ad];exact .nil))
  | cons y r=>
   rw[ad]at h0 h4;have cD:Tl U i ((2,[123])::(1,dec y.num.toNat)::(Zg r++(2,[125])::c::B)):=by simpa using h0
   have t1:=Z5 cD;have t2:=Z5 t1;have t3:=Yh t2;obtain⟨d,K,lg⟩:=Q3k (A:=Zg r) (c:=(2,[125])) (B:=c::B);have t1':=t1;rw[lg]at t1';rw[if_neg (Z7 cD (by decide)),Q34 cD (.inl rfl),Z3,if_neg (Z7 t1' (by show(_&&_)=false;rfl)),Qbe t1',Z3];rcases Qhx r [.mk 9 [] (dv 0 (dec y.num.toNat):Nat) (tk U (i+1)).pos []] (i+1+1) (U.length+1) c B (fun z hz=>h4 z (Ae _ hz)) t2 with h5|⟨ys,h5,h6⟩
   ·rw[h5];trivial
   ·rw[h6,Z3,Q34 t3 (.inl rfl),Z3]
    have e:i+((2,[123])::((1,dec y.num.toNat)::Zg r++[(2,[125])])).length=i+1+1+(Zg r).length+1:=by simp only[Ac,Ad,Ak];omega
    refine e▸Yb (Qbm h1 h3 h2 ?_);rw[ad];exact .cons (Q9s (h4 y (A6 ..)) _) h5
theorem Q5b(h:Q1 x=true)(h0:Tl U i (kta x++c::B)):DNd D x (i+(kta x).length) (number U i):=by unfold kta at h0⊢;rw[if_pos (Q5z h).1]at h0⊢;have cD:Tl U i ((1,dec x.num.toNat)::c::B):=h0;rw[Qbe cD];exact Yb (Q9s h _)
theorem Q6a{t:Syn}(hl:lvl 2 t=5)(h:∀f lv i c B,Tl U i (ktf t++c::B)->DNd (lv+nd t) t (i+(ktf t).length) (rd Q8 U (f+1) .lit lv i)):RdF U t/\SpF U t:=by
 have h1:RdF U t:=fun m f lv i c B hm hle h0 hs=>by
  refine upF (m:=3) (A4 _) hm (fun f lv=>?_) (Yh h0) hs f lv;cases f with
  | zero=>trivial
  | succ f=>exact h f lv i c B h0
 exact⟨h1,Qvl h1 (by omega)⟩
theorem Q1b:∀t:Syn,okf t=true->RdF U t/\SpF U t
 | .mk k t n p [],h=>by
  obtain⟨hk,hn,ht⟩:=Qfb h;refine Q6a (by simp[lvl,Syn.kind,hk]) fun f lv i c B h0=>?_
  rw[ktf,ht]at h0⊢;rw[Qok h0,hk,hn];exact Yb (.mk trivial .nil)
 | .mk k t n p [a],h=>by
  obtain⟨hn,h'⟩:=Qfd h;rcases h' with⟨hk,ht,ha⟩|⟨hk,h'⟩
  ·have ia:=(Q1b a ha).1
   refine Q6a (by simp[lvl,Syn.kind,hk]) fun f lv i c B h0=>?_
   rw[ktf,if_pos hk]at h0⊢;obtain⟨d,K,lg⟩:=Q3k (A:=parK (decide (lvl 2 a<3)) (ktf a)) (c:=c) (B:=B);have cD:=h0;rw[AH,lg]at cD;rw[Qoe cD];unfold notR;rw[Y5 cD,Ac,<-BC,Nat.add_right_comm];have na:nd a+2<=nd (.mk k t n p [a]):=Q26 (by simp);refine(Q7x ((operF (m:=3) ia (A4 _) (fun h=>by simpa using h) (Z5 h0) (by unfold Jw goF;simp) f (lv+1)).up (D':=lv+nd (.mk k t n p [a])) (by omega)) (by omega)).bind fun y hy=>?_
   rw[hk,ht,hn];exact Yb (.mk trivial (.cons hy .nil))
  ·refine Q6a (by simp[lvl,Syn.kind,hk]) fun f lv i c B h0=>?_
   rcases h' with⟨ht,ha⟩|⟨ht,ha⟩
   ·have hc:fone.contains t=true:=by simpa using ht
    rw[ktf,if_neg (by omega),if_pos hc]at h0⊢;have cD:Tl U i ((0,t)::(2,[40])::(kta a++(2,[41])::c::B)):=by simpa using h0
    have h1:=Z5 cD;have h2:=Z5 h1;have e:i+((0,t)::(2,[40])::(kta a++[(2,[41])])).length=i+1+1+(kta a).length+1:=by simp only[Ac,Ad,Ak];omega
    rw[e,hk,Qof cD ht];exact Qcq (by rw[Q1k cD]) hn (by unfold nd;omega) h1 (Q4o h2) (Q5b ha h2) (Yh h2)
   ·have hc:fone.contains t=false:=by
     clear h;simp only[ftim,A8,A5,or_false]at ht;rcases ht with rfl|rfl|rfl<;>decide
    rw[ktf,if_neg (by omega),if_neg (by rw[hc];decide)]at h0⊢;have cD:Tl U i ((0,t)::(2,[40])::(ktf a++(2,[41])::c::B)):=by simpa using h0
    have h1:=Z5 cD;have h2:=Z5 h1;have e:i+((0,t)::(2,[40])::(ktf a++[(2,[41])])).length=i+1+1+(ktf a).length+1:=by simp only[Ac,Ad,Ak];omega
    rw[e,hk,Qoj cD ht];have na:nd a+2<=nd (.mk 10 t n p [a]):=Q26 (by simp);exact Qcq (by rw[Q1k cD]) hn (by omega) h1 (Q4o h2) (((Q1b a ha).1 0 f (lv+1) _ _ _ (by omega) (Ay _) h2 Q6p).up (by omega)) (Yh h2)
 | .mk k t n p [a,b],h=>by
  obtain⟨hn,h'⟩:=Qfe h;rcases h' with⟨hk,h'⟩|⟨hk,ha,hb,h'⟩
  ·refine Q6a (by simp[lvl,Syn.kind,hk]) fun f lv i c B h0=>?_
   have nb:nd b+2<=nd (.mk 10 t n p [a,b]):=Q26 (by simp);have two:∀(kb:List KT) (r r':Rd),Tl U i (((0,t)::(2,[40])::(kta a++(2,[44])::(kb++[(2,[41])])))++c::B)->rd Q8 U (f+1) .lit lv i=arguments U (tk U i) [r,r'] lv (i+1) ->
     (∀c B,Tl U (i+1+1) (kta a++c::B)->DNd (lv+nd (.mk 10 t n p [a,b])) a (i+1+1+(kta a).length) (r (lv+1) (i+1+1))) ->
     (∀B j,Tl U j (kb++(2,[41])::B)->DNd (lv+nd (.mk 10 t n p [a,b])) b (j+kb.length) (r' (lv+1) j)) ->
     DNd (lv+nd (.mk k t n p [a,b])) (.mk k t n p [a,b]) (i+((0,t)::(2,[40])::(kta a++(2,[44])::(kb++[(2,[41])]))).length) (rd Q8 U (f+1) .lit lv i):=by
    intro kb r r' h0 he hr cw;have cD:Tl U i ((0,t)::(2,[40])::(kta a++(2,[44])::(kb++(2,[41])::c::B))):=by simpa using h0
    have h1:=Z5 cD;have h2:=Z5 h1;have h3:=Yh h2;have h4:=Z5 h3;have e:i+((0,t)::(2,[40])::(kta a++(2,[44])::(kb++[(2,[41])]))).length=i+1+1+(kta a).length+1+kb.length+1:=by simp only[Ac,Ad,Ak];omega
    rw[e,he,hk];exact Qlg (by rw[Q1k cD]) hn (by unfold nd;omega) h1 (Q4o h2) (hr _ _ h2) h3 (Q4o h4) (cw _ _ h4) (Yh h4)
   have iy:∀K,Tl U i (((0,t)::(2,[40])::K)++c::B)->Tl U i ((0,t)::(2,[40])::(K++c::B)):=fun K h=>h
   rcases h' with⟨ht,ha,hb⟩|⟨ht,ha,hb⟩|⟨ht,ha,hb⟩
   ·have hc:ftwo.contains t=true:=by simpa using ht
    rw[ktf,if_pos hk,if_pos hc]at h0⊢;exact two _ _ _ h0 (Qol (iy _ h0) ht) (fun c B h=>Q5b ha h) (fun B j h=>Q5b hb h)
   ·have hc:ftwo.contains t=false:=by clear h;subst ht;decide
    rw[ktf,if_pos hk,if_neg (by rw[hc];decide)]at h0⊢;exact two _ _ _ h0 (Qod (ht▸iy _ h0)) (fun c B h=>Q5b ha h) (fun B j h=>((Q1b b hb).1 0 f (lv+1) _ _ _ (by omega) (Ay _) h Q6p).up (by omega))
   ·have hc:ftwo.contains t=false:=by
     clear h;simp only[fset,A8,A5,or_false]at ht;rcases ht with rfl|rfl|rfl<;>decide
    rw[ktf,if_pos hk,if_neg (by rw[hc];decide)]at h0⊢;exact two _ _ _ h0 (Qoi (iy _ h0) ht) (fun c B h=>Qlf ha h) (fun B j h=>((Q1b b hb).1 0 f (lv+1) _ _ _ (by omega) (Ay _) h Q6p).up (by omega))
  ·have ia:=Q1b a ha
   have ib:=Q1b b hb;rcases h' with ht|ht|ht
   ·have ho:opP 2 t=some (0,1,0):=by rw[ht];decide
    have jd:lvl 2 (.mk k t n p [a,b])=0:=by rw[hk];exact Qec ho
    have h1:RdF U (.mk k t n p [a,b]):=fun m f lv i c B hm hle h0 hs=>by
     rw[jd]at hle;obtain rfl:m=0:=by omega
     cases f with
     | zero=>trivial
     | succ f=>
      have na:nd a+2<=nd (.mk k t n p [a,b]):=Q26 (by simp);have nb:nd b+2<=nd (.mk k t n p [a,b]):=Q26 (by simp);show DNd (lv+nd (.mk k t n p [a,b])) _ _ (rd Q8 U (f+1) .formula lv i);rw[ktf,if_neg (by omega),(Q5p ho).1,(Q5p ho).2]at h0⊢;rw[AC,AH]at h0;have t1:=Yh h0;have t2:=Z5 t1;obtain⟨d,K,lg⟩:=Q3k (A:=parK (decide (lvl 2 b<0)) (ktf b)) (c:=c) (B:=B);have t1':=t1;rw[lg]at t1';rw[rd];dsimp only
      refine((operF (m:=1) ia.1 (by omega) (fun h=>by have:=of_decide_eq_false h;omega) h0 (by rw[ht];unfold Jw goF noOp;decide) f lv).up (D':=lv+nd (.mk k t n p [a,b])) (by omega)).bind fun y hy=>?_
      rw[if_pos (Yd t1 (by rw[ht];decide)),Y5 t1'];have e:i+(parK (decide (lvl 2 a<1)) (ktf a)++(0,t)::parK (decide (lvl 2 b<0)) (ktf b)).length=i+(parK (decide (lvl 2 a<1)) (ktf a)).length+1+(parK (decide (lvl 2 b<0)) (ktf b)).length:=by simp only[Ac,Ad];omega
      rw[e];refine(Q7x ((operF (m:=0) ib.1 (by omega) (fun h=>by omega) t2 hs f (lv+1)).up (D':=lv+nd (.mk k t n p [a,b])) (by omega)) (by omega)).bind fun z hz=>?_
      rw[hk,hn,ht];exact Yb (.mk trivial (.cons hy (.cons hz .nil)))
    exact⟨h1,fun p f lv i c B lT _ hle=>by rw[jd]at hle;omega⟩
   ·rw[hk];exact Qca (.inl ⟨rfl,ht⟩) (by rw[ht];decide) hn ia ib.1
   ·rw[hk];exact Qca (.inr ⟨rfl,ht⟩) (by rw[ht];decide) hn ia ib.1
 | .mk _ _ _ _ (_::_::_::_),h=>by simp[okf]at h
end
end
theorem Qe6:prog.mayEnter=true:=by kernel_rfl
end Go.Proofs.YtakdifceogdioaaGreatDoor
namespace Go.Proofs.YtakdifceogdioaaGreatDoor
open Go.Proofs.Tryz
open Go.ChangeShapes Go.WideShapes Go.Deep Go.RowKit
section
theorem Qoc{α:Type}{R:Nat->α->Prop}:∀n:Nat,(∀i,i<n->∃t,R i t)->∃ts:List α,ts.length=n/\∀i (h:i<ts.length),R i ts[i]:=by
 intro n;induction n with
 | zero=>intro _;exact⟨[],rfl,fun i h=>by simp at h⟩
 | succ n ih=>
  intro h;obtain⟨ts,hl,hr⟩:=ih (fun i hi=>h i (by omega));obtain⟨t,ht⟩:=h n (by omega);refine⟨ts++[t],by simp[hl],fun i hi=>?_⟩;by_cases h':i<ts.length
  ·rw[List.getElem_append_left h'];exact hr i h'
  ·have:i=n:=by simp at hi;omega
   subst this;rw[List.getElem_append_right (by omega)];simpa[hl]using ht
section
variable {H:Type} {enc:TypeId×Value->H} {W:World}
theorem Yj(b o k:Nat):(⟨b,o,none⟩:Addr).add k=⟨b,o+k,none⟩:=by unfold Addr.add;by_cases h:k=0<;>simp[h]
theorem Qm5:oneCellFields prog (match prog.underlying 24 with|some (.struct fs)=>fs|_=>#[])=true:=by kernel_rfl
theorem Qdd:prog.cellsOf 24=6:=by kernel_rfl
theorem Qma:∀(n:Nat) (cs:List Value) (x:DataW H×List MemPlace),DataW.trod enc prog W 0 (fun _=>true) true n 24 cs=some x ->
  ∃(t:Fm) (kv:Value),cs=[.int .i64 t.op,.int .i64 t.pr,.int .i64 t.ot,.int .i64 t.va,.int .i64 t.gr,kv]/\FmR W t.args kv:=by
 intro n;induction n using Nat.strongRecOn with
 | ind n ih=>
  intro cs x h;have hs:=Qm5;rw[underlying24]at hs;obtain⟨ys,n',n4,hy,hlen,nk,cm⟩:=DataW.trod_struct underlying24 h;rw[Qdd]at hlen;obtain⟨o0,k0⟩:=hone_of hs 0 _ rfl;obtain⟨o1,k1⟩:=hone_of hs 1 _ rfl;obtain⟨o2,k2⟩:=hone_of hs 2 _ rfl;obtain⟨o3,k3⟩:=hone_of hs 3 _ rfl;obtain⟨o4,k4⟩:=hone_of hs 4 _ rfl;obtain⟨o5,k5⟩:=hone_of hs 5 _ rfl;have nk:ys.length=6:=nk;match cs,hlen,ys,nk with
  | [x0,x1,x2,x3,x4,x5],_,[y0,y1,y2,y3,y4,y5],_=>
   have f0:=cm 0 _ rfl;have f1:=cm 1 _ rfl;have f2:=cm 2 _ rfl;have f3:=cm 3 _ rfl;have f4:=cm 4 _ rfl;have f5:=cm 5 _ rfl;rw[o0,k0]at f0;rw[o1,k1]at f1;rw[o2,k2]at f2;rw[o3,k3]at f3;rw[o4,k4]at f4;rw[o5,k5]at f5;obtain⟨z0,e0,_,_⟩:=DataW.trod_int underlying3 (show DataW.trod enc prog W 0 (fun _=>true) true n' 3 [x0]=some y0 by simpa using f0);obtain⟨z1,e1,_,_⟩:=DataW.trod_int underlying3 (show DataW.trod enc prog W 0 (fun _=>true) true n' 3 [x1]=some y1 by simpa using f1);obtain⟨z2,e2,_,_⟩:=DataW.trod_int underlying3 (show DataW.trod enc prog W 0 (fun _=>true) true n' 3 [x2]=some y2 by simpa using f2);obtain⟨z3,e3,_,_⟩:=DataW.trod_int underlying3 (show DataW.trod enc prog W 0 (fun _=>true) true n' 3 [x3]=some y3 by simpa using f3);obtain⟨z4,e4,_,_⟩:=DataW.trod_int underlying3 (show DataW.trod enc prog W 0 (fun _=>true) true n' 3 [x4]=some y4 by simpa using f4);have f5':DataW.trod enc prog W 0 (fun _=>true) true n' 22 [x5]=some y5:=by simpa using f5
   have key:∃l:List Fm,FmR W l x5:=by
    rcases DataW.trod_slice underlying22 f5' with⟨hc,_⟩|⟨a,len,cap,elems,rest,m,hm,hc,_,_,hl,_,sV,hi,_⟩
    ·injection hc with hc _;subst hc;exact⟨[],.nil⟩
    ·injection hc with hc _;subst hc
     by_cases hz:len=0
     ·subst hz;exact⟨[],.nil⟩
     have one:∀i,i<len->∃t:Fm,∃kv,(∀j (hj:j<6),W.cell? ((a.add (i*6)).add j)=[Value.int .i64 t.op,.int .i64 t.pr,.int .i64 t.ot,.int .i64 t.va,.int .i64 t.gr,kv][j]?)/\FmR W t.args kv:=by intro i gq;have hb:=hi i gq;rw[List.getElem?_eq_getElem (by omega)]at hb;obtain⟨cs',g1,g2⟩:=Option.bind_eq_some_iff.1 hb;rw[Qdd]at g1;obtain⟨t,kv,bU,hk⟩:=ih m (by omega) cs' _ g2;obtain⟨_,_,cC⟩:=World.cells?_some g1;refine⟨t,kv,fun j hj=>?_,hk⟩;rw[cC j hj,bU]
     obtain⟨l,kU,hr⟩:=Qoc len one;subst kU;have h0:0<l.length:=by omega
     obtain⟨kv,t8,-⟩:=hr 0 h0;obtain⟨b,o,rfl⟩:∃b o,a=(⟨b,o,none⟩:Addr):=by
      have:=t8 0 (by omega);obtain⟨b,off,spot⟩:=a;have pJ:spot=none:=by simpa[Addr.add]using World.cell?_spot (a:=(Addr.add (Addr.add ⟨b,off,spot⟩ (0*6)) 0)) this
      exact⟨b,off,by rw[pJ]⟩
     refine⟨l,?_⟩;have cw:∀i,∃u,∀(hi:i<l.length),(∀j (hj:j<6),W.cell? (((⟨b,o,none⟩:Addr).add (i*6)).add j)=[Value.int .i64 l[i].op,.int .i64 l[i].pr,.int .i64 l[i].ot,.int .i64 l[i].va,.int .i64 l[i].gr,u][j]?)/\FmR W l[i].args u:=by
      intro i;by_cases hi:i<l.length
      ·obtain⟨u,h1,h2⟩:=hr i hi
       exact⟨u,fun _=>⟨h1,h2⟩⟩
      ·exact⟨.bool false,fun h=>absurd h hi⟩
     have hu:∃u:Nat->Value,∀i (hi:i<l.length),(∀j (hj:j<6),W.cell? (((⟨b,o,none⟩:Addr).add (i*6)).add j)=[Value.int .i64 l[i].op,.int .i64 l[i].pr,.int .i64 l[i].ot,.int .i64 l[i].va,.int .i64 l[i].gr,u i][j]?)/\FmR W l[i].args (u i):=⟨fun i=>Classical.choose (cw i),fun i hi=>Classical.choose_spec (cw i) hi⟩;obtain⟨u,hu⟩:=hu;refine .row (u:=u) (fun i hi=>?_) (fun i hi=>(hu i hi).2) hl;have hh:=(hu i hi).1;refine⟨?_,?_,?_,?_,?_,?_⟩
     ·have h:=hh 0 (by omega);rw[Yj,Yj]at h;simpa using h
     ·have h:=hh 1 (by omega);rw[Yj,Yj]at h;simpa using h
     ·have h:=hh 2 (by omega);rw[Yj,Yj]at h;simpa using h
     ·have h:=hh 3 (by omega);rw[Yj,Yj]at h;simpa using h
     ·have h:=hh 4 (by omega);rw[Yj,Yj]at h;simpa using h
     ·have h:=hh 5 (by omega);rw[Yj,Yj]at h;simpa using h
   obtain⟨l,hk⟩:=key;injection e0 with e0 _
   injection e1 with e1 _
   injection e2 with e2 _
   injection e3 with e3 _
   injection e4 with e4 _
   subst e0 e1 e2 e3 e4;exact⟨.mk z0 z1 z2 z3 z4 l,x5,by simp[Fm.op,Fm.pr,Fm.ot,Fm.va,Fm.gr],hk⟩
theorem Qpx{b0:Nat}{v:Value}{d:DataW H}{p:List MemPlace}(bK:Value.okWide prog W .any b0 24 v)(h:DataW.Trod enc prog W 0 (fun _=>true) true 24 v d p):
  ∃(t:Fm) (q:Option Addr) (c:Nat),v=fmV t q c/\FmR W t.args (.slice q t.args.length c):=by
 have hv:∃cs,v=.agg cs:=by simp only[Value.okWide,underlying24]at bK;obtain⟨cs,h1,h2,_⟩:=bK;exact⟨cs,h1⟩
 obtain⟨cs,rfl⟩:=hv;obtain⟨fuel,hf⟩:=h;obtain⟨t,kv,bU,hk⟩:=Qma fuel _ _ hf;obtain⟨q,c,e⟩:=hk.form;subst e;refine⟨t,q,c,?_,hk⟩;have:cs=#[.int .i64 t.op,.int .i64 t.pr,.int .i64 t.ot,.int .i64 t.va,.int .i64 t.gr,.slice q t.args.length c]:=by apply Array.toList_inj.1;simpa[Value.cells]using bU
 rw[this]
end
end
end Go.Proofs.YtakdifceogdioaaGreatDoor