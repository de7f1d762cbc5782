/- Walks of functions, and plain facts. -/
import Derived.Handy
import Derived.Deep.CutBlock
import Derived.Deep.DrawnRows
import Derived.Test.YtakdifceogdioaaGreatDoorM05
import Derived.Test.YtakdifceogdioaaGreatDoorM06
import Derived.Test.YtakdifceogdioaaGreatDoorM07
import Derived.Test.YtakdifceogdioaaGreatDoorM08
import Derived.Test.YtakdifceogdioaaGreatDoorM01
import Derived.Test.YtakdifceogdioaaGreatDoorM03
import Derived.Test.YtakdifceogdioaaGreatDoorM02
import Derived.Test.YtakdifceogdioaaGreatDoorM04
open Array renaming getElem?_eq_some_iff->A3
open Bool renaming and_eq_false_iff->BY,and_eq_true->Ai
open Go.Lib renaming frozen_of_heap->Aq
open Go.World renaming alloc->A0,setCell->A9
open List renaming cons_append->AL,drop_drop->B0,drop_eq_nil_of_le->AF,getD_eq_getElem?_getD->Av,getElem?_eq_getElem->Ah,getElem?_eq_none->Bj,getElem?_map->AY,getElem_mem->Ae,length->Bk,length_append->Ac,length_cons->Ad,length_drop->Ax,length_pos_iff->BE,length_take->AG,mem_append_left->BK,mem_append_right->Bw,mem_cons->A8,mem_cons_of_mem->Ab,mem_cons_self->A5,mem_singleton->Aj,nil_append->Ba,nodup_nil->Bp,not_mem_nil->A7,singleton_append->BJ,sizeOf_lt_of_mem->Ar,take_append_of_le_length->Bm,take_length->BV
open Nat renaming add_zero->Bt,le_of_lt->Cb,le_refl->A4,le_trans->Ao,lt_or_ge->B9,lt_succ_self->Af,mod_lt->Ce,not_lt_zero->AX,zero_le->AA
open Option.some renaming inj->Ap
set_option linter.unusedVariables false
set_option linter.unusedSimpArgs false
set_option maxHeartbeats 20000000
set_option maxRecDepth 100000
namespace Go.Proofs.YtakdifceogdioaaGreatDoor
open Go.Proofs.Tryz
open Go.RowKit
theorem Qtu:∀(m:Nat) (t:Syn),SizeOf.sizeOf t<m->Mod t->∀(k:Nat),2<=k/\k<=2->∀(q:Option Addr) (d:Nat) (W:World),KidR W t.kids (.slice q t.kids.length d) ->
  Calls prog 109 #[.int .i64 k,Q7 t q d] W (Qi W (okP k t)):=by
 intro m;induction m with
 | zero=>intro t h;omega
 | succ m ih=>
  intro t hm hM k hk q d w ad;obtain⟨kd,tx,n,a,ks⟩:=t;have ad:KidR w ks (.slice q ks.length d):=ad;have hl:ks.length<=100000:=hM.len;have hV:∀w',Q5y w' ks:=fun w' i hi k hk q d W hb aT=>by have h1:=Ar (Ae hi);simp only[Syn.mk.sizeOf_spec]at hm;exact ih _ (by omega) (hM.kid _ (Ae hi)) k hk q d W aT
  by_cases cZ:kd=11
  ·subst cZ;exact Qtw k hk tx n a ks q d w hl ad (fun i hi=>hV w i hi k hk)
  by_cases fN:kd=12
  ·subst fN;exact Qtz k hk tx n a ks q d w hl ad (fun i hi=>hV w i hi k hk)
  by_cases cq:kd=10
  ·subst cq
   refine Qtx k hk tx n a ks q d w (fun W hb=>?_);have kU:=ad.low hb;have oK:=hV W;obtain rfl:k=2:=by omega
   match ks,hM,kU,oK with
   | [],_,_,_=>exact Qnn tx n a q d W
   | [x],_,kU,oK=>exact Qno tx n a x q d W kU oK
   | [x,y],hM,kU,oK=>exact Qnp tx n a x y q d W (fun z hz=>(hM.kid z hz).len) kU oK
   | x::y::z::l,_,_,_=>exact Qnq tx n a x y z l q d W
  exact Qty k hk kd tx n a ks q d w cq cZ fN
theorem Qto(t:Syn)(hM:Mod t)(k:Nat)(hk:2<=k/\k<=2)(q:Option Addr)(d:Nat)(W:World)(ad:KidR W t.kids (.slice q t.kids.length d)):
  Calls prog 109 #[.int .i64 k,Q7 t q d] W (Qi W (okP k t)):=Qtu _ t (Af _) hM k hk q d W ad
end Go.Proofs.YtakdifceogdioaaGreatDoor
namespace Go.Proofs.YtakdifceogdioaaGreatDoor
open Go.Proofs.Tryz
def Qgt(t:Tok):Prop:=t.kind=1->t.text≠[]/\(∀c∈t.text,Q6 c.toNat=true)/\dv 0 t.text<=1048576
theorem Qtm{l:List UInt8}{n:Nat}(h:tok l=.ok (1,n)):l.take n≠[]/\(∀c∈l.take n,Q6 c.toNat=true)/\dv 0 (l.take n)<=1048576:=by
 unfold tok at h;by_cases h1:Q0 Q3 l=0
 ·rw[if_pos h1]at h;split at h<;>simp at h
 rw[if_neg h1]at h;by_cases h2:Q0 Qv l=0
 ·rw[if_pos h2]at h
  by_cases h3:Q0 Q6 l<Q0 Q3 l
  ·rw[if_pos h3]at h;simp at h
  rw[if_neg h3]at h;by_cases h4:(Zk 0 (l.take (Q0 Q3 l))).isNone=true
  ·rw[if_pos h4]at h;simp at h
  rw[if_neg h4]at h;simp only[Except.ok.injEq,Prod.mk.injEq,true_and]at h;subst h;have hle:=Yi Q3 l;refine⟨fun e=>?_,fun c hc=>?_,?_⟩
  ·have:min (Q0 Q3 l) l.length=0:=by rw[<-AG,e];rfl
   omega
  ·refine Qes Q6 l c ?_
   have hm:=Yi Q6 l;have:l.take (Q0 Q3 l)=(l.take (Q0 Q6 l)).take (Q0 Q3 l):=by rw[List.take_take,Nat.min_eq_left (by omega)]
   rw[this]at hc;exact List.mem_of_mem_take hc
  ·rw[Q9o _ _ (by omega)]at h4
   split at h4
   ·assumption
   ·simp at h4
 ·rw[if_neg h2]at h
  split at h<;>simp at h
theorem Qrp(f:Nat):∀(p:Nat) (l:List UInt8) (ts:List Tok),J1 f p l=.ok ts->∀t∈ts,Qgt t/\t.text.length<=l.length:=by
 induction f with
 | zero=>intro p l ts h;simp[J1]at h;subst h;simp
 | succ f ih=>
  intro p l ts h;simp only[J1]at h;split at h
  ·simp only[Except.ok.injEq]at h;subst h
   intro t ht;rw[Aj.1 ht];exact⟨fun h=>by simp at h,by simp⟩
  ·rename_i c r hd
   have hlen:(c::r).length<=l.length:=by rw[<-hd];simp
   split at h
   ·simp at h
   ·rename_i kind n ht
    split at h
    ·simp at h
    ·rename_i us hu
     simp only[Except.ok.injEq]at h;subst h;intro t hm;rcases A8.1 hm with rfl|hm
     ·refine⟨fun hk=>?_,by rw[AG];omega⟩
      have bY:kind=1:=by simp only at hk;omega
      subst bY;exact Qtm ht
     ·obtain⟨q1,q2⟩:=ih _ _ _ hu t hm
      refine⟨q1,Ao q2 ?_⟩;rw[Ax];omega
theorem Qrm(f:Nat):∀(p:Nat) (l:List UInt8) (ts:List Tok),l.length<f->J1 f p l=.ok ts->∃a t,ts=a++[t]/\t.kind=3:=by
 induction f with
 | zero=>intro p l ts hl;omega
 | succ f ih=>
  intro p l ts hl h;simp only[J1]at h;split at h
  ·simp only[Except.ok.injEq]at h;subst h
   exact⟨[],_,rfl,rfl⟩
  ·rename_i c r hd
   have hlen:(c::r).length<=l.length:=by rw[<-hd];simp
   split at h
   ·simp at h
   ·rename_i kind n ht
    have hp:=Q1z ht;split at h
    ·simp at h
    ·rename_i us hu
     simp only[Except.ok.injEq]at h;subst h;obtain⟨a,t,rfl,hk⟩:=ih _ _ _ (by rw[Ax];omega) hu;exact⟨_::a,t,rfl,hk⟩
theorem Qfn(x:UInt8)(r:List UInt8):skip false (x::r)=if x.toNat=35 then skip true r+1 else if Qo x.toNat then skip false r+1 else 0:=rfl
theorem Qg7{l:List UInt8}{k n:Nat}(h:tok l=.ok (k,n)):k<=2:=by unfold tok at h;(repeat' split at h)<;>simp at h<;>omega
theorem tokClass{x:List UInt8}{k:Nat}(h:tok x=.ok (k,x.length)):x≠[]/\((k<=1/\Q0 Q3 x=x.length)∨(k=2/\x∈J2)):=by
 have hp:=Q1z h;refine⟨fun e=>by subst e;simp at hp,?_⟩;by_cases hw:Q0 Q3 x=0
 ·right
  rw[Qg8 hw]at h;split at h
  ·simp at h
  ·rename_i am
   simp only[Except.ok.injEq,Prod.mk.injEq]at h;refine⟨h.1.symm,?_⟩;rcases Qj2 J2 x with e|e
   ·exact absurd e am
   ·have hl:=h.2
    rw[Q79]at e hl;have:=Q5j x;rw[AG]at hl;rwa[List.take_of_length_le (by omega)]at e
 ·left
  have:=Qtk h hw;have:=Qg7 h;omega
theorem Qqx{p:Int->Bool}{x:List UInt8}(y:List UInt8)(h:Q0 p x=x.length):Q0 p (x++y)=x.length+Q0 p y:=by
 induction x with
 | nil=>simp
 | cons c r ih=>
  simp only[Q0]at h;split at h
  ·rename_i hc
   rw[AL,Q0,if_pos hc,ih (by simpa using h)];simp;omega
  ·simp at h
theorem Qep{p:Int->Bool}{x:List UInt8}(y:List UInt8)(h:Q0 p x<x.length):Q0 p (x++y)=Q0 p x:=by
 induction x with
 | nil=>simp at h
 | cons c r ih=>
  simp only[Q0]at h⊢;rw[AL,Q0];split
  ·rename_i hc
   rw[if_pos hc]at h;rw[ih (by simpa using h)]
  ·rfl
def fits(x y:List UInt8):Prop:=∀c,y.head?=some c->(0<Q0 Q3 x->Q3 c.toNat=false)/\¬ (x=[60]/\c=61)
theorem Qqz{p:Int->Bool}{y:List UInt8}(h:∀c,y.head?=some c->p c.toNat=false):Q0 p y=0:=by
 cases y with
 | nil=>rfl
 | cons c r=>rw[Q0,if_neg (by rw[h c rfl];simp)]
theorem Qgk(c:Int):Q3 c=false->Qv c=false/\Q6 c=false:=by unfold Q3;simp
theorem Q8z{p:Int->Bool}(hp:∀c,Q3 c=false->p c=false){x y:List UInt8}(hf:fits x y)(hx:x≠[])(hw:Q0 Q3 x=x.length):Q0 p (x++y)=Q0 p x:=by
 have cl:0<Q0 Q3 x:=by rw[hw];exact BE.2 hx
 by_cases h:Q0 p x=x.length
 ·rw[Qqx y h,Qqz (fun c hc=>hp _ ((hf c hc).1 cl)),h];rfl
 ·have:=Yi p x
  exact Qep y (by omega)
theorem Qs8:∀x∈J2,∀y:List UInt8,¬ (x=[60]/\y.head?=some 61)->Qw (x++y)=x.length:=by intro x hx y h;simp only[J2,A8,A7,or_false]at hx;rcases hx with rfl|rfl|rfl|rfl|rfl|rfl|rfl|rfl|rfl|rfl|rfl|rfl|rfl;all_goals cases y<;>simp_all[Qw,Jv]
theorem Qtj{x y:List UInt8}{k:Nat}(h:tok x=.ok (k,x.length))(hf:fits x y):tok (x++y)=.ok (k,x.length):=by
 obtain⟨hx,hc⟩:=tokClass h;rcases hc with⟨hk,hw⟩|⟨rfl,hm⟩
 ·have h1:=Q8z (p:=Q3) (fun _ h=>h) hf hx hw
  have h2:=Q8z (p:=Qv) (fun c h=>(Qgk c h).1) hf hx hw;have h3:=Q8z (p:=Q6) (fun c h=>(Qgk c h).2) hf hx hw;have cl:0<Q0 Q3 x:=by rw[hw];exact BE.2 hx
  have h4:(x++y).take (Q0 Q3 x)=x.take (Q0 Q3 x):=Bm (Yi _ _);rw[<-h];unfold tok;have am:¬ Q0 Q3 x=0:=by omega
  rw[h1,h2,h3,h4,if_neg am,if_neg am]
 ·have h0:=Qs9 x hm
  have hs:Qw (x++y)=x.length:=Qs8 x hm y (fun e=>(hf 61 e.2).2 ⟨e.1,rfl⟩);have h1:Q0 Q3 (x++y)=0:=by rw[Qep y (by rw[h0];exact BE.2 hx),h0]
  have cl:0<x.length:=BE.2 hx;unfold tok;rw[if_pos h1,hs,if_neg (by omega)]
theorem Qk8{x:List UInt8}{k:Nat}(h:tok x=.ok (k,x.length))(y:List UInt8):skip false (x++y)=0:=by
 obtain⟨hx,hc⟩:=tokClass h;match x,hx with
 | c::r,_=>
  have hh:c.toNat≠35/\Qo c.toNat=false:=by
   rcases hc with⟨_,hw⟩|⟨_,hm⟩
   ·have:=Qeq hw c (by simp)
    constructor
    ·intro e;rw[e]at this;exact absurd this (by decide)
    ·cases hb:Qo c.toNat
     ·rfl
     ·have:Q3 c.toNat=false:=by
       simp[Qo]at hb;rcases hb with((e|e)|e)|e<;>rw[show(c.toNat:Int)=_ from e]<;>decide
      simp_all
   ·simp only[J2,A8,A7,or_false,List.cons.injEq]at hm
    rcases hm with h|h|h|h|h|h|h|h|h|h|h|h|h<;>(obtain⟨rfl,_⟩:=h;decide)
  rw[AL,Qfn,if_neg hh.1,if_neg (by rw[hh.2];simp)]
theorem Qti{l:List UInt8}{d e:Nat}(h:tok l=.error (d,e)):0<e:=by unfold tok at h;(repeat' split at h)<;>simp at h<;>omega
theorem Qrl(f:Nat):∀(p:Nat) (l:List UInt8) (d e:Nat),J1 f p l=.error (d,e)->0<e:=by
 induction f with
 | zero=>intro p l d e h;simp[J1]at h
 | succ f ih=>
  intro p l d e h;simp only[J1]at h;split at h
  ·simp at h
  ·split at h
   ·rename_i ht
    simp only[Except.error.injEq,Prod.mk.injEq]at h;have:=Qti ht;omega
   ·split at h
    ·rename_i x hx
     simp only[Except.error.injEq]at h;subst h;exact ih _ _ _ _ hx
    ·simp at h
theorem Qf4{l:List UInt8}{d e:Nat}(h:scan l=.error (d,e)):0<e:=by
 unfold scan at h;split at h
 ·simp only[Except.error.injEq,Prod.mk.injEq]at h;omega
 ·exact Qrl _ _ _ _ _ h
section
def On{α:Type}(T:List Tok)(i:Nat)(o:Out α):Prop:=∀a j,o=.ok a j->i<j/\j<T.length
def On0{α:Type}(T:List Tok)(i:Nat)(o:Out α):Prop:=∀a j,o=.ok a j->i<=j/\j<T.length
section
variable {T:List Tok} {i lv:Nat} (hl:(tk T (T.length-1)).kind=3) {res:List UInt8->Bool}
theorem Qr(hl:(tk T (T.length-1)).kind=3)(hi:i<T.length)(hk:(tk T i).kind≠3):nx T i=i+1/\i+1<T.length:=by
 have:i+1<T.length:=by
  rcases B9 (i+1) T.length with h|h
  ·exact h
  ·have:i=T.length-1:=by omega
   subst this;exact absurd hl hk
 exact⟨if_pos this,this⟩
theorem Q9{ws:List (List UInt8)}(h:isW T ws i=true):(tk T i).kind≠3:=by intro e;unfold isW at h;rw[e]at h;simp at h
theorem On.bind{α β:Type}{o:Out α}{f:α->Nat->Out β}(h:On T i o)(hf:∀a j,i<j->j<T.length->On0 T j (f a j)):On T i (o.bind f):=by
 cases o with
 | none=>intro b j e;cases e
 | err p e=>intro b j e;cases e
 | ok a k=>obtain⟨h1,h2⟩:=h a k rfl;intro b j e;obtain⟨h3,h4⟩:=hf a k h1 h2 b j e;exact⟨by omega,h4⟩
theorem On.zero{α:Type}{o:Out α}(h:On T i o):On0 T i o:=fun a j e=>⟨Cb (h a j e).1,(h a j e).2⟩
theorem On0.bind{α β:Type}{o:Out α}{f:α->Nat->Out β}(h:On0 T i o)(hf:∀a j,i<=j->j<T.length->On0 T j (f a j)):On0 T i (o.bind f):=by
 cases o with
 | none=>intro b j e;cases e
 | err p e=>intro b j e;cases e
 | ok a k=>obtain⟨h1,h2⟩:=h a k rfl;intro b j e;obtain⟨h3,h4⟩:=hf a k h1 h2 b j e;exact⟨by omega,h4⟩
theorem On0.ok{α:Type}{a:α}(hi:i<T.length):On0 T i (.ok a i):=fun b j e=>by cases e;exact⟨A4 _,hi⟩
theorem On.step{α:Type}{a:α}(hl:(tk T (T.length-1)).kind=3)(hi:i<T.length)(hk:(tk T i).kind≠3):On T i (.ok a (nx T i)):=fun b j e=>by obtain⟨h1,h2⟩:=Qr hl hi hk;cases e;omega
theorem On.fail{α:Type}(e:Nat):On T i (fail T e i:Out α):=fun _ _ e=>by cases e
theorem Y7(hl:(tk T (T.length-1)).kind=3)(s:List UInt8)(hi:i<T.length):On T i (need T s i):=by
 unfold need;split
 ·rename_i h;exact On.step hl hi (Q9 h)
 ·exact On.fail _
theorem Q2b(hl:(tk T (T.length-1)).kind=3)(hi:i<T.length):On T i (name res T i):=by
 unfold name;split
 ·exact On.fail _
 ·rename_i h
  refine On.step hl hi fun e=>h (.inl ?_)
  rw[e];decide
theorem Zj(hl:(tk T (T.length-1)).kind=3)(hi:i<T.length):On T i (number T i):=by
 unfold number;split
 ·exact On.fail _
 ·rename_i h
  refine On.step hl hi fun e=>h ?_
  rw[e];decide
theorem On.behind{α:Type}{o:Out α}(hl:(tk T (T.length-1)).kind=3)(hi:i<T.length)(hk:(tk T i).kind≠3)(h:∀j,i<j->j<T.length->nx T i=j->On0 T j o):On T i o:=fun a j e=>by obtain⟨h1,h2⟩:=Qr hl hi hk;obtain⟨h3,h4⟩:=h (i+1) (by omega) h2 h1 a j e;exact⟨by omega,h4⟩
def OnR(T:List Tok)(r:Rd):Prop:=∀lv i,i<T.length->On T i (r lv i)
theorem Q2h{r:Rd}(hr:OnR T r)(hi:i<T.length):On T i (within T r lv i):=by
 unfold within;split
 ·exact On.fail _
 ·exact hr _ _ hi
theorem Q56{r:Rd}(hl:(tk T (T.length-1)).kind=3)(hr:OnR T r)(hi:i<T.length):On T i (parens T r lv i):=(Y7 hl _ hi).bind fun _ _ _ h=>((Q2h hr h).bind fun _ _ _ h=>((Y7 hl _ h).bind fun _ _ _ h=>On0.ok h).zero).zero
theorem Qhi{rs:List Rd}(hl:(tk T (T.length-1)).kind=3)(hr:∀r∈rs,OnR T r):∀i,i<T.length->On0 T i (Qn.argsMore T rs lv i):=by
 induction rs with
 | nil=>intro i hi;exact On0.ok hi
 | cons r rs ih=>intro i hi;exact((Y7 hl _ hi).bind fun _ _ _ h=>((hr r (A5 ..) _ _ h).bind fun _ _ _ h=>(ih (fun r h=>hr r (Ab _ h)) _ h).bind fun _ _ _ h=>On0.ok h).zero).zero
theorem Qa1{rs:List Rd}(hl:(tk T (T.length-1)).kind=3)(hr:∀r∈rs,OnR T r)(hi:i<T.length):On0 T i (Qn T rs lv i):=by
 cases rs with
 | nil=>exact On0.ok hi
 | cons r rs=>exact((hr r (A5 ..) _ _ hi).bind fun _ _ _ h=>(Qhi hl (fun r h=>hr r (Ab _ h)) _ h).bind fun _ _ _ h=>On0.ok h).zero
theorem Q2q{rs:List Rd}{w:Tok}(hl:(tk T (T.length-1)).kind=3)(hr:∀r∈rs,OnR T r)(hi:i<T.length):On T i (arguments T w rs lv i):=
 (Y7 hl _ hi).bind fun _ _ _ h=>by
  split
  ·exact(On.fail _).zero
  ·exact(Qa1 hl hr h).bind fun _ _ _ h=>((Y7 hl _ h).bind fun _ _ _ h=>On0.ok h).zero
theorem Ql9{r:Rd}{ops:List (List UInt8)}(hl:(tk T (T.length-1)).kind=3)(hr:OnR T r)(g:Nat):∀x i,i<T.length->On0 T i (Zh T r ops lv g x i):=by
 induction g with
 | zero=>intro x i _ a j e;cases e
 | succ g ih=>
  intro x i hi;unfold Zh;split
  ·rename_i h
   refine(On.behind hl hi (Q9 h) fun j h1 h2 e=>?_).zero;rw[e];exact((hr _ _ h2).bind fun _ _ _ h=>ih _ _ h).zero
  ·exact On0.ok hi
theorem Q1k{r:Rd}{ops:List (List UInt8)}(hl:(tk T (T.length-1)).kind=3)(hr:OnR T r):OnR T (left T r ops):=fun _ _ hi=>(hr _ _ hi).bind fun _ _ _ h=>Ql9 hl hr _ _ _ h
theorem Qfd(hl:(tk T (T.length-1)).kind=3)(g:Nat):∀xs i,i<T.length->On0 T i (Zo T g xs i):=by
 induction g with
 | zero=>intro x i _ a j e;cases e
 | succ g ih=>
  intro x i hi;unfold Zo;split
  ·rename_i h
   refine(On.behind hl hi (Q9 h) fun j h1 h2 e=>?_).zero;rw[e];exact((Zj hl h2).bind fun _ _ _ h=>ih _ _ h).zero
  ·exact On0.ok hi
theorem Q5h(hl:(tk T (T.length-1)).kind=3)(hi:i<T.length):On T i (setR T i):=by
 unfold setR;split
 ·rename_i h;exact On.step hl hi (Q9 h)
 ·refine(Y7 hl _ hi).bind fun _ j _ hj=>?_
  split
  ·rename_i h;exact(On.step hl hj (Q9 h)).zero
  ·exact((Zj hl hj).bind fun _ _ _ h=>(Qfd hl _ _ _ h).bind fun _ _ _ h=>((Y7 hl _ h).bind fun _ _ _ h=>On0.ok h).zero).zero
theorem Qcv{r:Rd}(hl:(tk T (T.length-1)).kind=3)(hr:OnR T r)(hi:i<T.length)(hk:(tk T i).kind≠3):On T i (notR T r lv i):=On.behind hl hi hk fun j _ h2 e=>by unfold notR;rw[e];exact((Q2h hr h2).bind fun _ _ _ h=>On0.ok h).zero
theorem Q0z(hl:(tk T (T.length-1)).kind=3)(f:Nat):∀nt,OnR T (rd res T f nt):=by
 induction f with
 | zero=>intro nt lv i _ a j e;cases e
 | succ f ih=>
  intro nt;cases nt with
  | cond=>exact Q1k hl (ih _)
  | conj=>exact Q1k hl (ih _)
  | sum=>exact Q1k hl (ih _)
  | scheme=>exact Q1k hl (ih _)
  | term=>exact Q1k hl (ih _)
  | disj=>exact Q1k hl (ih _)
  | meet=>exact Q1k hl (ih _)
  | neg=>
   intro lv i hi;show On T i (if _ then _ else if _ then _ else _);split
   ·rename_i h;exact Qcv hl (ih _) hi (Q9 h)
   ·split
    ·rename_i h
     refine On.behind hl hi (Q9 h) fun j _ h2 e=>?_
     rw[e];exact((Q2b hl h2).bind fun _ _ _ h=>((Y7 hl _ h).bind fun _ _ _ h=>((Q2h (ih _) h).bind fun _ _ _ h=>On0.ok h).zero).zero).zero
    ·refine(ih .sum lv i hi).bind fun x j _ hj=>?_
     split
     ·rename_i h
      refine(On.behind hl hj (Q9 h) fun k _ h2 e=>?_).zero;rw[e];exact((ih .sum lv _ h2).bind fun _ _ _ h=>On0.ok h).zero
     ·exact On0.ok hj
  | unit=>
   intro lv i hi;show On T i (if _ then _ else if _ then _ else if _ then _ else if _ then _ else if _ then _ else _);split
   ·exact Zj hl hi
   ·split
    ·rename_i h
     refine On.behind hl hi (Q9 h) fun j _ h2 e=>?_
     rw[e];exact(Q2q hl (fun r hr=>by rw[Aj.1 hr];exact ih _) h2).zero
    ·split
     ·rename_i h
      refine On.behind hl hi (Q9 h) fun j _ h2 e=>?_
      rw[e];exact(Q2q hl (fun r hr=>by simp only[A8,A7,or_false,or_self]at hr;rw[hr];exact ih _) h2).zero
     ·split
      ·rename_i h
       refine On.behind hl hi (Q9 h) fun j _ h2 e=>?_
       rw[e];exact((Q2b hl h2).bind fun _ _ _ h=>((Q56 hl (ih _) h).bind fun _ _ _ h=>On0.ok h).zero).zero
      ·split
       ·exact Q56 hl (ih _) hi
       ·exact Q2b hl hi
  | factor=>
   intro lv i hi;refine(ih .atom lv i hi).bind fun x j _ hj=>?_
   split
   ·rename_i h
    refine(On.behind hl hj (Q9 h) fun k _ h2 e=>?_).zero;rw[e];exact((Zj hl h2).bind fun _ _ _ h=>((Q2h (ih _) h).bind fun _ _ _ h=>On0.ok h).zero).zero
   ·exact On0.ok hj
  | atom=>
   intro lv i hi;show On T i (if _ then _ else if _ then _ else if _ then _ else if _ then _ else _);split
   ·rename_i h
    refine On.behind hl hi (Q9 h) fun j _ h2 e=>?_
    rw[e];exact(Q2q hl (fun r hr=>by rw[Aj.1 hr];exact fun _ _ h=>Zj hl h) h2).zero
   ·split
    ·rename_i h;exact On.step hl hi (Q9 h)
    ·split
     ·rename_i h
      refine On.behind hl hi (Q9 h) fun j _ h2 e=>?_
      rw[e];exact(Q2q hl (fun r hr=>by rw[Aj.1 hr];exact ih _) h2).zero
     ·split
      ·exact Q56 hl (ih _) hi
      ·exact Q2b hl hi
  | formula=>
   intro lv i hi;refine(ih .disj lv i hi).bind fun x j _ hj=>?_
   split
   ·rename_i h
    refine(On.behind hl hj (Q9 h) fun k _ h2 e=>?_).zero;rw[e];exact((Q2h (ih _) h2).bind fun _ _ _ h=>On0.ok h).zero
   ·exact On0.ok hj
  | lit=>
   intro lv i hi;show On T i (if _ then _ else if _ then _ else if _ then _ else if _ then _ else if _ then _ else if _ then _ else if _ then _ else if _ then _ else _);have bj:∀rs,isW T rs i=true->∀rds:List Rd,(∀r∈rds,OnR T r)->On T i (arguments T (tk T i) rds lv (nx T i)):=fun rs h rds hr=>On.behind hl hi (Q9 h) fun j _ h2 e=>by rw[e];exact(Q2q hl hr h2).zero
   have aj:OnR T (fun _=>number T):=fun _ _ h=>Zj hl h
   have dj:OnR T (fun _=>setR T):=fun _ _ h=>Q5h hl h
   split
   ·rename_i h;exact Qcv hl (ih _) hi (Q9 h)
   ·split
    ·rename_i h;exact On.step hl hi (Q9 h)
    ·split
     ·exact Q56 hl (ih _) hi
     ·split
      ·rename_i h;exact bj _ h _ fun r hr=>by simp only[A8,A7,or_false,or_self]at hr;rw[hr];exact aj
      ·split
       ·rename_i h;exact bj _ h _ fun r hr=>by rw[Aj.1 hr];exact aj
       ·split
        ·rename_i h;exact bj _ h _ fun r hr=>by
          simp only[A8,A7,or_false]at hr;rcases hr with rfl|rfl
          ·exact aj
          ·exact ih _
        ·split
         ·rename_i h;exact bj _ h _ fun r hr=>by
           simp only[A8,A7,or_false]at hr;rcases hr with rfl|rfl
           ·exact dj
           ·exact ih _
         ·split
          ·rename_i h;exact bj _ h _ fun r hr=>by rw[Aj.1 hr];exact ih _
          ·exact On.fail _
end
end
section
def OkR(T:List Tok)(m:Nat)(r:Rd):Prop:=∀lv i,m<=i->i<T.length->r lv i≠.none
section
variable {T:List Tok} {m i lv:Nat} {res:List UInt8->Bool}
theorem Qp{α β:Type}{o:Out α}{f:α->Nat->Out β}(h:o≠.none)(hf:∀a j,o=.ok a j->f a j≠.none):o.bind f≠.none:=by
 cases o with
 | none=>exact absurd rfl h
 | err p e=>intro h;cases h
 | ok a j=>exact hf a j rfl
theorem Jg{α:Type}(a:α)(j:Nat):(Out.ok a j)≠.none:=fun h=>by cases h
theorem Q50{α:Type}(e j:Nat):(fail T e j:Out α)≠.none:=fun h=>by cases h
theorem Q0y(s:List UInt8)(i:Nat):need T s i≠.none:=by unfold need;split<;>(intro h;cases h)
theorem Q4z(i:Nat):name res T i≠.none:=by unfold name;split<;>(intro h;cases h)
theorem Q3b(i:Nat):number T i≠.none:=by unfold number;split<;>(intro h;cases h)
theorem Q3v{r:Rd}(hr:OkR T m r)(hm:m<=i)(hi:i<T.length):within T r lv i≠.none:=by
 unfold within;split
 ·exact Q50 _ _
 ·exact hr _ _ hm hi
theorem Q55{r:Rd}(hl:(tk T (T.length-1)).kind=3)(hr:OkR T m r)(hm:m<=i+1)(hi:i<T.length):parens T r lv i≠.none:=Qp (Q0y _ _) fun _ j h=>by obtain⟨h1,h2⟩:=Y7 hl _ hi _ _ h;exact Qp (Q3v hr (by omega) h2) fun _ _ _=>Qp (Q0y _ _) fun _ _ _=>Jg _ _
theorem Ql8{r:Rd}{ops:List (List UInt8)}(hl:(tk T (T.length-1)).kind=3)(ho:OnR T r)(hr:OkR T m r)(g:Nat):∀x i,m<=i+1->i<T.length->T.length<g+i->Zh T r ops lv g x i≠.none:=by
 induction g with
 | zero=>intro x i _ h1 h2;omega
 | succ g ih=>
  intro x i hm hi hg;unfold Zh;split
  ·rename_i h
   obtain⟨e,h2⟩:=Qr hl hi (Q9 h);rw[e];exact Qp (hr _ _ hm h2) fun y j hy=>by obtain⟨h3,h4⟩:=ho _ _ h2 _ _ hy;exact ih _ _ (by omega) h4 (by omega)
  ·exact Jg _ _
theorem Q1j{r:Rd}{ops:List (List UInt8)}(hl:(tk T (T.length-1)).kind=3)(ho:OnR T r)(hr:OkR T m r):OkR T m (left T r ops):=fun lv i hm hi=>Qp (hr _ _ hm hi) fun x j hx=>by obtain⟨h3,h4⟩:=ho _ _ hi _ _ hx;exact Ql8 hl ho hr _ _ _ (by omega) h4 (by omega)
theorem Qhh{rs:List Rd}(hl:(tk T (T.length-1)).kind=3)(ho:∀r∈rs,OnR T r)(hr:∀r∈rs,OkR T m r):∀i,m<=i+1->i<T.length->Qn.argsMore T rs lv i≠.none:=by
 induction rs with
 | nil=>intro i _ _;exact Jg _ _
 | cons r rs ih=>intro i hm hi;exact Qp (Q0y _ _) fun _ j h=>by obtain⟨h1,h2⟩:=Y7 hl _ hi _ _ h;exact Qp (hr r (A5 ..) _ _ (by omega) h2) fun _ k hk=>by obtain⟨h3,h4⟩:=ho r (A5 ..) _ _ h2 _ _ hk;exact Qp (ih (fun r h=>ho r (Ab _ h)) (fun r h=>hr r (Ab _ h)) _ (by omega) h4) fun _ _ _=>Jg _ _
theorem Qhe{rs:List Rd}(hl:(tk T (T.length-1)).kind=3)(ho:∀r∈rs,OnR T r)(hr:∀r∈rs,OkR T m r)(hm:m<=i)(hi:i<T.length):Qn T rs lv i≠.none:=by
 cases rs with
 | nil=>exact Jg _ _
 | cons r rs=>exact Qp (hr r (A5 ..) _ _ hm hi) fun _ k hk=>by obtain⟨h3,h4⟩:=ho r (A5 ..) _ _ hi _ _ hk;exact Qp (Qhh hl (fun r h=>ho r (Ab _ h)) (fun r h=>hr r (Ab _ h)) _ (by omega) h4) fun _ _ _=>Jg _ _
theorem Qhk{rs:List Rd}{w:Tok}(hl:(tk T (T.length-1)).kind=3)(ho:∀r∈rs,OnR T r)(hr:∀r∈rs,OkR T m r)(hm:m<=i+1)(hi:i<T.length):arguments T w rs lv i≠.none:=
 Qp (Q0y _ _) fun _ j h=>by
  obtain⟨h1,h2⟩:=Y7 hl _ hi _ _ h;split
  ·exact Q50 _ _
  ·exact Qp (Qhe hl ho hr (by omega) h2) fun _ _ _=>Qp (Q0y _ _) fun _ _ _=>Jg _ _
theorem Qrw(hl:(tk T (T.length-1)).kind=3)(g:Nat):∀xs i,i<T.length->T.length<g+i->Zo T g xs i≠.none:=by
 induction g with
 | zero=>intro x i h1 h2;omega
 | succ g ih=>
  intro x i hi hg;unfold Zo;split
  ·rename_i h
   obtain⟨e,h2⟩:=Qr hl hi (Q9 h);rw[e];exact Qp (Q3b _) fun y j hy=>by obtain⟨h3,h4⟩:=Zj hl h2 _ _ hy;exact ih _ _ h4 (by omega)
  ·exact Jg _ _
theorem Qrz(hl:(tk T (T.length-1)).kind=3)(hi:i<T.length):setR T i≠.none:=by
 unfold setR;split
 ·exact Jg _ _
 ·exact Qp (Q0y _ _) fun _ j h=>by
   obtain⟨h1,h2⟩:=Y7 hl _ hi _ _ h;split
   ·exact Jg _ _
   ·exact Qp (Q3b _) fun _ k hk=>by obtain⟨h3,h4⟩:=Zj hl h2 _ _ hk;exact Qp (Qrw hl _ _ _ h4 (by omega)) fun _ _ _=>Qp (Q0y _ _) fun _ _ _=>Jg _ _
def rank:NT->Nat
 | .cond=>5|.conj=>4|.neg=>3|.sum=>2|.unit=>1
 | .scheme=>4|.term=>3|.factor=>2|.atom=>1
 | .formula=>4|.disj=>3|.meet=>2|.lit=>1
theorem Qcu{r:Rd}(hl:(tk T (T.length-1)).kind=3)(hr:OkR T m r)(hm:m<=i+1)(hi:i<T.length)(hk:(tk T i).kind≠3):notR T r lv i≠.none:=by obtain⟨e,h2⟩:=Qr hl hi hk;unfold notR;rw[e];exact Qp (Q3v hr hm h2) fun _ _ _=>Jg _ _
theorem Qp7(hl:(tk T (T.length-1)).kind=3)(f:Nat):∀nt lv i,i<T.length->16*(T.length-i)+rank nt<=f->rd res T f nt lv i≠.none:=by
 induction f with
 | zero=>intro nt lv i _ h;cases nt<;>simp[rank]at h
 | succ f ih=>
  intro nt lv i hi hf;have on:∀nt,OnR T (rd res T f nt):=Q0z hl f;have hs:∀nt',rank nt'<rank nt->OkR T i (rd res T f nt'):=fun nt' h lv j h1 h2=>ih nt' lv j h2 (by omega)
  have hn:∀nt',OkR T (i+1) (rd res T f nt'):=fun nt' lv j h1 h2=>ih nt' lv j h2 (by
   have:rank nt'<=5:=by cases nt'<;>decide
   omega)
  have num:OkR T (i+1) (fun _=>number T):=fun _ _ _ _=>Q3b _
  have set:OkR T (i+1) (fun _=>setR T):=fun _ _ _ h=>Qrz hl h
  have onum:OnR T (fun _=>number T):=fun _ _ h=>Zj hl h
  have oset:OnR T (fun _=>setR T):=fun _ _ h=>Q5h hl h
  have bj:∀ws,isW T ws i=true->∀rds:List Rd,(∀r∈rds,OnR T r/\OkR T (i+1) r)->arguments T (tk T i) rds lv (nx T i)≠.none:=fun ws h rds hr=>by obtain⟨e,h2⟩:=Qr hl hi (Q9 h);rw[e];exact Qhk hl (fun r h=>(hr r h).1) (fun r h=>(hr r h).2) (by omega) h2
  have one:∀{r:Rd},OnR T r/\OkR T (i+1) r->∀x∈[r],OnR T x/\OkR T (i+1) x:=fun h x hx=>by rw[Aj.1 hx];exact h
  have two:∀{r r':Rd},OnR T r/\OkR T (i+1) r->OnR T r'/\OkR T (i+1) r'->∀x∈[r,r'],OnR T x/\OkR T (i+1) x:=fun h h' x hx=>by
   simp only[A8,A7,or_false]at hx;rcases hx with rfl|rfl
   ·exact h
   ·exact h'
  cases nt with
  | cond=>exact Q1j hl (on _) (hs _ (by decide)) _ _ (A4 _) hi
  | conj=>exact Q1j hl (on _) (hs _ (by decide)) _ _ (A4 _) hi
  | sum=>exact Q1j hl (on _) (hs _ (by decide)) _ _ (A4 _) hi
  | scheme=>exact Q1j hl (on _) (hs _ (by decide)) _ _ (A4 _) hi
  | term=>exact Q1j hl (on _) (hs _ (by decide)) _ _ (A4 _) hi
  | disj=>exact Q1j hl (on _) (hs _ (by decide)) _ _ (A4 _) hi
  | meet=>exact Q1j hl (on _) (hs _ (by decide)) _ _ (A4 _) hi
  | neg=>
   show(if _ then _ else if _ then _ else _:Out Syn)≠.none;split
   ·rename_i h;exact Qcu hl (hn _) (A4 _) hi (Q9 h)
   ·split
    ·rename_i h
     obtain⟨e,h2⟩:=Qr hl hi (Q9 h);rw[e];exact Qp (Q4z _) fun _ j hj=>Qp (Q0y _ _) fun _ k hk=>by obtain⟨h3,h4⟩:=Q2b hl h2 _ _ hj;obtain⟨h5,h6⟩:=Y7 hl _ h4 _ _ hk;exact Qp (Q3v (hn _) (by omega) h6) fun _ _ _=>Jg _ _
    ·exact Qp (hs .sum (by decide) _ _ (A4 _) hi) fun x j hx=>by
      obtain⟨h3,h4⟩:=on .sum _ _ hi _ _ hx;split
      ·rename_i h
       obtain⟨e,h2⟩:=Qr hl h4 (Q9 h);rw[e];exact Qp (hn .sum _ _ (by omega) h2) fun _ _ _=>Jg _ _
      ·exact Jg _ _
  | unit=>
   show(if _ then _ else if _ then _ else if _ then _ else if _ then _ else if _ then _ else _:Out Syn)≠.none;split
   ·exact Q3b _
   ·split
    ·rename_i h;exact bj _ h _ (one ⟨on _,hn _⟩)
    ·split
     ·rename_i h;exact bj _ h _ (two ⟨on _,hn _⟩ ⟨on _,hn _⟩)
     ·split
      ·rename_i h
       obtain⟨e,h2⟩:=Qr hl hi (Q9 h);rw[e];exact Qp (Q4z _) fun _ j hj=>by obtain⟨h3,h4⟩:=Q2b hl h2 _ _ hj;exact Qp (Q55 hl (hn _) (by omega) h4) fun _ _ _=>Jg _ _
      ·split
       ·exact Q55 hl (hn _) (A4 _) hi
       ·exact Q4z _
  | factor=>
   exact Qp (hs .atom (by decide) _ _ (A4 _) hi) fun x j hx=>by
    obtain⟨h3,h4⟩:=on .atom _ _ hi _ _ hx;split
    ·rename_i h
     obtain⟨e,h2⟩:=Qr hl h4 (Q9 h);rw[e];exact Qp (Q3b _) fun _ k hk=>by obtain⟨h5,h6⟩:=Zj hl h2 _ _ hk;exact Qp (Q3v (hn .factor) (by omega) h6) fun _ _ _=>Jg _ _
    ·exact Jg _ _
  | atom=>
   show(if _ then _ else if _ then _ else if _ then _ else if _ then _ else _:Out Syn)≠.none;split
   ·rename_i h;exact bj _ h _ (one ⟨onum,num⟩)
   ·split
    ·exact Jg _ _
    ·split
     ·rename_i h;exact bj _ h _ (one ⟨on _,hn _⟩)
     ·split
      ·exact Q55 hl (hn _) (A4 _) hi
      ·exact Q4z _
  | formula=>
   exact Qp (hs .disj (by decide) _ _ (A4 _) hi) fun x j hx=>by
    obtain⟨h3,h4⟩:=on .disj _ _ hi _ _ hx;split
    ·rename_i h
     obtain⟨e,h2⟩:=Qr hl h4 (Q9 h);rw[e];exact Qp (Q3v (hn .formula) (by omega) h2) fun _ _ _=>Jg _ _
    ·exact Jg _ _
  | lit=>
   show(if _ then _ else if _ then _ else if _ then _ else if _ then _ else if _ then _ else if _ then _ else if _ then _ else if _ then _ else _:Out Syn)≠.none;split
   ·rename_i h;exact Qcu hl (hn _) (A4 _) hi (Q9 h)
   ·split
    ·exact Jg _ _
    ·split
     ·exact Q55 hl (hn _) (A4 _) hi
     ·split
      ·rename_i h;exact bj _ h _ (two ⟨onum,num⟩ ⟨onum,num⟩)
      ·split
       ·rename_i h;exact bj _ h _ (one ⟨onum,num⟩)
       ·split
        ·rename_i h;exact bj _ h _ (two ⟨onum,num⟩ ⟨on _,hn _⟩)
        ·split
         ·rename_i h;exact bj _ h _ (two ⟨oset,set⟩ ⟨on _,hn _⟩)
         ·split
          ·rename_i h;exact bj _ h _ (one ⟨on _,hn _⟩)
          ·exact Q50 _ _
end
end
section
structure St where
 i:Nat
 lv:Nat
 er:Int
 ps:Int
section
variable (res:List UInt8->Bool) (T:List Tok)
def Qb(s:St):St:=if s.er=0/\(tk T s.i).kind≠3 then⟨s.i+1,s.lv,s.er,s.ps⟩else s
def Qk(e:Int)(s:St):St:=if s.er=0 then⟨s.i,s.lv,e,(tk T s.i).pos⟩else s
def Q4(w:List UInt8)(s:St):St:=Qb T (if isW T [w] s.i then s else Qk T 4 s)
def Z7(i:Nat):Bool:=decide ((tk T i).kind=0)&&!res (tk T i).text
def Z6(s:St):Syn×St:=(.mk 8 (tk T s.i).text 0 (tk T s.i).pos [],Qb T (if Z7 res T s.i then s else Qk T 4 s))
def Q0x:Int->List UInt8->Int
 | n,[]=>n
 | n,c::r=>if c.toNat<48∨57<c.toNat∨1048576<n then 0 else Q0x (10*n+((c.toNat:Int)-48)) r
def mVal(l:List UInt8):Int:=Q0x 0 l
def Qa(s:St):Syn×St:=(.mk 9 [] (mVal (tk T s.i).text) (tk T s.i).pos [],Qb T (if(tk T s.i).kind=1 then s else Qk T 4 s))
def mUp(s:St):St:=⟨s.i,s.lv+1,s.er,s.ps⟩
def Qh(s:St):St:=if 128<s.lv+1 then Qk T 12 (mUp s)else mUp s
def mPop(s:St):St:=⟨s.i,s.lv-1,s.er,s.ps⟩
abbrev MRd:=St->Option (Syn×St)
def Q02(r:MRd)(ops:List (List UInt8)):Nat->Syn->St->Option (Syn×St)
 | 0,_,_=>none
 | g+1,x,s=>if s.er=0/\isW T ops s.i=true then(r (Qb T s)).bind fun p=>Q02 r ops g (binary (tk T s.i).text 0 x p.1) p.2 else some (x,s)
def Y6(r:MRd)(ops:List (List UInt8)):MRd:=fun s=>if s.er≠0 then some (Zx,s)else(r s).bind fun p=>Q02 T r ops (T.length+2) p.1 p.2
def Yh:Nat->List Syn->St->Option (List Syn×St)
 | 0,_,_=>none
 | g+1,xs,s=>if s.er=0/\isW T [[44]] s.i=true then Yh g (xs++[(Qa T (Qb T s)).1]) (Qa T (Qb T s)).2 else some (xs,s)
def mSet:MRd:=fun s=>
 if isW T [[101,118,101,114,121,111,110,101]] s.i then some (.mk 14 [101,118,101,114,121,111,110,101] 0 (tk T s.i).pos [],Qb T s)
 else if(Q4 T [123] s).er=0/\isW T [[125]] (Q4 T [123] s).i=false then
  (Yh T (T.length+2) [(Qa T (Q4 T [123] s)).1] (Qa T (Q4 T [123] s)).2).bind fun p=>some (.mk 14 [] 0 (tk T s.i).pos p.1,Q4 T [125] p.2)
 else some (.mk 14 [] 0 (tk T s.i).pos [],Q4 T [125] (Q4 T [123] s))
def Qq(fo:MRd)(w:List UInt8):St->Option (List Syn×St):=fun s=>
 if w=[105,110,112,117,116]∨w=[104,101,97,114,100]∨w=[100,101,99,105,100,101,100]then
  some ([(Qa T s).1,(Qa T (Q4 T [44] (Qa T s).2)).1],(Qa T (Q4 T [44] (Qa T s).2)).2)
 else if w=[103,105,118,101,110]∨w=[102,97,117,108,116,121]∨w=[97,116]then some ([(Qa T s).1],(Qa T s).2)
 else if w=[75]then(fo (Q4 T [44] (Qa T s).2)).bind fun p=>some ([(Qa T s).1,p.1],p.2)
 else if w=[69]∨w=[68]∨w=[67]then(mSet T s).bind fun q=>(fo (Q4 T [44] q.2)).bind fun p=>some ([q.1,p.1],p.2)
 else(fo s).bind fun p=>some ([p.1],p.2)
def mrd:Nat->NT->MRd
 | 0,_=>fun _=>none
 | f+1,.cond=>Y6 T (mrd f .conj) [kOr]
 | f+1,.conj=>Y6 T (mrd f .neg) [kAnd]
 | f+1,.neg=>fun s=>
  if s.er≠0 then some (Zx,s)
  else if isW T [kNot] s.i then(mrd f .neg (Qh T (Qb T s))).bind fun p=>some (.mk 12 [] 0 (tk T s.i).pos [p.1],mPop p.2)
  else if isW T [[97,108,108]] s.i=true∨isW T [[115,111,109,101]] s.i=true then
   (mrd f .cond (Qh T (Q4 T [58] (Z6 res T (Qb T s)).2))).bind fun p=>some (.mk 13 (tk T s.i).text 0 (tk T s.i).pos [(Z6 res T (Qb T s)).1,p.1],mPop p.2)
  else(mrd f .sum s).bind fun p=>
   if p.2.er=0/\isW T [[61],[33,61],[60],[60,61]] p.2.i=true then(mrd f .sum (Qb T p.2)).bind fun q=>some (binary (tk T p.2.i).text 0 p.1 q.1,q.2)
   else some p
 | f+1,.sum=>Y6 T (mrd f .unit) [[43],[45]]
 | f+1,.unit=>fun s=>
  if s.er≠0 then some (Zx,s)
  else if(tk T s.i).kind=1 then some (Qa T s)
  else if Z7 res T s.i then some (Z6 res T s)
  else if isW T [[40]] s.i then(mrd f .cond (Qh T (Qb T s))).bind fun p=>some (p.1,Q4 T [41] (mPop p.2))
  else if isW T [[105,110]] s.i=true∨isW T [[111,117,116]] s.i=true then
   (mrd f .sum (Qh T (Q4 T [40] (Qb T s)))).bind fun p=>some (.mk 10 (tk T s.i).text 0 (tk T s.i).pos [p.1],Q4 T [41] (mPop p.2))
  else if isW T [[104,101,97,114,115]] s.i then
   (mrd f .sum (Qh T (Q4 T [40] (Qb T s)))).bind fun p=>(mrd f .sum (Q4 T [44] p.2)).bind fun q=>some (.mk 10 (tk T s.i).text 0 (tk T s.i).pos [p.1,q.1],Q4 T [41] (mPop q.2))
  else if isW T [[99,111,117,110,116]] s.i then
   (mrd f .cond (Qh T (Q4 T [40] (Z6 res T (Qb T s)).2))).bind fun p=>some (.mk 13 (tk T s.i).text 0 (tk T s.i).pos [(Z6 res T (Qb T s)).1,p.1],Q4 T [41] (mPop p.2))
  else some (.mk 10 (tk T s.i).text 0 (tk T s.i).pos [],Qk T 4 s)
 | f+1,.scheme=>Y6 T (mrd f .term) [kOr]
 | f+1,.term=>Y6 T (mrd f .factor) [kAnd]
 | f+1,.factor=>fun s=>
  if s.er≠0 then some (Zx,s)
  else(mrd f .atom s).bind fun p=>
   if p.2.er=0/\isW T [[116,104,101,110]] p.2.i=true then
    (mrd f .factor (Qh T (Qa T (Qb T p.2)).2)).bind fun q=>some (binary [116,104,101,110] (Qa T (Qb T p.2)).1.num p.1 q.1,mPop q.2)
   else some p
 | f+1,.atom=>fun s=>
  if Z7 res T s.i then some (Z6 res T s)
  else if isW T [[99,114,97,115,104],[115,101,110,100],[114,101,99,101,105,118,101],[111,109,105,116],[112,97,114,116,105,116,105,111,110]] s.i then
   some (.mk 10 (tk T s.i).text 0 (tk T s.i).pos [(Qa T (Qh T (Q4 T [40] (Qb T s)))).1],Q4 T [41] (mPop (Qa T (Qh T (Q4 T [40] (Qb T s)))).2))
  else if isW T [[115,110,97,112,115,104,111,116]] s.i then some (.mk 10 (tk T s.i).text 0 (tk T s.i).pos [],Qb T s)
  else if isW T [[103,114,97,112,104,115]] s.i then
   (mrd f .cond (Qh T (Q4 T [40] (Qb T s)))).bind fun p=>some (.mk 10 (tk T s.i).text 0 (tk T s.i).pos [p.1],Q4 T [41] (mPop p.2))
  else if isW T [[40]] s.i then(mrd f .scheme (Qh T (Qb T s))).bind fun p=>some (p.1,Q4 T [41] (mPop p.2))
  else some (.mk 10 (tk T s.i).text 0 (tk T s.i).pos [],Qk T 4 s)
 | f+1,.formula=>fun s=>(mrd f .disj s).bind fun p=>
  if p.2.er=0/\isW T [[117,110,116,105,108]] p.2.i=true then
   (mrd f .formula (Qh T (Qb T p.2))).bind fun q=>some (binary [117,110,116,105,108] 0 p.1 q.1,mPop q.2)
  else some p
 | f+1,.disj=>Y6 T (mrd f .meet) [kOr]
 | f+1,.meet=>Y6 T (mrd f .lit) [kAnd]
 | f+1,.lit=>fun s=>
  if s.er≠0 then some (Zx,s)
  else if isW T [kNot] s.i then(mrd f .lit (Qh T (Qb T s))).bind fun p=>some (.mk 12 [] 0 (tk T s.i).pos [p.1],mPop p.2)
  else if isW T [[116,114,117,101]] s.i then some (.mk 10 (tk T s.i).text 0 (tk T s.i).pos [],Qb T s)
  else if isW T [[40]] s.i then(mrd f .formula (Qh T (Qb T s))).bind fun p=>some (p.1,Q4 T [41] (mPop p.2))
  else if isW T [[105,110,112,117,116],[104,101,97,114,100],[100,101,99,105,100,101,100],[103,105,118,101,110],[102,97,117,108,116,121],[97,116],[75],[69],[68],[67],[110,101,120,116],[97,108,119,97,121,115],[101,118,101,110,116,117,97,108,108,121]] s.i then
   (Qq T (mrd f .formula) (tk T s.i).text (Qh T (Q4 T [40] (Qb T s)))).bind fun p=>some (.mk 10 (tk T s.i).text 0 (tk T s.i).pos p.1,Q4 T [41] (mPop p.2))
  else some (.mk 10 (tk T s.i).text 0 (tk T s.i).pos [],Qk T 4 s)
def Q38:St:=⟨0,0,0,0⟩
def mEnd(s:St):St:=if(tk T s.i).kind=3 then s else Qk T 4 s
def Q28(r:MRd):Option (Syn×St):=(r Q38).bind fun p=>some (p.1,mEnd T p.2)
end
structure TokOk (T:List Tok):Prop where
 last:(tk T (T.length-1)).kind=3
 num:∀i,i<T.length->(tk T i).kind=1->mVal (tk T i).text=(dv 0 (tk T i).text:Nat)
 par:∀i,(tk T i).kind=0->(tk T i).text≠[40]
end
section
section
variable {res:List UInt8->Bool} {T:List Tok} {lv lv' i f:Nat} {a:Int}
theorem Q9p{r:Rd}(hr:r 0 0≠.none):whole T r≠.none:=by
 unfold whole;refine Qp hr fun _ _ _=>?_
 split
 ·exact Jg _ _
 ·exact Q50 _ _
end
end
theorem Qc8:∀(l:List UInt8) (n:Nat),(∀c∈l,Q6 c.toNat=true)->dv n l<=1048576->Q0x n l=(dv n l:Nat)
 | [],_,_,_=>rfl
 | c::r,n,hd,h=>by
  have hc:=hd c (by simp);simp only[Q6,Ai,decide_eq_true_eq]at hc;rw[Q0r]at h⊢;have h1:=Q4c r (10*n+(c.toNat-48));have h2:0<10 ^ r.length:=Nat.pow_pos (by omega);have h3:10*n+(c.toNat-48)<=(10*n+(c.toNat-48))*10 ^ r.length:=Nat.le_mul_of_pos_right _ h2;rw[Q0x,if_neg (by omega)];have e:(10*(n:Int)+((c.toNat:Int)-48))=((10*n+(c.toNat-48):Nat):Int):=by omega
  rw[e];exact Qc8 r _ (fun c h=>hd c (by simp[h])) h
theorem Qtl{l:List UInt8}{n:Nat}(h:tok l=.ok (0,n)):l.take n≠[40]:=by
 unfold tok at h;by_cases h1:Q0 Q3 l=0
 ·rw[if_pos h1]at h;split at h<;>simp at h
 rw[if_neg h1]at h;by_cases h2:Q0 Qv l=0
 ·rw[if_pos h2]at h
  split at h
  ·simp at h
  ·split at h<;>simp at h
 ·intro e
  cases l with
  | nil=>simp at e
  | cons c r=>
   cases n with
   | zero=>simp at e
   | succ n=>rw[List.take_succ_cons]at e;have hc:c=40:=(List.cons.inj e).1;subst hc;exact h2 (by simp[Q0,Qv])
theorem Qro(f:Nat):∀(p:Nat) (l:List UInt8) (ts:List Tok),J1 f p l=.ok ts->∀t∈ts,t.kind=0->t.text≠[40]:=by
 induction f with
 | zero=>intro p l ts h;simp[J1]at h;subst h;simp
 | succ f ih=>
  intro p l ts h;simp only[J1]at h;split at h
  ·simp only[Except.ok.injEq]at h;subst h
   intro t ht;rw[Aj.1 ht];simp
  ·rename_i c r hd
   split at h
   ·simp at h
   ·rename_i kind n ht
    split at h
    ·simp at h
    ·rename_i us hu
     simp only[Except.ok.injEq]at h;subst h;intro t hm;rcases A8.1 hm with rfl|hm
     ·intro hk
      have bY:kind=0:=by simp only at hk;omega
      subst bY;exact Qtl ht
     ·exact ih _ _ _ hu t hm
theorem Qrn(f:Nat):∀(p:Nat) (l:List UInt8) (ts:List Tok),J1 f p l=.ok ts->ts.length<=l.length+1:=by
 induction f with
 | zero=>intro p l ts h;simp[J1]at h;subst h;simp
 | succ f ih=>
  intro p l ts h;simp only[J1]at h;split at h
  ·simp at h;subst h;simp
  ·rename_i c r hd
   have hlen:(c::r).length=l.length-skip false l:=by rw[<-hd];simp
   split at h
   ·simp at h
   ·rename_i kind n ht
    have hp:=Q1z ht;split at h
    ·simp at h
    ·rename_i us hus
     have:=ih _ _ _ hus;simp at h;subst h;simp only[Ax]at this;simp only[Ad]at *;omega
structure Scanned (s:List UInt8) (T:List Tok):Prop where
 ok:TokOk T
 pos:0<T.length
 len:T.length<=s.length+1
 num:∀t∈T,t.kind=1->t.text≠[]/\(∀c∈t.text,Q6 c.toNat=true)/\dv 0 t.text<=1048576
 txt:∀t∈T,t.text.length<=s.length
theorem Qg0{T:List Tok}{i:Nat}(h:i<T.length):tk T i∈T:=by unfold tk;rw[Av,Ah h];exact Ae h
theorem scanned{s:List UInt8}{T:List Tok}(h:scan s=.ok T):Scanned s T:=by
 unfold scan at h;split at h
 ·simp at h
 ·have h1:=Qrp _ _ _ _ h
  obtain⟨a,t,rfl,hk⟩:=Qrm _ _ _ _ (by omega) h;have hp:0<(a++[t]).length:=by simp
  refine⟨⟨?_,fun i hi hk=>?_,fun i hk=>?_⟩,hp,Qrn _ _ _ _ h,fun t ht=>(h1 t ht).1,fun t ht=>(h1 t ht).2⟩
  ·have:tk (a++[t]) ((a++[t]).length-1)=t:=by
    unfold tk;simp[Av]
   rw[this];exact hk
  ·obtain⟨n0,n1,n2⟩:=(h1 _ (Qg0 hi)).1 hk
   exact Qc8 _ 0 n1 n2
  ·rcases B9 i (a++[t]).length with hi|hi
   ·exact Qro _ _ _ _ h _ (Qg0 hi) hk
   ·exfalso
    have:tk (a++[t]) i=Qfz:=by unfold tk;rw[Av,Bj hi];rfl
    rw[this]at hk;revert hk;decide
section
inductive Small:Syn->Prop
 | mk {kd:Int} {tx:List UInt8} {n a:Int} {k:List Syn} (h:k.length<=1000000) (hk:∀z∈k,Small z):Small (.mk kd tx n a k)
section
variable {res:List UInt8->Bool} {T:List Tok} {lv i:Nat}
end
end
section
section
variable {P:Int->Int->Prop}
end
end
section
structure AlkT (T U:List Tok):Prop where
 len:T.length=U.length
 kind:∀i,(tk T i).kind=(tk U i).kind
 text:∀i,(tk T i).text=(tk U i).text
abbrev Any:Int->Int->Prop:=fun _ _=>True
def TwO{α β:Type}(R:α->β->Prop)(o:Out α)(u:Out β):Prop:=match o,u with|.none,.none=>True|.err _ e,.err _ f=>e=f|.ok a i,.ok b j=>i=j/\R a b|_,_=>False
theorem TwO.bind{α β γ δ:Type}{R:α->β->Prop}{Q:γ->δ->Prop}{o:Out α}{u:Out β}{f:α->Nat->Out γ}{g:β->Nat->Out δ}(h:TwO R o u)(hf:∀a b i,R a b->TwO Q (f a i) (g b i)):TwO Q (o.bind f) (u.bind g):=by
 cases o<;>cases u<;>simp only[TwO]at h
 ·exact h
 ·exact h
 ·obtain⟨rfl,h⟩:=h
  exact hf _ _ _ h
abbrev TwS(o u:Out Syn):Prop:=TwO (Twin Any) o u
section
variable {T U:List Tok} {res:List UInt8->Bool} {lv i:Nat}
theorem AlkT.isW(h:AlkT T U)(ws:List (List UInt8))(i:Nat):isW T ws i=Proofs.YtakdifceogdioaaGreatDoor.isW U ws i:=by unfold Proofs.YtakdifceogdioaaGreatDoor.isW;rw[h.kind,h.text]
theorem AlkT.nx(h:AlkT T U)(i:Nat):nx T i=Proofs.YtakdifceogdioaaGreatDoor.nx U i:=by unfold Proofs.YtakdifceogdioaaGreatDoor.nx;rw[h.len]
def KR(r q:Rd):Prop:=∀lv i,TwS (r lv i) (q lv i)
inductive KRs:List Rd->List Rd->Prop
 | nil:KRs [] []
 | cons {r q:Rd} {rs qs:List Rd} (h:KR r q) (hr:KRs rs qs):KRs (r::rs) (q::qs)
end
end
section
def Qk4:List (List (List UInt8)):=[[kOr],[kAnd],[[43],[45]],[[61],[33,61],[60],[60,61]],[[116,104,101,110]],[[117,110,116,105,108]],[[44]]]
structure SubT (T U:List Tok) (m d:Nat):Prop where
 len:T.length=m+1
 lst:(tk T m).kind=3
 inn:∀i,i<m->(tk T i).kind≠3
 ulen:m+d<U.length
 kind:∀i,i<m->(tk T i).kind=(tk U (i+d)).kind
 text:∀i,i<m->(tk T i).text=(tk U (i+d)).text
 stop:∀ws∈Qk4,isW U ws (m+d)=false
def SimO{α β:Type}(m d dl:Nat)(R:α->β->Prop)(o:Out α)(u:Out β):Prop:=
 match o with
 | .ok a j=>match u with|.ok b l=>j<=m/\l=j+d/\R a b|.err _ e=>e=12/\0<dl|.none=>False
 | _=>True
section
variable {T U:List Tok} {res:List UInt8->Bool} {lv i m d dl:Nat}
theorem SimO.bind{α β γ δ:Type}{R:α->β->Prop}{Q:γ->δ->Prop}{o:Out α}{u:Out β}{f:α->Nat->Out γ}{g:β->Nat->Out δ}(h:SimO m d dl R o u)(hf:∀a b j,j<=m->R a b->SimO m d dl Q (f a j) (g b (j+d))):SimO m d dl Q (o.bind f) (u.bind g):=by
 cases o with
 | none=>trivial
 | err p e=>trivial
 | ok a j=>
  cases u with
  | none=>exact h.elim
  | err p e=>
   show SimO m d dl Q (f a j) (.err p e);cases f a j with
   | none=>trivial
   | err p e=>trivial
   | ok b l=>exact h
  | ok b l=>obtain⟨h1,rfl,h2⟩:=h;exact hf _ _ _ h1 h2
theorem SubT.last(h:SubT T U m d):(tk T (T.length-1)).kind=3:=by rw[h.len,Nat.add_sub_cancel];exact h.lst
theorem SubT.isN(h:SubT T U m d)(ws:List (List UInt8)):isW T ws m=false:=by unfold isW;rw[h.lst];rfl
theorem SubT.lt(h:SubT T U m d){ws:List (List UInt8)}(hi:i<=m)(hw:isW T ws i=true):i<m:=by
 rcases B9 i m with hl|hl
 ·exact hl
 ·obtain rfl:i=m:=by omega
  rw[h.isN]at hw;cases hw
theorem SubT.le(h:SubT T U m d):T.length<=U.length:=by have:=h.len;have:=h.ulen;omega
def BR(m d dl:Nat)(r q:Rd):Prop:=∀lv i,i<=m->SimO m d dl (Twin Any) (r lv i) (q (lv+dl) (i+d))
inductive BRs (m d dl:Nat):List Rd->List Rd->Prop
 | nil:BRs m d dl [] []
 | cons {r q:Rd} {rs qs:List Rd} (h:BR m d dl r q) (hr:BRs m d dl rs qs):BRs m d dl (r::rs) (q::qs)
end
end
abbrev KT:=Int×List UInt8
def kts(ts:List Tok):List KT:=ts.map fun t=>(t.kind,t.text)
abbrev Q01:KT:=(3,[])
def Lx(l:List UInt8)(K:List KT):Prop:=∀p,∃ts,Jk p l=.ok ts/\kts ts=K
theorem Qrq{l:List UInt8}{K:List KT}(h:Lx l K)(hl:l.length<=65536):∃T,scan l=.ok T/\kts T=K:=by obtain⟨T,h1,h2⟩:=h 0;exact⟨T,by rw[Q96 hl];exact h1,h2⟩
theorem Qlx:Lx [] [Q01]:=fun p=>⟨_,Q95 p,rfl⟩
theorem Qc6{x y:List UInt8}{k:Nat}{K:List KT}(ht:tok x=.ok (k,x.length))(hf:fits x y)(h:Lx y K):Lx (x++y) (((k:Int),x)::K):=by intro p;have am:=(tokClass ht).1;have hs:=Q5g (p:=p) (Qk8 ht y) (by simp[am]) (Qtj ht hf);rw[Bm (A4 _),BV,List.drop_append_of_le_length (A4 _),List.drop_length,Ba]at hs;obtain⟨ms,h1,h2⟩:=h (p+x.length);rw[h1]at hs;exact⟨_,hs,by simp only[BJ,kts,List.map_cons];rw[<-h2];rfl⟩
theorem Qly{x y:List UInt8}{K:List KT}(hs:skip false (x++y)=x.length+skip false y)(h:Lx y K):Lx (x++y) K:=by intro p;obtain⟨ms,h1,h2⟩:=h (p+x.length);refine⟨ms,?_,h2⟩;rw[Q1u,hs];rw[Q1u (p+x.length)]at h1;rw[List.drop_append,List.drop_of_length_le (by omega),Ba,show x.length+skip false y-x.length=skip false y by omega,<-Nat.add_assoc];exact h1
theorem Qlw{b:UInt8}{y:List UInt8}{K:List KT}(hb:Qo b.toNat=true)(h:Lx y K):Lx (b::y) K:=
 Qly (x:=[b]) (by
  have lC:¬ b.toNat=35:=by intro e;rw[e]at hb;revert hb;decide
  rw[BJ,Qfn,if_neg lC,if_pos hb,List.length_singleton,Nat.add_comm]) h
theorem Qc5{b:UInt8}{y:List UInt8}{K:List KT}(hb:b=40∨b=41∨b=59∨b=44∨b=58∨b=123∨b=125)(h:Lx y K):Lx (b::y) ((2,[b])::K):=Qc6 (x:=[b]) (k:=2) (by rcases hb with rfl|rfl|rfl|rfl|rfl|rfl|rfl<;>rfl) (fun c hc=>by rcases hb with rfl|rfl|rfl|rfl|rfl|rfl|rfl<;>exact⟨fun h=>absurd h (by decide),fun h=>absurd h.1 (by decide)⟩) h
theorem Qte(T:List Tok)(i:Nat):(tk T i).kind=((kts T).getD i Q01).1:=by unfold tk kts;rw[Av,Av,AY];cases T[i]?<;>rfl
theorem Qtf(T:List Tok)(i:Nat):(tk T i).text=((kts T).getD i Q01).2:=by unfold tk kts;rw[Av,Av,AY];cases T[i]?<;>rfl
theorem Qc1(T:List Tok):(kts T).length=T.length:=by unfold kts;rw[List.length_map]
def Toks(C:List KT):Prop:=∀x∈C,∃k:Nat,x.1=k/\tok x.2=.ok (k,x.2.length)
theorem Toks.kind{C:List KT}(h:Toks C){x:KT}(hx:x∈C):x.1≠3:=by obtain⟨k,h1,h2⟩:=h x hx;have:=Qg7 h2;omega
section
section
variable {T:List Tok} {C lv i:Nat}
theorem Qcz{x:Syn}(h:Q2 x=true):natB x.num=true:=by unfold Q2 at h;simp only[Ai]at h;exact h.1.2
theorem Qm9(x:Syn):70+2*x.text.length<=mass x:=by rcases x with⟨a,b,c,d,e⟩;rw[Jm];simp only[Syn.text];omega
end
end
section
structure Asc (n:Int) (T:List Tok):Prop where
 mono:∀i j,i<=j->j<T.length->(tk T i).pos<=(tk T j).pos
 low:∀i,i<T.length->0<=(tk T i).pos
 high:∀i,i<T.length->(tk T i).pos<=n
 inn:∀i,i<T.length->(tk T i).kind≠3->(tk T i).pos<n
inductive Ord (n:Int):Syn->Prop
 | mk {kd:Int} {tx:List UInt8} {m a:Int} {k:List Syn} (h:a<n) (hp:∀z∈k,a<=z.pos) (hk:∀z∈k,Ord n z):Ord n (.mk kd tx m a k)
section
variable {n:Int} {T:List Tok} {res:List UInt8->Bool} {lv i:Nat} {b:Int}
end
end
end Go.Proofs.YtakdifceogdioaaGreatDoor
namespace Go.Proofs.YtakdifceogdioaaGreatDoor
open Go.Proofs.Tryz
open Go.RowKit
def idxS(s:List UInt8):List (List UInt8)->Nat->Int
 | [],_=>-1
 | x::r,i=>if x=s then(i:Int)else idxS s r (i+1)
theorem Qpz(l:List (List UInt8))(s:List UInt8)(g c:Nat)(w:World)(hl:l.length<=1000000)(hc:∀i (h:i<l.length),w.cell? ⟨g,i,none⟩=some (.string ⟨l[i].toArray⟩)):
  Calls prog 248 #[.slice (some ⟨g,0,none⟩) l.length c,.string ⟨s.toArray⟩] w fun e w'=>e=.returned (.int .i64 (idxS s l 0))/\Below w.heap.size w w':=by
 obtain⟨res,hr⟩:∃x,Hid (x=idxS s l 0):=⟨_,qh rfl⟩;rw[<-hr.out];replace hc:=qh hc;go_enter func248,ntmps248;go_wp2_with fail;go_loopw [5] (fun s5 wr=>(∃j:Nat,j<=l.length/\s5=.int .i64 j/\Hid (res=idxS s (l.drop j) j))/\Hid (Below w.heap.size w wr)) (fun s5 _=>l.length-(intOf s5).toNat)
 case atStart=>exact⟨⟨0,by omega,rfl,hr⟩,qh (Below.refl _ _)⟩
 case round=>
  obtain⟨⟨j,hj,rfl,iH⟩,dB⟩:=hrel;by_cases af:j<l.length
  ·have aY:(j:Int)<l.length:=by omega
   have hx:=Q1 (hc.out j af) dB.out;have ae:Hid (res=if l[j]=s then(j:Int)else idxS s (l.drop (j+1)) (j+1)):=qh (by rw[iH.out,List.drop_eq_getElem_cons af,idxS]);generalize l[j]=x at *;by_cases fD:x=s
   ·have ht:(x==s)=true:=beq_iff_eq.2 fD
    replace ae:=qh (ae.out.trans (if_pos fD));replace fD:=qh fD;go_wp2_with fail;go_ret;exact⟨by rw[ae.out];rfl,dB.out⟩
   ·have ht:(x==s)=false:=beq_eq_false_iff_ne.2 fD
    replace ae:=qh (ae.out.trans (if_neg fD));replace fD:=qh fD;go_wp2_with fail;go_roundw
    case rel=>exact⟨⟨j+1,by omega,by go_num,ae⟩,dB⟩
    case measure=>simp[intOf];omega
  ·have aY:¬ (j:Int)<l.length:=by omega
   go_wp2_with fail;go_ret;refine⟨?_,dB.out⟩;rw[iH.out,AF (by omega),idxS];rfl
abbrev Q4y:List (List UInt8):=[Jj,Q6w,Q6u,Q6v,Q6t,Q6r,fAt,[],kAnd,kOr,[75],[69],[68],[67],Q6x,Q6q,Q6s,Jq]
def Q80(s:List UInt8):Int:=idxS s Q4y 0
theorem Qmb{s:List UInt8}(h:∃x∈Yw,x.2=s):Q80 s=Yo s:=by obtain⟨x,hx,rfl⟩:=h;unfold Yw at hx;simp only[A8,A7,or_false]at hx;rcases hx with rfl|rfl|rfl|rfl|rfl|rfl|rfl|rfl|rfl|rfl|rfl|rfl|rfl|rfl|rfl|rfl|rfl<;>kernel_rfl
theorem Qq4(s:List UInt8)(w:World):Calls prog 224 #[.string ⟨s.toArray⟩] w fun e w'=>e=.returned (.int .i64 (Q80 s))/\Below w.heap.size w w':=by have h1:=heap_alloc_new w (.cells (Q4y.map fun x=>Value.string ⟨x.toArray⟩).toArray 9);have hb:Below w.heap.size w (w.alloc (.cells (Q4y.map fun x=>Value.string ⟨x.toArray⟩).toArray 9)):=(Below.refl _ _).alloc (A4 _) _;have hI:=Qpz Q4y s w.heap.size 18 _ (by decide) (fun i hi=>Zn h1 (by rw[AY,Ah hi];rfl));clear h1;replace hI:=qh hI;replace hb:=qh hb;go_enter func224,ntmps224;go_wp2_with fail;refine(hI.out).mono ?_;rintro e w2 ⟨rfl,b2⟩;have a7:=qs hb b2;replace b2:=qh b2;go_wp2_with fail;go_ret;exact⟨rfl,a7.out⟩
end Go.Proofs.YtakdifceogdioaaGreatDoor
namespace Go.Proofs.YtakdifceogdioaaGreatDoor
open Go.Proofs.Tryz
section
def Tl(U:List Tok)(i:Nat)(K:List KT):Prop:=(kts U).drop i=K
section
variable {U:List Tok} {i:Nat} {K:List KT} {x:KT} {res:List UInt8->Bool}
theorem Qg1(h:Tl U i (x::K)):(kts U).getD i Q01=x:=by
 have h1:((kts U).drop i)[0]?=some x:=by rw[show(kts U).drop i=_ from h];rfl
 rw[List.getElem?_drop,Bt]at h1;rw[Av,h1];rfl
theorem Z0(h:Tl U i (x::K)):Tl U (i+1) K:=by unfold Tl at h⊢;rw[<-B0,h];rfl
theorem Qtg(h:Tl U i (x::K)):i<U.length:=by have:=congrArg Bk (show(kts U).drop i=_ from h);rw[Ax,Qc1,Ad]at this;omega
theorem Yj{A B:List KT}(h:Tl U i (A++B)):Tl U (i+A.length) B:=by unfold Tl at h⊢;rw[<-B0,h,List.drop_left]
theorem Qth(h:kts U=K):Tl U 0 K:=h
theorem Q9i(h:Tl U i (x::K)):(tk U i).kind=x.1:=by rw[Qte,Qg1 h]
theorem Q14(h:Tl U i (x::K)):(tk U i).text=x.2:=by rw[Qtf,Qg1 h]
theorem Zy{y:KT}(h:Tl U i (x::y::K)):nx U i=i+1:=by unfold nx;rw[if_pos (Qtg (Z0 h))]
theorem Q5l(h:Tl U i (x::K))(ws:List (List UInt8)):isW U ws i=((decide (x.1=2)||decide (x.1=0))&&ws.contains x.2):=by unfold isW;rw[Q9i h,Q14 h]
theorem Q2g{y:KT}{k:Int}{w:List UInt8}(h:Tl U i ((k,w)::y::K))(hk:k=2∨k=0):need U w i=.ok (tk U i) (i+1):=by unfold need;rw[Q5l h,Zy h,if_pos];rcases hk with rfl|rfl<;>simp
theorem Q9j{y:KT}{w:List UInt8}(h:Tl U i ((1,w)::y::K)):number U i=.ok (.mk 9 [] (dv 0 w:Nat) (tk U i).pos []) (i+1):=by unfold number;rw[Q9i h,Zy h,Q14 h,if_neg (fun h=>h rfl)]
theorem Q3q{A B:List KT}{b:KT}(h:Tl U i (A++b::B)):i<U.length:=by have:=congrArg Bk (show(kts U).drop i=_ from h);rw[Ax,Qc1,Ac,Ad]at this;omega
end
def w0:List UInt8:=[112,114,111,99,101,115,115,101,115]
section
variable {U:List Tok} {res:List UInt8->Bool} {f i:Nat}
theorem Q5m{K:List KT}{k:Int}{w:List UInt8}(h:Tl U i ((k,w)::K))(hk:k=2∨k=0)(hl:i+1<U.length):need U w i=.ok (tk U i) (i+1):=by unfold need;rw[Q5l h,show nx U i=i+1 from by unfold nx;rw[if_pos hl],if_pos];rcases hk with rfl|rfl<;>simp
theorem Y5{c:KT}{K:List KT}{ws:List (List UInt8)}(h:Tl U i (c::K))(e:((decide (c.1=2)||decide (c.1=0))&&ws.contains c.2)=true):isW U ws i=true:=by rw[Q5l h];exact e
theorem Z4{c:KT}{K:List KT}{ws:List (List UInt8)}(h:Tl U i (c::K))(e:((decide (c.1=2)||decide (c.1=0))&&ws.contains c.2)=false):¬ isW U ws i=true:=by rw[Q5l h,e];decide
theorem Jy{α β:Type}(a:α)(i:Nat)(f:α->Nat->Out β):(Out.ok a i).bind f=f a i:=rfl
end
inductive Emb (x y z:Syn):Syn->Prop
 |mk {p0 p1 p2 p3 p4 p5 p6 p7 p8 p9:Int} {x1 x2 y1 z1:Syn} (h1:Twin Any x x1) (h2:Twin Any x x2) (h3:Twin Any y y1) (h4:Twin Any z z1):
  Emb x y z (.mk 0 [] 3 p0 [.mk 1 [116] 2 p1 [.mk 9 [] 4 p2 [],.mk 2 [] 0 p3 [x1],.mk 3 [] 0 p4 [x2]],.mk 5 [97] 0 p5 [y1],.mk 6 [102] 0 p6 [z1],.mk 7 [112] 1 p7 [.mk 8 [116] 0 p8 [],.mk 8 [97] 0 p9 []]])
end
section
section
variable {U:List Tok} {res:List UInt8->Bool} {f lv i L:Nat} {x y:Syn} {K:List KT} {c:KT}
theorem Qlo{A:List KT}(h:Tl U i ((2,[40])::A)):rd res U (f+1) .lit lv i=parens U (rd res U f .formula) lv i:=by
 rw[rd];dsimp only
 rw[if_neg (Z4 h (by decide)),if_neg (Z4 h (by decide)),if_pos (Y5 h (by decide))]
def noOp(ops:List (List UInt8))(c:KT):Prop:=((decide (c.1=2)||decide (c.1=0))&&ops.contains c.2)=false
theorem noOp.isW{ops:List (List UInt8)}(h:Tl U i (c::K))(hc:noOp ops c):¬ isW U ops i=true:=Z4 h hc
end
structure Reads (res:List UInt8->Bool) (nt:NT) (s:List UInt8) (x:Syn) (T:List Tok) (C:List KT) (f j:Nat):Prop where
 lx:Lx s (C++[Q01])
 kt:kts T=C++[Q01]
 tk:Toks C
 no:(35:UInt8)∉s
 rd:whole T (Proofs.YtakdifceogdioaaGreatDoor.rd res T f nt)=.ok x j
section
variable {res:List UInt8->Bool} {nt:NT} {s:List UInt8} {x:Syn} {T U:List Tok} {C:List KT} {f g j i lv:Nat}
end
end
section
def DN(x:Syn)(L:Nat)(o:Out Syn):Prop:=match o with|.ok y l=>l=L/\Twin Any x y|.err _ e=>e=12|.none=>True
theorem DN.bind{x z:Syn}{L M:Nat}{o:Out Syn}{f:Syn->Nat->Out Syn}(h:DN x L o)(hf:∀y,Twin Any x y->DN z M (f y L)):DN z M (o.bind f):=by
 cases o with
 | none=>exact h
 | err p e=>exact h
 | ok y l=>obtain⟨rfl,h⟩:=h;exact hf y h
theorem Qig{x y:Syn}{L:Nat}(h:Twin Any x y):DN x L (.ok y L):=⟨rfl,h⟩
section
variable {U:List Tok} {res:List UInt8->Bool} {f g lv i L M:Nat} {x y:Syn} {K A B:List KT} {c:KT} {r:Rd} {ops:List (List UInt8)}
end
def parK(b:Bool)(K:List KT):List KT:=if b then(2,[40])::(K++[(2,[41])])else K
theorem Qao(n:Nat)(d:Nat)(hd:d<10)(l:List UInt8):dv n (UInt8.ofNat (48+d)::l)=dv (10*n+d) l:=by
 rw[Q0r];have:(UInt8.ofNat (48+d)).toNat=48+d:=by rw[UInt8.toNat_ofNat'];omega
 rw[this];congr 1;omega
theorem Qia:∀f n l,n<f->dv 0 (Jc f n l)=dv n l:=by
 intro f;induction f with
 | zero=>intro n l h;omega
 | succ f ih=>
  intro n l h;rw[Jc];split
  ·rename_i h1;rw[Qao 0 n h1];congr 1;omega
  ·rename_i h1
   rw[ih _ _ (by omega),Qao _ _ (Ce _ (by omega))];congr 1;omega
theorem Qaf(n:Nat):dv 0 (dec n)=n:=Qia _ _ _ (by omega)
theorem Qal{d:Nat}(hd:d<10):Q6 (UInt8.ofNat (48+d)).toNat=true:=by
 have:(UInt8.ofNat (48+d)).toNat=48+d:=by rw[UInt8.toNat_ofNat'];omega
 rw[this];unfold Q6;simp;omega
theorem Qi9:∀f n l,n<f->(∀c∈l,Q6 c.toNat=true)->Jc f n l≠[]/\∀c∈Jc f n l,Q6 c.toNat=true:=by
 intro f;induction f with
 | zero=>intro n l h;omega
 | succ f ih=>
  intro n l h hl;rw[Jc];split
  ·rename_i h1
   refine⟨List.cons_ne_nil _ _,fun c hc=>?_⟩;rcases A8.1 hc with rfl|hc
   ·exact Qal h1
   ·exact hl c hc
  ·rename_i h1
   refine ih _ _ (by omega) fun c hc=>?_
   rcases A8.1 hc with rfl|hc
   ·exact Qal (Ce _ (by omega))
   ·exact hl c hc
theorem Q90{p:Int->Bool}:∀{l:List UInt8},(∀c∈l,p c.toNat=true)->Q0 p l=l.length
 | [],_=>rfl
 | c::r,h=>by rw[Q0,if_pos (h c (A5 ..)),Q90 fun d hd=>h d (Ab _ hd)];rfl
theorem Qr0{p:Int->Bool}{c:UInt8}{r:List UInt8}(h:p c.toNat=false):Q0 p (c::r)=0:=by rw[Q0,if_neg (by rw[h];decide)]
theorem Qie{n:Nat}(h:n<=1048576):tok (dec n)=.ok (1,(dec n).length):=by
 obtain⟨h0,h1⟩:=Qi9 (n+1) n [] (by omega) (fun c hc=>(A7 hc).elim);have hw:Q0 Q3 (dec n)=(dec n).length:=Q90 fun c hc=>by unfold Q3;rw[h1 c hc];simp
 have hd:Q0 Q6 (dec n)=(dec n).length:=Q90 h1;have hl:Q0 Qv (dec n)=0:=by
  cases hq:dec n with
  | nil=>rfl
  | cons c r=>refine Qr0 ?_;have:=h1 c (by show c∈dec n;rw[hq];exact A5 ..);unfold Q6 at this;unfold Qv;simp at this⊢;omega
 have hp:0<(dec n).length:=BE.2 h0;unfold tok;rw[hw,hd,hl,if_neg (by omega),if_pos rfl,if_neg (by omega),BV,Q9o _ _ (by omega),Qaf,if_pos h];simp
end
end Go.Proofs.YtakdifceogdioaaGreatDoor
namespace Go.Proofs.YtakdifceogdioaaGreatDoor
open Go.Proofs.Tryz
open Go.RowKit
theorem Qmg(o:Int):(o=8∨o=9∨o=17∨o=0∨o=1∨o=2∨o=3∨o=4∨o=5∨o=6)∨((o==8)=false/\(o==9)=false/\(o==17)=false/\(o==0)=false/\(o==1)=false/\(o==2)=false/\(o==3)=false/\(o==4)=false/\(o==5)=false/\(o==6)=false):=by simp only[beq_eq_false_iff_ne];omega
theorem Qmf{o:Int}(hr:inr 0 17 o=true)(h:(o==8)=false/\(o==9)=false/\(o==17)=false/\(o==0)=false/\(o==1)=false/\(o==2)=false/\(o==3)=false/\(o==4)=false/\(o==5)=false/\(o==6)=false):Qs o=1:=by simp only[beq_eq_false_iff_ne]at h;unfold inr at hr;rw[Ai,decide_eq_true_eq,decide_eq_true_eq]at hr;unfold Qs;rw[if_neg (by omega),if_neg (by omega)]
theorem Qo3(n:Int)(ca:1<=n)(bX:n<=5):∀(m:Nat) (f:Fm),SizeOf.sizeOf f<m->fsz f<=1000000->∀(q:Option Addr) (d:Nat) (w:World),FmR w f.args (.slice q f.args.length d) ->
  Calls prog 78 #[fmV f q d,.int .i64 n] w (Zp w (fnodes n f)):=by
 intro m;induction m with
 | zero=>intro f h;omega
 | succ m ih=>
  intro f hm hz q d w ad;obtain⟨o,p,r,v,g,l⟩:=f;replace ad:FmR w l (.slice q l.length d):=ad;show Calls prog 78 #[.agg #[.int .i64 o,.int .i64 p,.int .i64 r,.int .i64 v,.int .i64 g,.slice q l.length d],.int .i64 n] w _;obtain⟨res,hr⟩:∃x,Hid (x=fnodes n (.mk o p r v g l)):=⟨_,qh rfl⟩;rw[<-hr.out];replace hr:=qh (hr.out.trans Q4k);simp only[Fm.mk.sizeOf_spec]at hm;rw[Qj]at hz;have aq:Hid (∀j (hj:j<l.length),fsz l[j]<=1000000):=qh (fun j hj=>by have:=Zg (Ae hj);omega)
  have gb:l.length<=1000000:=by have:=Zf l;omega
  clear hz;replace ih:=qh ih;replace ad:=qh ad;have hR:=fun W=>Q47 o 0 17 W
  have gF:inr 0 17 o=(decide (0<=o)&&decide (o<=17)):=rfl;rw[<-gF]at hR;clear gF;have iR:=Qbb (n:=n) (o:=o) (p:=p) (r:=r) (v:=v) (g:=g) (l:=l);cases cC:inr 0 17 o with
  | false=>rw[cC]at hR;rw[if_pos cC]at iR;rw[iR]at hr;replace hR:=qh hR;clear iR cC ad hm ih aq;generalize l.length=k at *;have hq:=boxF w (.int .i64 o) (.int .i64 p) (.int .i64 r) (.int .i64 v) (.int .i64 g) (.slice q k d) rfl;go_enter func78,ntmps78;go_upto_region 1 with(fail);generalize A0 w _=w1 at hq⊢;obtain⟨hB,hF,bR,c0,c1,c2,c3,c4,c5⟩:=hq;go_wp2_with (go_at_call 75;(with_reducible refine(hR.out _).mono ?_);rintro e w2 ⟨rfl,hw⟩;rw[hw];clear hw);all_goals go_ret;exact⟨by rw[hr.out]<;>rfl,hB.out⟩
  | true=>
   rw[if_neg (by rw[cC];decide)]at iR;have uf:=qh (fun h=>Qmf cC h);rw[cC]at hR;replace hR:=qh hR;replace cC:=qh cC;replace iR:=qh iR;have hE:=qh (fun B W=>Q77 B n o ca bX W);replace ca:=qh ca;replace bX:=qh bX;have hq:=boxF w (.int .i64 o) (.int .i64 p) (.int .i64 r) (.int .i64 v) (.int .i64 g) (.slice q l.length d) rfl;go_enter func78,ntmps78;go_upto_region 1 with(fail);generalize A0 w _=w1 at hq⊢;obtain⟨hB,hF,bR,c0,c1,c2,c3,c4,c5⟩:=hq;go_upto_block 0 with(go_at_call 75;(with_reducible refine(hR.out _).mono ?_);rintro e w2 ⟨rfl,hw⟩;rw[hw];clear hw)
   go_cut [5]from 20 to 31 (fun s5 wx=>s5=.int .i64 (Qs o)/\wx=w1)
   case first=>
    clear ad ih aq hr iR hE;rcases Qmg o with(rfl|rfl|rfl|rfl|rfl|rfl|rfl|rfl|rfl|rfl)|cj
    case inr=>
     have e1:=uf.out cj;obtain⟨h1,h2,h3,h4,h5,h6,h7,h8,h9,h0⟩:=cj;go_wp2_with fail;all_goals
      go_meet
      exact⟨by rw[e1];rfl,rfl⟩
    all_goals go_wp2_with fail
    all_goals
     go_meet
     exact⟨rfl,rfl⟩
   case rest=>
    obtain⟨rfl,rfl⟩:=hcut;by_cases hl:l.length=Qs o
    case neg=>have hx:=iR.out.trans (if_pos hl);rw[hx]at hr;obtain⟨hb,cd,nC⟩:=Zi (x:=(l.length:Int)) (y:=Qs o) (by omega);clear hl hx iR ad hm ih aq;generalize l.length=k at *;generalize Qs o=k2 at *;go_wp2_with fail;all_goals go_ret;exact⟨by rw[hr.out]<;>rfl,hB.out⟩
    case pos=>
     have hx:=iR.out.trans (if_neg (fun h=>h hl));replace iR:=qh hx;clear hx;have hb:((l.length:Int)!=(Qs o:Int))=false:=by rw[hl];simp
     replace hl:=qh hl;generalize Qs o=k2 at *;have js:=boxF wc (.int .i64 o) (.int .i64 p) (.int .i64 r) (.int .i64 v) (.int .i64 g) (.slice q l.length d) rfl;have di:=heap_alloc_new wc (.cells #[.int .i64 o,.int .i64 p,.int .i64 r,.int .i64 v,.int .i64 g,.slice q l.length d] 24);go_upto_region 20 with(fail);generalize A0 wc _=w2 at js di⊢;obtain⟨aM,kQ,bR2,e0,e1,e2,e3,e4,e5⟩:=js;replace di:=qh di;generalize pq:wc.heap.size=R at *;replace pq:=qh pq;have jz:=qh (hE.out R w2 e0);go_upto_region 21 with(go_at_call 95;(with_reducible refine(jz.out).mono ?_);rintro e w3 ⟨va,vm,rfl,⟨pa,rfl,gX⟩,⟨pm,rfl,nG⟩,b3,oa,om⟩;replace b3:=qh b3;replace gX:=qh gX;replace nG:=qh nG;replace oa:=qh oa;replace om:=qh om);have lq:Hid (R<w2.heap.size):=qh (A3.1 di.out).1;have kG:Hid (w3.heap[R]?=some (.cells #[.int .i64 o,.int .i64 p,.int .i64 r,.int .i64 v,.int .i64 g,.slice q l.length d] 24 (0,0))):=qh ((b3.out.block R lq.out).trans di.out);have kw:=qh (fun j h=>Qj6 o p r v g n (vMax o) (.slice q l.length d) (useP o) (useO o) (useV o) (useG o) j h);have pw:=Q4i n (vMax o) p r v g (useP o) (useO o) (useV o) (useG o) (inr 0 (n-1) p) (inr 0 (n-1) r) (inr 0 (vMax o) v) (inr 0 (2 ^ n.toNat-1) g);have lW:=qh (Qup o p r v g (.slice q l.length d) (useP o) (useO o) (useV o) (useG o));have aU:=qh (@Qit n o p r v g);have bn:=qh (fun j h=>@Qiu n o p r v g j h);have uT:=Q30 (useP o) (useO o) (useV o) (useG o);have ug:=qh (fun c j h=>@Quq c (fldP (useP o) (useO o) (useV o) (useG o)) j h);have f7:=qh (Qjl (o:=o) (p:=p) (r:=r) (v:=v) (g:=g));obtain⟨ig,mj,sM⟩:=pw;generalize (if useP o=true then 0 else p)=r1 at *;generalize (if useO o=true then 0 else r)=r2 at *;generalize (if useV o=true then 0 else v)=r3 at *;generalize (if useG o=true then 0 else g)=r4 at *;generalize fldB (useP o) (useO o) (useV o) (useG o) (inr 0 (n-1) p) (inr 0 (n-1) r) (inr 0 (vMax o) v) (inr 0 (2 ^ n.toNat-1) g)=TT at *;generalize fldX (useP o) (useO o) (useV o) (useG o) p r v g=XX at *;generalize fldM n (vMax o) (useP o) (useO o) (useV o) (useG o)=MM at *;generalize fldP (useP o) (useO o) (useV o) (useG o)=ps at *;replace mj:=qh mj;replace sM:=qh sM;have pz:=ig;rw[pz] ;replace ig:=qh ig;clear pz e0 e1 e2 e3 e4 e5 kQ hE jz c0 c1 c2 c3 c4 c5;replace pq:=qh pq.out;go_wp2_with fail;have qI:Hid (w.heap.size<=R):=qh (by have:=hB.out.size;have:=pq.out;omega);have kx:Hid (Below w.heap.size w w3):=qh ((hB.out.trans (aM.out.mono qI.out)).trans (b3.out.mono (by have:=lq.out;have:=qI.out;omega)));go_loopw [9,10,45] (fun _ _ s45 wr=>∃j:Nat,j<=ps.length/\s45=.int .i64 j/\Hid ((∀(k:Nat) (b:Bool),k<j->TT[k]?=some b->b=true)/\Kept R (fun k=>k=R) w3 wr/\wr.heap[R]?=some (.cells (zf [.int .i64 o,.int .i64 p,.int .i64 r,.int .i64 v,.int .i64 g,.slice q l.length d] (ps.take j)).toArray 24 (0,0)))) (fun _ _ s45 _=>ps.length-(intOf s45).toNat)
     case atStart=>exact⟨0,by omega,rfl,qh ⟨fun k b h=>absurd h (AX _),Qc0 0,kG.out⟩⟩
     case round=>
      obtain⟨j,hj,rfl,ae⟩:=hrel;by_cases af:j<ps.length
      ·have aY:((j:Int)<ps.length)=True:=by simp;omega
       have dT:(j:Int)<ps.length:=by omega
       obtain⟨x,mm,hx,jt,uh,lX⟩:=kw.out j af;obtain⟨ga,ea,ju⟩:=gX.out j af;obtain⟨gm,em,sN⟩:=nG.out j (by have:=ig.out;omega);have vR:w2.heap.size<=ga:=oa.out ga (by rw[ea];rfl);have vS:w2.heap.size<=gm:=om.out gm (by rw[em];rfl);have mO:MM[j]'(by have:=ig.out;omega)=mm:=by rw[Ah (by have:=ig.out;omega)]at jt;exact Ap jt
       rw[mO]at sN;subst ea em;have ez:=lq.out;have g0:=ae.out.2.1.cell ju (.inr (fun e=>by omega));have g1:=ae.out.2.1.cell sN (.inr (fun e=>by omega));have g2:=Zn ae.out.2.2 uh;have g3:wr.frozen? ⟨R,ps[j],none⟩=false:=Aq ae.out.2.2 _;have dj:=qh (fun k=>Yr (W:=wr.drewN k) (i:=ps[j]) ae.out.2.2 (.int .i64 0));rw[<-ug.out _ _ af]at dj;have aT:=qh (fun k=>(ae.out.2.1.trans (Qc0 k)).trans (Kept.setCell (o:=ps[j]) (wr.drewN k) (.int .i64 0) (bx:=fun k=>k=R) rfl (A4 R)));have ab:=fun W=>Q47 x 0 mm W
       have gF:inr 0 mm x=(decide (0<=x)&&decide (x<=mm)):=rfl;rw[<-gF]at ab;clear gF hx jt uh ju sN vR vS mO ez;generalize ps[j]=pj at *;cases db:inr 0 mm x with
       | true=>
        rw[db]at ab lX;replace ab:=qh ab;replace lX:=qh lX;replace db:=qh db;go_wp2_with fail;go_quiet ((go_at_call 75;with_reducible exact Calls.quiet_of_same (ab.out _)))
        go_wp2_with fail;go_roundw
        case rel=>exact⟨j+1,by omega,by go_num,qh ⟨fun k b hk hb=>by
         rcases B9 k j with h|h
         ·exact ae.out.1 k b h hb
         ·obtain rfl:k=j:=by omega
          rw[lX.out]at hb;exact(Ap hb).symm,aT.out _,dj.out _⟩⟩
        case measure=>simp[intOf];omega
       | false=>
        rw[db]at ab lX;replace ab:=qh ab;replace lX:=qh lX;replace db:=qh db;have lQ:=qh (kx.out.trans (ae.out.2.1.1.mono qI.out));go_wp2_with fail;go_quiet ((go_at_call 75;with_reducible exact Calls.quiet_of_same (ab.out _)))
        go_wp2_with fail;refine bodyPost_ret (v:=.int .i64 2) (by simp[results,results78,go_sem]) rfl ⟨?_,Y2 lQ.out _⟩;rw[hr.out,iR.out,if_pos (bn.out _ lX.out)];rfl
      ·have aY:((j:Int)<ps.length)=False:=by simp;omega
       obtain rfl:j=ps.length:=by omega
       have ui:fbad n o p r v g=false:=aU.out (fun k b hb=>ae.out.1 k b (by
        rcases B9 k ps.length with h|h
        ·exact h
        ·rw[Bj (by have:=sM.out;omega)]at hb;cases hb) hb)
       have np:=qh (iR.out.trans (if_neg (by rw[ui];decide)));have fV:=ae.out.2.2;rw[BV,lW.out]at fV;have d1:=Zn (i:=1) fV rfl;have d2:=Zn (i:=2) fV rfl;have d3:=Zn (i:=3) fV rfl;have d4:=Zn (i:=4) fV rfl;have dV:=qh (kx.out.trans (ae.out.2.1.1.mono qI.out));have aw:=qh ((aM.out.trans (b3.out.mono (Cb lq.out))).trans ae.out.2.1.1);obtain⟨c0,c1,c2,c3,c4,c5⟩:=hF.out _ aw.out;have key3:Hid (foff o p r v g=true->res=3):=qh (fun h=>by rw[hr.out,np.out,if_pos h]<;>rfl);have key0:Hid (foff o p r v g=false->res=fnodesL n l):=qh (fun h=>by rw[hr.out,np.out,if_neg (by rw[h];decide)]<;>rfl);clear ae kw ug aU bn ui iR np fV lW gX nG oa om di kG hr uf cC;rcases Qjo r1 r2 r3 r4 with h1|⟨rfl,h1⟩|⟨rfl,rfl,h1⟩|⟨rfl,rfl,rfl,h1⟩|⟨rfl,rfl,rfl,rfl⟩
       case inr.inr.inr.inr=>
        have ir:=qh (key0.out (by rw[f7.out];rfl));clear key3 key0 f7;go_wp2_with fail;clear d1 d2 d3 d4 c0 c1 c2 c3 c4 c5;go_loopw [83] (fun s83 wr=>(∃j:Nat,j<=l.length/\s83=.int .i64 j/\Hid (fnodesL n l=fnodesL n (l.drop j)))/\Hid (Below w.heap.size w wr)) (fun s83 _=>l.length-(intOf s83).toNat)
        case atStart=>exact⟨⟨0,by omega,rfl,qh rfl⟩,dV⟩
        case round=>
         obtain⟨⟨j,hj,rfl,bN⟩,hb⟩:=hrel;by_cases af:j<l.length
         ·have aY:((j:Int)<l.length)=True:=by simp;omega
          have ae:=Qbc (n:=n) af;obtain⟨b,oo,u,e,rfl,hu,aV⟩:=(ad.out.low hb.out).get j af;have az:=Ar (Ae af);have ab:=fun W (h:Below wr.heap.size wr W)=>ih.out l[j] (by omega) (aq.out j af) u e W (aV.low h)
          replace bN:=qh (bN.out.trans ae);have dT:(j:Int)<l.length:=by omega
          clear ae az aV;generalize l[j]=x at *;obtain⟨u0,u1,u2,u3,u4,u5⟩:=hu;replace ab:∀W,Below wr.heap.size wr W->Calls prog 78 #[fmV x u e,.int .i64 n] W fun e' w'=>e'=.returned (.int .i64 (fnodes n x))/\Below W.heap.size W w':=ab
          generalize fnodes n x=ex at *;have hq:=boxF wr (.int .i64 x.op) (.int .i64 x.pr) (.int .i64 x.ot) (.int .i64 x.va) (.int .i64 x.gr) (.slice u x.args.length e) rfl;by_cases hex:ex=0
          ·replace bN:=qh (bN.out.trans (if_neg (fun h=>h hex)))
           subst hex;replace ab:Hid (∀W,Below wr.heap.size wr W->Calls prog 78 #[fmV x u e,.int .i64 n] W fun e' w'=>e'=.returned (.int .i64 0)/\Below W.heap.size W w'):=qh ab;go_upto_region 33 with(fail);generalize A0 wr _=w5 at hq⊢;obtain⟨ey,gW,bR6,f0,f1,f2,f3,f4,f5⟩:=hq;go_wp2_with (go_at_call 78;(with_reducible refine(ab.out _ ey.out).mono ?_);rintro e' w6 ⟨rfl,b6⟩;replace b6:=qs ey b6);go_roundw
           case rel=>exact⟨⟨j+1,by omega,by go_num,bN⟩,qt hb b6⟩
           case measure=>simp[intOf];omega
          ·obtain⟨iG,js,qT⟩:=J8 hex
           replace bN:=qh (bN.out.trans (if_pos hex));replace ab:=qh ab;clear hex;go_upto_region 33 with(fail);generalize A0 wr _=w5 at hq⊢;obtain⟨ey,gW,bR6,f0,f1,f2,f3,f4,f5⟩:=hq;go_wp2_with (go_at_call 78;(with_reducible refine(ab.out _ ey.out).mono ?_);rintro e' w6 ⟨rfl,b6⟩;replace b6:=qs ey b6);refine bodyPost_ret (v:=.int .i64 ex) (by simp[results,results78,go_sem]) rfl ⟨by rw[ir.out,bN.out],hb.out.trans (b6.out.mono hb.out.size)⟩
         ·have aY:((j:Int)<l.length)=False:=by simp;omega
          go_wp2_with fail;refine bodyPost_ret (v:=.int .i64 0) (by simp[results,results78,go_sem]) rfl ⟨?_,hb.out⟩;rw[ir.out,bN.out,AF (by omega),Q7d];rfl
       all_goals have ir:=qh (key3.out (by rw[f7.out];simp[h1]));obtain⟨t1,t2,t3⟩:=Zi h1;clear h1 key3 key0 f7;go_wp2_with fail;refine bodyPost_ret (v:=.int .i64 3) (by simp[results,results78,go_sem]) rfl ⟨by rw[ir.out]<;>rfl,dV.out⟩
theorem Qe3(f:Fm)(n:Int)(hz:fsz f<=1000000)(q:Option Addr)(d:Nat)(w:World)(ad:FmR w f.args (.slice q f.args.length d)):Calls prog 16 #[fmV f q d,.int .i64 n] w (Zp w (fcheck n f)):=by
 have hR:Hid (∀W,Calls prog 47 #[.int .i64 n,.int .i64 1,.int .i64 5] W fun e w'=>e=.returned (.bool (decide (1<=n)&&decide (n<=5)))/\w'=W):=qh (fun W=>Q0k n 1 5 W);have hZ:=qh (fun W (hb:Below w.heap.size w W)=>Qed _ f (Af _) hz q d W (ad.low hb));obtain⟨res,hr⟩:∃x,Hid (x=fcheck n f):=⟨_,qh rfl⟩;rw[<-hr.out];by_cases hn:1<=n/\n<=5
 ·obtain⟨ca,bX⟩:=hn
  have hN:=qh (fun W (hb:Below w.heap.size w W)=>Qpm n ca bX _ f (Af _) hz q d W (ad.low hb));replace hr:=qh (hr.out.trans (if_neg (by omega)));rw[decide_eq_true ca,decide_eq_true bX]at hR;replace hR:Hid (∀W,Calls prog 47 #[.int .i64 n,.int .i64 1,.int .i64 5] W fun e w'=>e=.returned (.bool true)/\w'=W):=hR;have hG:Hid (∀W,Calls prog 48 #[.int .i64 (fsz f),.int .i64 (fdp f)] W fun e w'=>e=.returned (.int .i64 (fbig (fsz f) (fdp f)))/\w'=W):=qh (fun W=>Qe1 (fsz f) (fdp f) W);clear ca bX ad;unfold Zp at hN;unfold Q0p at hZ;generalize fsz f=s at *;generalize fdp f=dd at *;generalize fnodes n f=en at *;generalize fbig s dd=eb at *;replace hr:=qh hr.out;obtain⟨o,p,r,v,g,l⟩:=f;replace hZ:Hid (∀W,Below w.heap.size w W->Calls prog 14 #[.agg #[.int .i64 o,.int .i64 p,.int .i64 r,.int .i64 v,.int .i64 g,.slice q l.length d]] W fun e w'=>e=.returned (.tuple #[.int .i64 s,.int .i64 dd])/\Below W.heap.size W w'):=hZ;replace hN:Hid (∀W,Below w.heap.size w W->Calls prog 49 #[.agg #[.int .i64 o,.int .i64 p,.int .i64 r,.int .i64 v,.int .i64 g,.slice q l.length d],.int .i64 n] W fun e w'=>e=.returned (.int .i64 en)/\Below W.heap.size W w'):=hN;show Calls prog 16 #[.agg #[.int .i64 o,.int .i64 p,.int .i64 r,.int .i64 v,.int .i64 g,.slice q l.length d],.int .i64 n] w _;generalize l.length=k at *;by_cases he:eb=0
  ·replace hr:=qh (hr.out.trans (if_neg (fun h=>h he)))
   subst he;replace hG:Hid (∀W,Calls prog 48 #[.int .i64 s,.int .i64 dd] W fun e w'=>e=.returned (.int .i64 0)/\w'=W):=hG;have hq:=boxF w (.int .i64 o) (.int .i64 p) (.int .i64 r) (.int .i64 v) (.int .i64 g) (.slice q k d) rfl;go_enter func16,ntmps16;go_upto_region 1 with(fail);generalize A0 w _=w1 at hq⊢;obtain⟨hB,hF,bR,c0,c1,c2,c3,c4,c5⟩:=hq;go_wp2_with (first|(go_at_call 47;(with_reducible refine(hR.out _).mono ?_);rintro e w2 ⟨rfl,hw⟩;rw[hw];clear hw)|(go_at_call 14;(with_reducible refine(hZ.out _ hB.out).mono ?_);rintro e w2 ⟨rfl,b2⟩;obtain⟨d0,d1,d2,d3,d4,d5⟩:=hF.out _ b2;replace b2:=qs hB b2)|(go_at_call 48;(with_reducible refine(hG.out _).mono ?_);rintro e w3 ⟨rfl,hw⟩;rw[hw];clear hw)|(go_at_call 49;(with_reducible refine(hN.out _ b2.out).mono ?_);rintro e w4 ⟨rfl,b4⟩));all_goals go_ret;exact⟨by rw[hr.out]<;>rfl,qs b2 b4⟩
  ·obtain⟨iG,js,qT⟩:=J8 he
   replace hr:=qh (hr.out.trans (if_pos he));clear he;have hq:=boxF w (.int .i64 o) (.int .i64 p) (.int .i64 r) (.int .i64 v) (.int .i64 g) (.slice q k d) rfl;go_enter func16,ntmps16;go_upto_region 1 with(fail);generalize A0 w _=w1 at hq⊢;obtain⟨hB,hF,bR,c0,c1,c2,c3,c4,c5⟩:=hq;go_wp2_with (first|(go_at_call 47;(with_reducible refine(hR.out _).mono ?_);rintro e w2 ⟨rfl,hw⟩;rw[hw];clear hw)|(go_at_call 14;(with_reducible refine(hZ.out _ hB.out).mono ?_);rintro e w2 ⟨rfl,b2⟩;replace b2:=qs hB b2)|(go_at_call 48;(with_reducible refine(hG.out _).mono ?_);rintro e w3 ⟨rfl,hw⟩;rw[hw];clear hw));all_goals go_ret;exact⟨by rw[hr.out]<;>rfl,b2.out⟩
 ·replace hr:=qh (hr.out.trans (if_pos (by omega)))
  have nL:(decide (1<=n)&&decide (n<=5))=false:=by rw[BY,decide_eq_false_iff_not,decide_eq_false_iff_not];omega
  rw[nL]at hR;obtain⟨o,p,r,v,g,l⟩:=f;show Calls prog 16 #[.agg #[.int .i64 o,.int .i64 p,.int .i64 r,.int .i64 v,.int .i64 g,.slice q l.length d],.int .i64 n] w _;clear hZ ad hn hz nL;generalize l.length=k at *;have hq:=boxF w (.int .i64 o) (.int .i64 p) (.int .i64 r) (.int .i64 v) (.int .i64 g) (.slice q k d) rfl;go_enter func16,ntmps16;go_upto_region 1 with(fail);generalize A0 w _=w1 at hq⊢;obtain⟨hB,hF,bR,c0,c1,c2,c3,c4,c5⟩:=hq;go_wp2_with (go_at_call 47;(with_reducible refine(hR.out _).mono ?_);rintro e w2 ⟨rfl,hw⟩;rw[hw];clear hw);all_goals go_ret;exact⟨by rw[hr.out];rfl,hB.out⟩
theorem Qde(f:Fm)(n:Int)(hz:fsz f<=1000000)(q:Option Addr)(d:Nat)(w:World)(ad:FmR w f.args (.slice q f.args.length d)):Calls prog 46 #[fmV f q d,.int .i64 n] w (Zp w (fcheck n f)):=by
 have hR:Hid (∀W,Calls prog 75 #[.int .i64 n,.int .i64 1,.int .i64 5] W fun e w'=>e=.returned (.bool (decide (1<=n)&&decide (n<=5)))/\w'=W):=qh (fun W=>Q47 n 1 5 W);have hZ:=qh (fun W (hb:Below w.heap.size w W)=>Qe0 _ f (Af _) hz q d W (ad.low hb));obtain⟨res,hr⟩:∃x,Hid (x=fcheck n f):=⟨_,qh rfl⟩;rw[<-hr.out];by_cases hn:1<=n/\n<=5
 ·obtain⟨ca,bX⟩:=hn
  have hN:=qh (fun W (hb:Below w.heap.size w W)=>Qo3 n ca bX _ f (Af _) hz q d W (ad.low hb));replace hr:=qh (hr.out.trans (if_neg (by omega)));rw[decide_eq_true ca,decide_eq_true bX]at hR;replace hR:Hid (∀W,Calls prog 75 #[.int .i64 n,.int .i64 1,.int .i64 5] W fun e w'=>e=.returned (.bool true)/\w'=W):=hR;have hG:Hid (∀W,Calls prog 76 #[.int .i64 (fsz f),.int .i64 (fdp f)] W fun e w'=>e=.returned (.int .i64 (fbig (fsz f) (fdp f)))/\w'=W):=qh (fun W=>Qsc (fsz f) (fdp f) W);clear ca bX ad;unfold Zp at hN;unfold Q0p at hZ;generalize fsz f=s at *;generalize fdp f=dd at *;generalize fnodes n f=en at *;generalize fbig s dd=eb at *;replace hr:=qh hr.out;obtain⟨o,p,r,v,g,l⟩:=f;replace hZ:Hid (∀W,Below w.heap.size w W->Calls prog 77 #[.agg #[.int .i64 o,.int .i64 p,.int .i64 r,.int .i64 v,.int .i64 g,.slice q l.length d]] W fun e w'=>e=.returned (.tuple #[.int .i64 s,.int .i64 dd])/\Below W.heap.size W w'):=hZ;replace hN:Hid (∀W,Below w.heap.size w W->Calls prog 78 #[.agg #[.int .i64 o,.int .i64 p,.int .i64 r,.int .i64 v,.int .i64 g,.slice q l.length d],.int .i64 n] W fun e w'=>e=.returned (.int .i64 en)/\Below W.heap.size W w'):=hN;show Calls prog 46 #[.agg #[.int .i64 o,.int .i64 p,.int .i64 r,.int .i64 v,.int .i64 g,.slice q l.length d],.int .i64 n] w _;generalize l.length=k at *;by_cases he:eb=0
  ·replace hr:=qh (hr.out.trans (if_neg (fun h=>h he)))
   subst he;replace hG:Hid (∀W,Calls prog 76 #[.int .i64 s,.int .i64 dd] W fun e w'=>e=.returned (.int .i64 0)/\w'=W):=hG;have hq:=boxF w (.int .i64 o) (.int .i64 p) (.int .i64 r) (.int .i64 v) (.int .i64 g) (.slice q k d) rfl;go_enter func46,ntmps46;go_upto_region 1 with(fail);generalize A0 w _=w1 at hq⊢;obtain⟨hB,hF,bR,c0,c1,c2,c3,c4,c5⟩:=hq;go_wp2_with (first|(go_at_call 75;(with_reducible refine(hR.out _).mono ?_);rintro e w2 ⟨rfl,hw⟩;rw[hw];clear hw)|(go_at_call 77;(with_reducible refine(hZ.out _ hB.out).mono ?_);rintro e w2 ⟨rfl,b2⟩;obtain⟨d0,d1,d2,d3,d4,d5⟩:=hF.out _ b2;replace b2:=qs hB b2)|(go_at_call 76;(with_reducible refine(hG.out _).mono ?_);rintro e w3 ⟨rfl,hw⟩;rw[hw];clear hw)|(go_at_call 78;(with_reducible refine(hN.out _ b2.out).mono ?_);rintro e w4 ⟨rfl,b4⟩));all_goals go_ret;exact⟨by rw[hr.out]<;>rfl,qs b2 b4⟩
  ·obtain⟨iG,js,qT⟩:=J8 he
   replace hr:=qh (hr.out.trans (if_pos he));clear he;have hq:=boxF w (.int .i64 o) (.int .i64 p) (.int .i64 r) (.int .i64 v) (.int .i64 g) (.slice q k d) rfl;go_enter func46,ntmps46;go_upto_region 1 with(fail);generalize A0 w _=w1 at hq⊢;obtain⟨hB,hF,bR,c0,c1,c2,c3,c4,c5⟩:=hq;go_wp2_with (first|(go_at_call 75;(with_reducible refine(hR.out _).mono ?_);rintro e w2 ⟨rfl,hw⟩;rw[hw];clear hw)|(go_at_call 77;(with_reducible refine(hZ.out _ hB.out).mono ?_);rintro e w2 ⟨rfl,b2⟩;replace b2:=qs hB b2)|(go_at_call 76;(with_reducible refine(hG.out _).mono ?_);rintro e w3 ⟨rfl,hw⟩;rw[hw];clear hw));all_goals go_ret;exact⟨by rw[hr.out]<;>rfl,b2.out⟩
 ·replace hr:=qh (hr.out.trans (if_pos (by omega)))
  have nL:(decide (1<=n)&&decide (n<=5))=false:=by rw[BY,decide_eq_false_iff_not,decide_eq_false_iff_not];omega
  rw[nL]at hR;obtain⟨o,p,r,v,g,l⟩:=f;show Calls prog 46 #[.agg #[.int .i64 o,.int .i64 p,.int .i64 r,.int .i64 v,.int .i64 g,.slice q l.length d],.int .i64 n] w _;clear hZ ad hn hz nL;generalize l.length=k at *;have hq:=boxF w (.int .i64 o) (.int .i64 p) (.int .i64 r) (.int .i64 v) (.int .i64 g) (.slice q k d) rfl;go_enter func46,ntmps46;go_upto_region 1 with(fail);generalize A0 w _=w1 at hq⊢;obtain⟨hB,hF,bR,c0,c1,c2,c3,c4,c5⟩:=hq;go_wp2_with (go_at_call 75;(with_reducible refine(hR.out _).mono ?_);rintro e w2 ⟨rfl,hw⟩;rw[hw];clear hw);all_goals go_ret;exact⟨by rw[hr.out];rfl,hB.out⟩
theorem Q72(f:Fm)(n:Int)(hz:fsz f<=1000000)(q:Option Addr)(d:Nat)(w:World)(ad:FmR w f.args (.slice q f.args.length d)):Calls prog 15 #[fmV f q d,.int .i64 n] w (Zp w (fcheck n f)):=by
 have hZ:=fun W (hb:Below w.heap.size w W)=>Qde f n hz q d W (ad.low hb)
 clear ad hz;unfold Zp at hZ⊢;generalize fcheck n f=res at *;obtain⟨o,p,r,v,g,l⟩:=f;replace hZ:Hid (∀W,Below w.heap.size w W->Calls prog 46 #[.agg #[.int .i64 o,.int .i64 p,.int .i64 r,.int .i64 v,.int .i64 g,.slice q l.length d],.int .i64 n] W fun e w'=>e=.returned (.int .i64 res)/\Below W.heap.size W w'):=qh hZ;show Calls prog 15 #[.agg #[.int .i64 o,.int .i64 p,.int .i64 r,.int .i64 v,.int .i64 g,.slice q l.length d],.int .i64 n] w _;generalize l.length=k at *;have hq:=boxF w (.int .i64 o) (.int .i64 p) (.int .i64 r) (.int .i64 v) (.int .i64 g) (.slice q k d) rfl;go_enter func15,ntmps15;go_upto_region 1 with(fail);generalize A0 w _=w1 at hq⊢;obtain⟨hB,hF,bR,c0,c1,c2,c3,c4,c5⟩:=hq;go_wp2_with (go_at_call 46;(with_reducible refine(hZ.out _ hB.out).mono ?_);rintro e w2 ⟨rfl,b2⟩);all_goals go_ret;exact⟨rfl,qs hB b2⟩
mutual
theorem Q7g:∀(f:Fm) (neg:Bool),fsz (fnorm f neg)<=2*fsz f
 | .mk a b c d e l,neg=>by
  rw[Qbf];have hl:=Qbe l;split
  ·cases l with
   | nil=>rw[Qj,Qj,Yy];omega
   | cons x r=>have:=Q7g x (!neg);rw[Qj,Qz];show fsz (fnorm x (!neg))<=_;omega
  ·split
   ·have:=hl true
    rw[Qj,Qj];omega
   ·split
    ·have:=hl false
     rw[Qj,Qz,Yy,Qj,Qj];omega
    ·have:=hl false
     rw[Qj,Qj];omega
theorem Qbe:∀(l:List Fm) (neg:Bool),fszL (fnormL l neg)<=2*fszL l
 | [],neg=>by rw[Q7f,Yy];omega
 | x::r,neg=>by rw[Q7e,Qz,Qz];have:=Q7g x neg;have:=Qbe r neg;omega
end
def fnormal(n:Int)(f:Fm):Fm×Nat:=if fcheck n f≠0 then(Qc,fcheck n f)else if 128<fsz (fnorm f false)then(Qc,5)else(fnorm f false,0)
def Q2l(w:World)(r:Fm×Nat)(e:Ending)(w':World):Prop:=∃q d,e=.returned (.tuple #[fmV r.1 q d,.int .i64 r.2])/\FmsAt (Fr w.heap.size) w' r.1.args (.slice q r.1.args.length d)/\Below w.heap.size w w'
theorem Q8i(f:Fm)(n:Int)(hz:fsz f<=400000)(q:Option Addr)(d:Nat)(w:World)(hG:Js w)(ad:FmR w f.args (.slice q f.args.length d)):Calls prog 27 #[fmV f q d,.int .i64 n] w (Q2l w (fnormal n f)):=by
 have hC:=qh (fun W (hb:Below w.heap.size w W)=>Q72 f n (by omega) q d W (ad.low hb));have hN:=qh (fun(h0:fnodes n f=0) W (hb:Below w.heap.size w W)=>Qo4 (n:=n) _ f (Af _) (by omega) h0 false q d W (hG.low hb) (ad.low hb));have iw:=Q7g f false;obtain⟨y,hy⟩:∃y,Hid (y=fnorm f false):=⟨_,qh rfl⟩;rw[<-hy.out]at hN iw;have hZ:=qh (fun q' d' W (h:FmR W y.args (.slice q' y.args.length d'))=>Qjs _ y (Af _) (by omega) q' d' W h);obtain⟨res,hr⟩:∃x,Hid (x=fnormal n f):=⟨_,qh rfl⟩;rw[<-hr.out];have bp:=qh (fun h=>(Q1e (n:=n) (f:=f) h).2.2.2);unfold fnormal at hr;rw[<-hy.out]at hr;unfold Zp at hC;unfold Q0p at hZ;generalize fcheck n f=ec at *;generalize fsz y=sy at *;clear ad hz iw hy hG;obtain⟨o,p,r,v,g,l⟩:=f;replace hC:Hid (∀W,Below w.heap.size w W->Calls prog 15 #[.agg #[.int .i64 o,.int .i64 p,.int .i64 r,.int .i64 v,.int .i64 g,.slice q l.length d],.int .i64 n] W fun e w'=>e=.returned (.int .i64 ec)/\Below W.heap.size W w'):=hC;replace hN:Hid (fnodes n (.mk o p r v g l)=0->∀W,Below w.heap.size w W->Calls prog 59 #[.agg #[.int .i64 o,.int .i64 p,.int .i64 r,.int .i64 v,.int .i64 g,.slice q l.length d],.bool false] W (Ya W y)):=hN;show Calls prog 27 #[.agg #[.int .i64 o,.int .i64 p,.int .i64 r,.int .i64 v,.int .i64 g,.slice q l.length d],.int .i64 n] w _;generalize l.length=m at *;obtain⟨hB,-,aN,az⟩:=boxF2h w (.int .i64 o) (.int .i64 p) (.int .i64 r) (.int .i64 v) (.int .i64 g) (.slice q m d) (.int .i64 0) (.int .i64 0) (.int .i64 0) (.int .i64 0) (.int .i64 0) (.slice none 0 0) rfl;have hq:=boxF2 w (.int .i64 o) (.int .i64 p) (.int .i64 r) (.int .i64 v) (.int .i64 g) (.slice q m d) (.int .i64 0) (.int .i64 0) (.int .i64 0) (.int .i64 0) (.int .i64 0) (.slice none 0 0) rfl;replace hB:=qh hB;replace aN:=qh aN;replace az:=qh az;go_enter func27,ntmps27;go_upto_region 1 with(fail);generalize A0 (A0 w _) _=w1 at hq hB aN az⊢;obtain⟨-,hF,-,⟨c0,c1,c2,c3,c4,c5⟩,-⟩:=hq;generalize aw:w.heap.size+1=B4 at aN hF⊢;replace aw:=qh aw;by_cases hec:ec=0
 case neg=>obtain⟨t1,t2,t3⟩:=J8 hec;replace hr:Hid (res=(Qc,ec)):=qh (hr.out.trans (if_pos hec));clear hec;go_upto_region 3 with(go_at_call 15;(with_reducible refine(hC.out _ hB.out).mono ?_);rintro e w2 ⟨rfl,b2⟩;replace b2:=qh b2);obtain⟨⟨s0,s1,s2,s3,s4,s5⟩,ac,ar⟩:=mret (w:=w) (S:=fun _=>False) (W:=w2) 0 0 0 0 0 .none (fun _ h=>h.elim) ((b2.out.block B4 (by have:=az.out;have:=aw.out;omega)).trans aN.out) (by have:=aw.out;omega) (hB.out.trans (b2.out.mono hB.out.size));go_wp21;refine bodyPost_ret (v:=.tuple #[.agg #[.int .i64 0,.int .i64 0,.int .i64 0,.int .i64 0,.int .i64 0,.slice none 0 0],.int .i64 ec]) (by simp[results,results27,go_sem,s0,s1,s2,s3,s4,s5]) rfl ⟨none,0,by rw[hr.out];rfl,by rw[hr.out];exact ac.out.1,ac.out.2⟩
 case pos=>
  subst hec;replace hN:=qh (hN.out (bp.out rfl));replace hr:=qh (hr.out.trans (if_neg (fun h=>h rfl)));replace hC:Hid (∀W,Below w.heap.size w W->Calls prog 15 #[.agg #[.int .i64 o,.int .i64 p,.int .i64 r,.int .i64 v,.int .i64 g,.slice q m d],.int .i64 n] W fun e w'=>e=.returned (.int .i64 0)/\Below W.heap.size W w'):=hC;go_upto_region 5 with(first
   | (go_at_call 15;(with_reducible refine(hC.out _ hB.out).mono ?_);rintro e w2 ⟨rfl,b2⟩;obtain⟨⟨e0,e1,e2,e3,e4,e5⟩,-⟩:=hF.out _ b2;replace b2:=qh b2;have aM:=qt hB b2)
   | (go_at_call 59;(with_reducible refine(hN.out _ aM.out).mono ?_);rintro e w3 ⟨q',d',rfl,hx,b3⟩;replace hx:=qh hx;replace b3:=qh b3))
  have hq:=boxF w3 (.int .i64 y.op) (.int .i64 y.pr) (.int .i64 y.ot) (.int .i64 y.va) (.int .i64 y.gr) (.slice q' y.args.length d') rfl;generalize A0 w3 _=w4 at hq⊢;obtain⟨de,qo,-,f0,f1,f2,f3,f4,f5⟩:=hq;clear c0 c1 c2 c3 c4 c5 e0 e1 e2 e3 e4 e5;have mM:=qh (hZ.out q' d' w4 ((Ju _ (Af _) hx.out).low de.out));have qg:Hid (B4<w2.heap.size/\w.heap.size<=B4):=qh (by have e1:=az.out;have e2:=aw.out;have e3:=b2.out.size;exact⟨by omega,by omega⟩);by_cases aZ:128<sy
  ·have uc:((128:Int)<sy)=True:=by simp;omega
   replace hr:Hid (res=(Qc,5)):=qh (hr.out.trans (if_pos aZ));replace aZ:=qh aZ;go_upto_region 7 with(go_at_call 13;(with_reducible refine(mM.out).mono ?_);rintro e w5 ⟨rfl,b5⟩;replace b5:=qh b5);have aO:=(b2.out.trans (((b3.out.trans (de.out.mono b3.out.size)).trans (b5.out.mono (Ao b3.out.size de.out.size))).mono b2.out.size));obtain⟨⟨s0,s1,s2,s3,s4,s5⟩,ac,ar⟩:=mret (w:=w) (S:=fun _=>False) (W:=w5) 0 0 0 0 0 .none (fun _ h=>h.elim) ((aO.block B4 (by have:=az.out;have:=aw.out;omega)).trans aN.out) qg.out.2 (hB.out.trans (aO.mono hB.out.size));go_wp21;refine bodyPost_ret (v:=.tuple #[.agg #[.int .i64 0,.int .i64 0,.int .i64 0,.int .i64 0,.int .i64 0,.slice none 0 0],.int .i64 5]) (by simp[results,results27,go_sem,s0,s1,s2,s3,s4,s5]) rfl ⟨none,0,by rw[hr.out];rfl,by rw[hr.out];exact ac.out.1,ac.out.2⟩
  ·have uc:((128:Int)<sy)=False:=by simp;omega
   replace hr:Hid (res=(y,0)):=qh (hr.out.trans (if_neg aZ));replace aZ:=qh aZ;go_upto_region 8 with(go_at_call 13;(with_reducible refine(mM.out).mono ?_);rintro e w5 ⟨rfl,b5⟩;replace b5:=qh b5);have aO:=(b2.out.trans (((b3.out.trans (de.out.mono b3.out.size)).trans (b5.out.mono (Ao b3.out.size de.out.size))).mono b2.out.size));have oT:=hx.out.keep (w':=w5) (S':=fun k=>w2.heap.size<=k) (fun k _ hs=>((de.out.trans (b5.out.mono de.out.size)).block k hs)) (fun _ _ h=>h);clear f0 f1 f2 f3 f4 f5;obtain⟨f0,f1,f2,f3,f4,f5⟩:=qo.out _ b5.out;obtain⟨⟨s0,s1,s2,s3,s4,s5⟩,ac,ar⟩:=mret (w:=w) (W:=w5) y.op y.pr y.ot y.va y.gr oT (fun k hk=>by have h1:=qg.out;have cm:w2.heap.size<=k:=hk;exact⟨by omega,by omega⟩) ((aO.block B4 (by have:=az.out;have:=aw.out;omega)).trans aN.out) qg.out.2 (hB.out.trans (aO.mono hB.out.size));go_wp21;refine bodyPost_ret (v:=.tuple #[.agg #[.int .i64 y.op,.int .i64 y.pr,.int .i64 y.ot,.int .i64 y.va,.int .i64 y.gr,.slice q' y.args.length d'],.int .i64 0]) (by simp[results,results27,go_sem,s0,s1,s2,s3,s4,s5]) rfl ⟨q',d',by rw[hr.out];rfl,by rw[hr.out];exact ac.out.1,ac.out.2⟩
def Qgr(w:World)(pr:Fm->Bool)(l:List Fm)(e:Ending)(w':World):Prop:=∃z:Int,e=.returned (.int .i64 z)/\decide (0<=z)=l.any pr/\Below w.heap.size w w'
theorem Qka(gf:Nat)(caps:Array Value)(dm:∀args W,(callFunc gf args).run prog W=.ok (.enter gf args) W)(l:List Fm)(p:Option Addr)(c:Nat)(pr:Fm->Bool)(w:World)(hk:FmR w l (.slice p l.length c))(hl:l.length<=1000000)
  (ab:∀i (hi:i<l.length) q d W,Below w.heap.size w W->FmR W l[i].args (.slice q l[i].args.length d)->Calls prog gf (#[fmV l[i] q d]++caps) W fun e W'=>e=.returned (.bool (pr l[i]))/\Below W.heap.size W W'):
  Calls prog 74 #[.slice p l.length c,.func (.func gf) #[] caps] w (Qgr w pr l):=by
 replace ab:=qh ab;replace hk:=qh hk;go_enter func74,ntmps74;go_wp2_with fail;go_loopw [5,8] (fun s5 s8 wr=>(∃j:Nat,j<=l.length/\s8=.int .i64 j/\Hid (∀t (ht:t<l.length),t<j->pr l[t]=false))/\Hid (Below w.heap.size w wr)) (fun _ s8 _=>l.length-(intOf s8).toNat)
 case atStart=>exact⟨⟨0,by omega,rfl,qh (fun t ht h=>by omega)⟩,qh (Below.refl w.heap.size w)⟩
 case round=>
  obtain⟨⟨j,hj,rfl,cj⟩,hb⟩:=hrel;by_cases af:j<l.length
  ·have dT:(j:Int)<l.length:=by omega
   obtain⟨b,o,q,d,rfl,hc,aT⟩:=(hk.out.low hb.out).get j af;obtain⟨c0,c1,c2,c3,c4,c5⟩:=hc;have hC:=ab.out j af q d wr hb.out aT;cases hp:pr l[j]
   ·rw[hp]at hC
    replace hC:=qh hC;replace hp:=qh hp;replace aT:=qh aT;go_wp2_with ((with_reducible refine(hC.out).mono ?_);rintro e w2 ⟨rfl,b2⟩;replace b2:=qh b2);go_roundw
    case rel=>exact⟨⟨j+1,by omega,by go_num,qh (fun t ht h=>by
     by_cases e:t=j
     ·subst e;exact hp.out
     ·exact cj.out t ht (by omega))⟩,qt hb b2⟩
    case measure=>simp[intOf];omega
   ·rw[hp]at hC
    replace hC:=qh hC;replace hp:=qh hp;replace aT:=qh aT;go_wp2_with ((with_reducible refine(hC.out).mono ?_);rintro e w2 ⟨rfl,b2⟩;replace b2:=qh b2);refine bodyPost_ret (v:=.int .i64 j) (by simp[results,results74,go_sem]) rfl ⟨j,rfl,?_,hb.out.trans (b2.out.mono hb.out.size)⟩;have:l.any pr=true:=List.any_eq_true.2 ⟨l[j],Ae af,hp.out⟩;rw[this];simp
  ·have aY:¬ (j:Int)<l.length:=by omega
   go_wp2_with fail;refine bodyPost_ret (v:=.int .i64 (-1)) (by simp[results,results74,go_sem]) rfl ⟨-1,rfl,?_,hb.out⟩;have:l.any pr=false:=List.any_eq_false.2 fun x hx=>by obtain⟨t,ht,rfl⟩:=List.mem_iff_getElem.1 hx;rw[cj.out t ht (by omega)];decide
   rw[this];decide
theorem Qac(gf:Nat)(caps:Array Value)(dm:∀args W,(callFunc gf args).run prog W=.ok (.enter gf args) W)(l:List Fm)(p:Option Addr)(c:Nat)(pr:Fm->Bool)(w:World)(hk:FmR w l (.slice p l.length c))(hl:l.length<=1000000)
  (ab:∀i (hi:i<l.length) q d W,Below w.heap.size w W->FmR W l[i].args (.slice q l[i].args.length d)->Calls prog gf (#[fmV l[i] q d]++caps) W fun e W'=>e=.returned (.bool (pr l[i]))/\Below W.heap.size W W'):
  Calls prog 40 #[.slice p l.length c,.func (.func gf) #[] caps] w fun e w'=>e=.returned (.bool (l.any pr))/\Below w.heap.size w w':=by
 have hI:=qh (Qka gf caps dm l p c pr w hk hl ab);clear hk ab dm;go_enter func40,ntmps40;go_wp2_with (go_at_call 74;(with_reducible refine(hI.out).mono ?_);rintro e w2 ⟨z,rfl,hz,b2⟩;replace hz:=qh hz);all_goals go_ret;exact⟨Q5 hz.out,b2⟩
theorem Qbn:∀l:List Fm,ftempL l=l.any ftemp
 | []=>by rw[Qjw];rfl
 | x::l=>by rw[Qjv,Qbn l,List.any_cons]
theorem Qoi:∀(m:Nat) (f:Fm),SizeOf.sizeOf f<m->fsz f<=1000000->∀(q:Option Addr) (d:Nat) (w:World),Js w->FmR w f.args (.slice q f.args.length d) ->
  Calls prog 21 #[fmV f q d] w fun e w'=>e=.returned (.bool (ftemp f))/\Below w.heap.size w w':=by
 intro m;induction m with
 | zero=>intro f h;omega
 | succ m ih=>
  intro f hm hz q d w hG ad;obtain⟨o,p,r,v,g,l⟩:=f;replace ad:FmR w l (.slice q l.length d):=ad;show Calls prog 21 #[.agg #[.int .i64 o,.int .i64 p,.int .i64 r,.int .i64 v,.int .i64 g,.slice q l.length d]] w _;simp only[Fm.mk.sizeOf_spec]at hm;rw[Qj]at hz;have gb:l.length<=1000000:=by have:=Zf l;omega
  have hO:Hid (∀W,Below w.heap.size w W->Calls prog 50 #[.int .i64 o] W fun e w'=>e=.returned (.agg #[.bool (useP o),.bool (useO o),.bool (useG o),.bool (epi o),.bool (timed o),.int .i64 (Qy o)])/\Below W.heap.size W w'):=qh (fun W (h:Below w.heap.size w W)=>Q3c o W (hG.low h));have hC:=qh (fun W (h:Below w.heap.size w W)=>Qac 21 #[] (fun _ _=>by kernel_rfl) l q d ftemp W (ad.low h) gb (fun i hi q d W' h' k=>by have hs:=Ar (Ae hi);have hf:=Zg (Ae hi);exact ih l[i] (by omega) (by omega) q d W' (hG.low (h.trans (h'.mono h.size))) k))
  obtain⟨res,hr⟩:∃x,Hid (x=ftemp (.mk o p r v g l)):=⟨_,qh rfl⟩;rw[<-hr.out];replace hr:=qh (hr.out.trans Qjx);rw[Qbn]at hr;clear hm hz gb ih hG ad;generalize l.any ftemp=an at *;generalize useP o=bP at *;generalize useO o=bO at *;generalize useG o=bG at *;generalize epi o=bE at *;generalize Qy o=dl at *;generalize l.length=k at *;cases hT:timed o;all_goals rw[hT]at hO hr;replace hT:=qh hT;have hq:=boxF w (.int .i64 o) (.int .i64 p) (.int .i64 r) (.int .i64 v) (.int .i64 g) (.slice q k d) rfl;go_enter func21,ntmps21;go_upto_region 1 with(fail);generalize A0 w _=w1 at hq⊢;obtain⟨hB,hF,bR,c0,c1,c2,c3,c4,c5⟩:=hq;go_wp2_with (first|(go_at_call 50;(with_reducible refine(hO.out _ hB.out).mono ?_);rintro e w2 ⟨rfl,b2⟩;obtain⟨d0,d1,d2,d3,d4,d5⟩:=hF.out _ (bR.out.trans (b2.mono bR.out.size));replace b2:=qs hB b2)|(go_at_call 40;(with_reducible refine(hC.out _ b2.out).mono ?_);rintro e w3 ⟨rfl,b3⟩;replace b2:=qs b2 b3))
  all_goals go_ret;exact⟨by rw[hr.out]<;>rfl,b2.out⟩
section
inductive RwR (w0:World):List Fm->List Value->Prop
 | nil:RwR w0 [] []
 | cons {t:Fm} {r:List Fm} {u:Value} {ds:List Value} (h:FmR w0 t.args u) (hr:RwR w0 r ds):RwR w0 (t::r) ([.int .i64 t.op,.int .i64 t.pr,.int .i64 t.ot,.int .i64 t.va,.int .i64 t.gr,u]++ds)
theorem RwR.append{w0:World}{a b:List Fm}{cs ds:List Value}(h:RwR w0 a cs)(k:RwR w0 b ds):RwR w0 (a++b) (cs++ds):=by
 induction h with
 | nil=>exact k
 | cons h hr ih=>rw[List.append_assoc];exact .cons h ih
theorem RwR.length{w0:World}{a:List Fm}{cs:List Value}(h:RwR w0 a cs):cs.length=a.length*6:=by
 induction h with
 | nil=>rfl
 | cons h hr ih=>rw[Ac,ih];simp;omega
theorem RwR.at{w0:World}{l:List Fm}{cs:List Value}(h:RwR w0 l cs):∀i (hi:i<l.length),∃u,FmR w0 l[i].args u /\
  cs[i*6]?=some (.int .i64 l[i].op)/\cs[i*6+1]?=some (.int .i64 l[i].pr)/\cs[i*6+2]?=some (.int .i64 l[i].ot)/\cs[i*6+3]?=some (.int .i64 l[i].va)/\cs[i*6+4]?=some (.int .i64 l[i].gr)/\cs[i*6+5]?=some u:=by
 induction h with
 | nil=>exact fun i hi=>absurd hi (AX _)
 | cons h hr ih=>
  rename_i t r u ds;intro i hi;cases i with
  | zero=>exact⟨u,h,rfl,rfl,rfl,rfl,rfl,rfl⟩
  | succ i=>
   obtain⟨x,h1,h2,h3,h4,h5,h6,h7⟩:=ih i (Nat.lt_of_succ_lt_succ hi);have e6:∀j,([.int .i64 t.op,.int .i64 t.pr,.int .i64 t.ot,.int .i64 t.va,.int .i64 t.gr,u]++ds)[(i+1)*6+j]?=ds[i*6+j]?:=fun j=>by
    rw[List.getElem?_append_right (by simp;omega)];congr 1
    simp;omega
   have e0:=e6 0;rw[Bt,Bt]at e0;exact⟨x,h1,e0.trans h2,(e6 1).trans h3,(e6 2).trans h4,(e6 3).trans h5,(e6 4).trans h6,(e6 5).trans h7⟩
section
variable {w0 W W':World} {B:Nat} {bx:Nat->Prop} {l:List Fm} {v:Value}
end
mutual
theorem Qdt:∀f:Fm,(post f).length=fsz f
 | .mk a b c d e l=>by rw[Q1s,Ac,Qdr l,Qj];simp;omega
theorem Qdr:∀l:List Fm,(postL l).length=fszL l
 | []=>by rw[Q3i,Yy];rfl
 | x::l=>by rw[Q2d,Ac,Qdt x,Qdr l,Qz]
end
theorem Qo7:∀f:Fm,f∈post f
 | .mk a b c d e l=>by rw[Q1s];exact Bw _ (Aj.2 rfl)
theorem Qds{x y:Fm}:∀{l:List Fm},x∈l->y∈post x->y∈postL l
 | z::l,h,hy=>by
  rw[Q2d];rcases A8.1 h with rfl|h
  ·exact BK _ hy
  ·exact Bw _ (Qds h hy)
theorem Qo6{x y:Fm}:∀{f:Fm},x∈f.args->y∈post x->y∈post f
 | .mk a b c d e l,h,hy=>by rw[Q1s];exact BK _ (Qds h hy)
def Yk(f:Fm)(L:List Fm):Prop:=L.Nodup/\∀x∈L,x∈post f
theorem Yk.nil(f:Fm):Yk f []:=⟨Bp,fun _ h=>(A7 h).elim⟩
theorem Yk.put{f y:Fm}{L:List Fm}(h:Yk f L)(hy:y∈post f)(hn:y∉L):Yk f (L++[y]):=by
 refine⟨List.nodup_append.2 ⟨h.1,List.nodup_cons.2 ⟨A7,Bp⟩,fun a ha b hb e=>hn ?_⟩,fun x hx=>?_⟩
 ·rw[Aj]at hb
  rw[<-hb,<-e];exact ha
 ·rcases List.mem_append.1 hx with hx|hx
  ·exact h.2 x hx
  ·rw[Aj.1 hx];exact hy
theorem Yk.len{f:Fm}{L:List Fm}(h:Yk f L):L.length<=fsz f:=by have:=Qct L (post f) h.1 h.2;rwa[Qdt]at this
theorem Yk.size{f:Fm}{L:List Fm}(h:Yk f L):∀x∈L,fsz x<=fsz f:=fun x hx=>(Q8k f x (h.2 x hx)).1
theorem Qhb{L:List Fm}{y:Fm}:(L.any fun x=>feq x y)=decide (y∈L):=by
 rw[Bool.eq_iff_iff,List.any_eq_true,decide_eq_true_iff];constructor
 ·rintro⟨x,hx,e⟩
  rw[<-(Yx x y).1 e];exact hx
 ·exact fun h=>⟨y,h,(Yx y y).2 rfl⟩
theorem Q9z(f:Fm):Yk f (allR f):=by
 rw[Q6a];refine⟨(Qnj f).1,fun x hx=>?_⟩;rcases Q6k (post f) [] x hx with h|h
 ·exact(A7 h).elim
 ·exact h
section
variable {w0 w W W':World} {fo:Obj} {L:List Fm} {v:Value}
end
end
theorem Qil(l l':List Fm)(q q':Option Addr)(d d':Nat)(w:World)(ad:FmR w l (.slice q l.length d))(bI:FmR w l' (.slice q' l'.length d'))(gb:l.length<=1000000)
  (H:∀j (h:j<l.length) (h':j<l'.length) u e u' e' W,Below w.heap.size w W->FmR W l[j].args (.slice u l[j].args.length e)->FmR W l'[j].args (.slice u' l'[j].args.length e')->Calls prog 23 #[fmV l[j] u e,fmV l'[j] u' e'] W (Q1a W (feq l[j] l'[j]))):
  Calls prog 53 #[.slice q l.length d,.slice q' l'.length d',.func (.func 23) #[] #[]] w (Q1a w (feqL l l')):=by
 obtain⟨res,hr⟩:∃x,Hid (x=feqL l l'):=⟨_,qh rfl⟩;rw[<-hr.out];replace H:=qh H;by_cases hl:l.length=l'.length
 ·rw[<-hl]at bI⊢
  replace hl:=qh hl;replace ad:=qh ad;replace bI:=qh bI;go_enter func53,ntmps53;go_wp2_with fail;go_loopw [7,8,9,17] (fun _ _ _ s17 wr=>(∃j:Nat,j<=l.length/\s17=.int .i64 j/\Hid (feqL l l'=feqL (l.drop j) (l'.drop j)))/\Hid (Below w.heap.size w wr)) (fun _ _ _ s17 _=>l.length-(intOf s17).toNat)
  case atStart=>exact⟨⟨0,by omega,rfl,qh rfl⟩,qh (Below.refl w.heap.size w)⟩
  case round=>
   obtain⟨⟨j,hj,rfl,bN⟩,hb⟩:=hrel;by_cases af:j<l.length
   ·have cJ:j<l'.length:=by have:=hl.out;omega
    have ae:=Qaz af cJ;have aY:((j:Int)<l.length)=True:=by simp;omega
    replace bN:=qh (bN.out.trans ae);obtain⟨b,oo,u,e,rfl,hu,aV⟩:=(ad.out.low hb.out).get j af;obtain⟨b',oo',u',e',rfl,ht,jE⟩:=(bI.out.low hb.out).get j cJ;have ab:=fun W (h:Below wr.heap.size wr W)=>H.out j af cJ u e u' e' W (hb.out.trans (h.mono hb.out.size)) (aV.low h) (jE.low h)
    have nr:=fun W (h:Below wr.heap.size wr W)=>Q2e ht h
    clear ae aV jE ht;generalize l[j]=x at *;generalize l'[j]=y at *;replace ab:∀W,Below wr.heap.size wr W->Calls prog 23 #[fmV x u e,fmV y u' e'] W (Q1a W (feq x y)):=ab;replace cJ:=qh cJ;replace ab:=qh ab;replace nr:=qh nr;obtain⟨u0,u1,u2,u3,u4,u5⟩:=hu;have hq:=boxF wr (.int .i64 x.op) (.int .i64 x.pr) (.int .i64 x.ot) (.int .i64 x.va) (.int .i64 x.gr) (.slice u x.args.length e) rfl;go_upto_region 6 with(fail);generalize A0 wr _=w2 at hq⊢;obtain⟨aM,kQ,bR2,-⟩:=hq;obtain⟨t0,t1,t2,t3,t4,t5⟩:=nr.out _ aM.out;have hq:=boxF w2 (.int .i64 y.op) (.int .i64 y.pr) (.int .i64 y.ot) (.int .i64 y.va) (.int .i64 y.gr) (.slice u' y.args.length e') rfl;go_upto_region 7 with(fail);generalize A0 w2 _=w3 at hq⊢;obtain⟨bU,sO,bR3,f0,f1,f2,f3,f4,f5⟩:=hq;obtain⟨e0,e1,e2,e3,e4,e5⟩:=kQ.out _ bU.out;have aw:=qt aM bU;cases fO:feq x y with
    | true=>
     rw[fO,Bool.true_and]at bN;rw[fO]at ab;replace fO:=qh fO;go_wp2_with (go_at_call 23;(with_reducible refine(ab.out _ aw.out).mono ?_);rintro e6 w4 ⟨rfl,b4⟩;replace b4:=qs aw b4);go_roundw
     case rel=>exact⟨⟨j+1,by omega,by go_num,bN⟩,qt hb b4⟩
     case measure=>simp[intOf];omega
    | false=>rw[fO,Bool.false_and]at bN;rw[fO]at ab;replace fO:=qh fO;go_wp2_with (go_at_call 23;(with_reducible refine(ab.out _ aw.out).mono ?_);rintro e6 w4 ⟨rfl,b4⟩;replace b4:=qs aw b4);refine bodyPost_ret (v:=.bool false) (by simp[results,results53,go_sem]) rfl ⟨by rw[hr.out,bN.out],hb.out.trans (b4.out.mono hb.out.size)⟩
   ·have aY:((j:Int)<l.length)=False:=by simp;omega
    go_wp2_with fail;refine bodyPost_ret (v:=.bool true) (by simp[results,results53,go_sem]) rfl ⟨?_,hb.out⟩;rw[hr.out,bN.out,AF (by omega),AF (by have:=hl.out;omega),Q75]
 ·have hf:Hid (res=false):=qh (by
   rw[hr.out];cases h:feqL l l' with
   | true=>exact absurd (Qb1 h) hl
   | false=>simp)
  obtain⟨hb,cd,hn⟩:=Zi (x:=(l.length:Int)) (y:=l'.length) (by omega);clear hr ad bI H hl;generalize l.length=k at *;generalize l'.length=k' at *;go_enter func53,ntmps53;go_wp2_with fail;all_goals go_ret;exact⟨Q5 hf.out.symm,Below.refl _ _⟩
theorem Q3j:∀(m:Nat) (f f':Fm),SizeOf.sizeOf f<m->fsz f<=1000000->∀(q q':Option Addr) (d d':Nat) (w:World),FmR w f.args (.slice q f.args.length d)->FmR w f'.args (.slice q' f'.args.length d') ->
  Calls prog 23 #[fmV f q d,fmV f' q' d'] w (Q1a w (feq f f')):=by
 intro m;induction m with
 | zero=>intro f f' h;omega
 | succ m ih=>
  intro f f' hm hz q q' d d' w ad bI;obtain⟨o,p,r,v,g,l⟩:=f;obtain⟨o',p',r',v',g',l'⟩:=f';replace ad:FmR w l (.slice q l.length d):=ad;replace bI:FmR w l' (.slice q' l'.length d'):=bI;show Calls prog 23 #[.agg #[.int .i64 o,.int .i64 p,.int .i64 r,.int .i64 v,.int .i64 g,.slice q l.length d],.agg #[.int .i64 o',.int .i64 p',.int .i64 r',.int .i64 v',.int .i64 g',.slice q' l'.length d']] w _;obtain⟨res,hr⟩:∃x,Hid (x=feq (.mk o p r v g l) (.mk o' p' r' v' g' l')):=⟨_,qh rfl⟩;rw[<-hr.out];replace hr:=qh (hr.out.trans Q76);simp only[Fm.mk.sizeOf_spec]at hm;rw[Qj]at hz;have aq:Hid (∀j (hj:j<l.length),fsz l[j]<=1000000):=qh (fun j hj=>by have:=Zg (Ae hj);omega)
  have hlen:=Zf l;have gb:l.length<=1000000:=by omega
  clear hz hlen;replace ih:=qh ih;replace ad:=qh ad;replace bI:=qh bI;rcases Qfm o p r v g o' p' r' v' g' l.length l'.length with am|⟨rfl,am⟩|⟨rfl,rfl,am⟩|⟨rfl,rfl,rfl,am⟩|⟨rfl,rfl,rfl,rfl,am⟩|⟨rfl,rfl,rfl,rfl,rfl⟩
  ·skip
   obtain⟨hb,cd,hn⟩:=Zi am;have hf:Hid (res=false):=qh (by rw[hr.out];simp[cd]);clear hr aq hm ad bI ih;generalize l.length=k at *;generalize l'.length=k' at *;have hq:=boxF2 w (.int .i64 o) (.int .i64 p) (.int .i64 r) (.int .i64 v) (.int .i64 g) (.slice q k d) (.int .i64 o') (.int .i64 p') (.int .i64 r') (.int .i64 v') (.int .i64 g') (.slice q' k' d') rfl;go_enter func23,ntmps23;go_upto_region 1 with(fail);generalize A0 (A0 w _) _=w1 at hq⊢;obtain⟨hB,hF,bR,⟨c0,c1,c2,c3,c4,c5⟩,x0,x1,x2,x3,x4,x5⟩:=hq;go_wp2_with fail;all_goals go_ret;exact⟨Q5 hf.out.symm,hB.out⟩
  ·skip
   obtain⟨hb,cd,hn⟩:=Zi am;have hf:Hid (res=false):=qh (by rw[hr.out];simp[cd]);clear hr aq hm ad bI ih;generalize l.length=k at *;generalize l'.length=k' at *;have hq:=boxF2 w (.int .i64 o) (.int .i64 p) (.int .i64 r) (.int .i64 v) (.int .i64 g) (.slice q k d) (.int .i64 o) (.int .i64 p') (.int .i64 r') (.int .i64 v') (.int .i64 g') (.slice q' k' d') rfl;go_enter func23,ntmps23;go_upto_region 1 with(fail);generalize A0 (A0 w _) _=w1 at hq⊢;obtain⟨hB,hF,bR,⟨c0,c1,c2,c3,c4,c5⟩,x0,x1,x2,x3,x4,x5⟩:=hq;go_wp2_with fail;all_goals go_ret;exact⟨Q5 hf.out.symm,hB.out⟩
  ·skip
   obtain⟨hb,cd,hn⟩:=Zi am;have hf:Hid (res=false):=qh (by rw[hr.out];simp[cd]);clear hr aq hm ad bI ih;generalize l.length=k at *;generalize l'.length=k' at *;have hq:=boxF2 w (.int .i64 o) (.int .i64 p) (.int .i64 r) (.int .i64 v) (.int .i64 g) (.slice q k d) (.int .i64 o) (.int .i64 p) (.int .i64 r') (.int .i64 v') (.int .i64 g') (.slice q' k' d') rfl;go_enter func23,ntmps23;go_upto_region 1 with(fail);generalize A0 (A0 w _) _=w1 at hq⊢;obtain⟨hB,hF,bR,⟨c0,c1,c2,c3,c4,c5⟩,x0,x1,x2,x3,x4,x5⟩:=hq;go_wp2_with fail;all_goals go_ret;exact⟨Q5 hf.out.symm,hB.out⟩
  ·skip
   obtain⟨hb,cd,hn⟩:=Zi am;have hf:Hid (res=false):=qh (by rw[hr.out];simp[cd]);clear hr aq hm ad bI ih;generalize l.length=k at *;generalize l'.length=k' at *;have hq:=boxF2 w (.int .i64 o) (.int .i64 p) (.int .i64 r) (.int .i64 v) (.int .i64 g) (.slice q k d) (.int .i64 o) (.int .i64 p) (.int .i64 r) (.int .i64 v') (.int .i64 g') (.slice q' k' d') rfl;go_enter func23,ntmps23;go_upto_region 1 with(fail);generalize A0 (A0 w _) _=w1 at hq⊢;obtain⟨hB,hF,bR,⟨c0,c1,c2,c3,c4,c5⟩,x0,x1,x2,x3,x4,x5⟩:=hq;go_wp2_with fail;all_goals go_ret;exact⟨Q5 hf.out.symm,hB.out⟩
  ·skip
   obtain⟨hb,cd,hn⟩:=Zi am;have hf:Hid (res=false):=qh (by rw[hr.out];simp[cd]);clear hr aq hm ad bI ih;generalize l.length=k at *;generalize l'.length=k' at *;have hq:=boxF2 w (.int .i64 o) (.int .i64 p) (.int .i64 r) (.int .i64 v) (.int .i64 g) (.slice q k d) (.int .i64 o) (.int .i64 p) (.int .i64 r) (.int .i64 v) (.int .i64 g') (.slice q' k' d') rfl;go_enter func23,ntmps23;go_upto_region 1 with(fail);generalize A0 (A0 w _) _=w1 at hq⊢;obtain⟨hB,hF,bR,⟨c0,c1,c2,c3,c4,c5⟩,x0,x1,x2,x3,x4,x5⟩:=hq;go_wp2_with fail;all_goals go_ret;exact⟨Q5 hf.out.symm,hB.out⟩
  replace hr:Hid (res=feqL l l'):=qh (by rw[hr.out];simp);have hE:=qh (fun W (hb:Below w.heap.size w W)=>Qil l l' q q' d d' W (ad.out.low hb) (bI.out.low hb) gb (fun j h h' u e u' e' W' _ k1 k2=>by have az:=Ar (Ae h);exact ih.out l[j] l'[j] (by omega) (aq.out j h) u u' e e' W' k1 k2))
  rw[<-hr.out]at hE;clear hr aq hm ih gb ad bI;generalize l.length=k at *;generalize l'.length=k' at *;have hq:=boxF2 w (.int .i64 o) (.int .i64 p) (.int .i64 r) (.int .i64 v) (.int .i64 g) (.slice q k d) (.int .i64 o) (.int .i64 p) (.int .i64 r) (.int .i64 v) (.int .i64 g) (.slice q' k' d') rfl;go_enter func23,ntmps23;go_upto_region 1 with(fail);generalize A0 (A0 w _) _=w1 at hq⊢;obtain⟨hB,hF,bR,⟨c0,c1,c2,c3,c4,c5⟩,x0,x1,x2,x3,x4,x5⟩:=hq;go_wp2_with (go_at_call 53;(with_reducible refine(hE.out _ hB.out).mono ?_);rintro e x1 ⟨rfl,b1⟩);all_goals go_ret;exact⟨rfl,qs hB b1⟩
section
theorem Qnb(x f:Fm)(hz:fsz x<=1000000)(u q:Option Addr)(e d fb:Nat)(w:World)(hx:FmR w x.args (.slice u x.args.length e))(hf:FmR w f.args (.slice q f.args.length d))(hc:Six0 w fb (.int .i64 f.op) (.int .i64 f.pr) (.int .i64 f.ot) (.int .i64 f.va) (.int .i64 f.gr) (.slice q f.args.length d)):
  Calls prog 56 #[fmV x u e,.pointer (some ⟨fb,0,none⟩)] w fun e' w'=>e'=.returned (.bool (feq x f))/\Below w.heap.size w w':=by
 have hS:=qh (fun W (hb:Below w.heap.size w W)=>Q3j _ x f (Af _) hz u q e d W (hx.low hb) (hf.low hb));unfold Q1a at hS;generalize feq x f=bl at *;clear hz hx hf;obtain⟨o,p,r,v,g,l⟩:=x;obtain⟨o',p',r',v',g',l'⟩:=f;replace hc:Six0 w fb (.int .i64 o') (.int .i64 p') (.int .i64 r') (.int .i64 v') (.int .i64 g') (.slice q l'.length d):=hc;replace hS:Hid (∀W,Below w.heap.size w W->Calls prog 23 #[.agg #[.int .i64 o,.int .i64 p,.int .i64 r,.int .i64 v,.int .i64 g,.slice u l.length e],.agg #[.int .i64 o',.int .i64 p',.int .i64 r',.int .i64 v',.int .i64 g',.slice q l'.length d]] W fun e w'=>e=.returned (.bool bl)/\Below W.heap.size W w'):=hS;show Calls prog 56 #[.agg #[.int .i64 o,.int .i64 p,.int .i64 r,.int .i64 v,.int .i64 g,.slice u l.length e],.pointer (some ⟨fb,0,none⟩)] w _;generalize l.length=m at *;generalize l'.length=m' at *;have hq:=boxF w (.int .i64 o) (.int .i64 p) (.int .i64 r) (.int .i64 v) (.int .i64 g) (.slice u m e) rfl;go_enter func56,ntmps56;go_upto_region 1 with(fail);generalize A0 w _=w1 at hq⊢;obtain⟨hB,hF,bR,c0,c1,c2,c3,c4,c5⟩:=hq;obtain⟨t0,t1,t2,t3,t4,t5⟩:=Q0m hc hB.out;go_wp2_with (go_at_call 23;(with_reducible refine(hS.out _ hB.out).mono ?_);rintro e' w2 ⟨rfl,b2⟩;replace b2:=qh b2);go_ret;exact⟨rfl,qt hB b2⟩
def KSt(w0 w:World)(bo:Nat)(bx:Nat->Prop)(v0 x0 x1 x2 x3 x4 x5:Value)(L:List Fm)(v co:Value)(W:World):Prop:=
 Gath w0.heap.size (fun k=>(k=bo∨bx k)∨k=w.heap.size∨k=w.heap.size+1) W L v/\W.heap[bo]?=some (.cells #[co] 22 (0,0))/\W.heap[w.heap.size]?=some (.cells #[x0,x1,x2,x3,x4,x5] 24 (0,0))/\W.heap[w.heap.size+1]?=some z6 /\
  Turn (fun k=>k=bo∨some k=v0.ownBlock) w W/\(∀k,some k=v.ownBlock->some k=v0.ownBlock∨w.heap.size<=k)/\bo<w.heap.size/\¬ bx bo/\(∀k,bx k->k<w.heap.size)/\w0.heap.size<=bo
section
variable {w0 w W W':World} {bo:Nat} {bx:Nat->Prop} {v0 x0 x1 x2 x3 x4 x5 v co:Value} {L:List Fm}
theorem KSt.cells(h:KSt w0 w bo bx v0 x0 x1 x2 x3 x4 x5 L v co W):W.cell? ⟨bo,0,none⟩=some co/\W.frozen? ⟨bo,0,none⟩=false/\Six0 W w.heap.size x0 x1 x2 x3 x4 x5:=⟨by rw[World.cell?,h.2.1];rfl,Aq h.2.1 _,Qu h.2.2.1⟩
theorem KSt.turn(h:KSt w0 w bo bx v0 x0 x1 x2 x3 x4 x5 L v co W):Turn (fun k=>k=bo∨some k=v0.ownBlock) w W:=h.2.2.2.2.1
theorem KSt.below(h:KSt w0 w bo bx v0 x0 x1 x2 x3 x4 x5 L v co W)(hb:Below W.heap.size W W'):KSt w0 w bo bx v0 x0 x1 x2 x3 x4 x5 L v co W':=by
 have e:∀{k o},W.heap[k]?=some o->W'.heap[k]?=some o:=fun hk=>(hb.block _ (A3.1 hk).1).trans hk
 obtain⟨h1,h2,h3,h4,h5,h6⟩:=h;exact⟨h1.below hb,e h2,e h3,e h4,h5.trans (Turn.ofBelow _ hb) (fun _ _ h=>h),h6⟩
theorem Ql6{A:List Fm}(hb:Below w.heap.size w W)(hi:invP w0 bo A (L,v0) bx w)(eK:∀k,bx k->k<w.heap.size)(h2:W.heap[w.heap.size]?=some (.cells #[x0,x1,x2,x3,x4,x5] 24 (0,0)))(h4:W.heap[w.heap.size+1]?=some z6):KSt w0 w bo bx v0 x0 x1 x2 x3 x4 x5 L v0 v0 W:=by obtain⟨i1,i2,i3,i4,-⟩:=hi;have af:=(A3.1 i1).1;exact⟨(i2.rebox (bx':=fun k=>(k=bo∨bx k)∨k=w.heap.size∨k=w.heap.size+1) (fun k hk=>hk.elim .inl (fun h=>.inr (by omega)))).below hb,(hb.block bo af).trans i1,h2,h4,Turn.ofBelow _ hb,fun _ h=>.inl h,af,i3,eK,i4⟩
theorem KSt.setout(h:KSt w0 w bo bx v0 x0 x1 x2 x3 x4 x5 L v co W)(u:Value):KSt w0 w bo bx v0 x0 x1 x2 x3 x4 x5 L v u (W.setCell ⟨bo,0,none⟩ u):=by obtain⟨h1,h2,h3,h4,h5,h6,h7,h8,h9⟩:=h;have ht:=Turn.set W bo 0 u;refine⟨h1.turn ht (fun k hk=>.inl (.inl hk)),?_,(Below.heap_setCell _ _ _ _ (by show w.heap.size≠bo;omega)).trans h3,(Below.heap_setCell _ _ _ _ (by show w.heap.size+1≠bo;omega)).trans h4,h5.trans ht (fun k _ h=>.inl h),h6,h7,h8,h9⟩;simp only[A9,Array.getElem?_modify,if_true,h2,Option.map_some];rfl
theorem Qsw{o:Oper}{a:Act}{K:Act->World->Prop}{Q:Exit->Act->World->Prop}{sl x:Operand}{cp n0:Nat}(h:KSt w0 w bo bx v0 x0 x1 x2 x3 x4 x5 L v co W)(hl:L.length<=1000000)(hn:n0=W.heap.size)
  (ho:o.op=.call { callee:=.builtin .append,args:=#[sl,x],argTypes:=#[22,22] }) (hs:a.eval sl=v) (ic:a.eval x=.slice (some ⟨n0,0,none⟩) 1 cp)
  (aQ:∀g c w',KSt w0 w bo bx v0 x0 x1 x2 x3 x4 x5 (L++[Qc]) (.slice (some ⟨g,0,none⟩) (L.length+1) c) co w'->K (a.put o.dst (.slice (some ⟨g,0,none⟩) (L.length+1) c)) w'):
  Q18 o a (W.alloc (.cells #[.int .i64 0,.int .i64 0,.int .i64 0,.int .i64 0,.int .i64 0,.slice none 0 0] 24)) K Q:=by
 subst hn;have hb:Below W.heap.size W (W.alloc (.cells #[.int .i64 0,.int .i64 0,.int .i64 0,.int .i64 0,.int .i64 0,.slice none 0 0] 24)):=(Below.refl _ _).alloc (A4 _) _;have h':=h.below hb;obtain⟨h1,h2,h3,h4,h5,h6,h7,h8,h9⟩:=h';have ez:=(A3.1 h3).1;have cL:=(A3.1 h4).1;refine Q9e h1 (u:=.slice none 0 0) .none (fun k hk=>?_) hl ⟨_,_,_,rfl⟩ (heap_alloc_new _ _) ho hs ic ?_
 ·rcases hk with(rfl|hk)|rfl|rfl
  ·omega
  ·have:=h9.1 k hk;omega
  ·exact ez
  ·exact cL
 ·intro v' w' k1 k2 k3
  obtain⟨g,c,rfl⟩:=k1.form1;have ht:=Turn.grown k2;have hn:∀k,((k=bo∨bx k)∨k=w.heap.size∨k=w.heap.size+1)->¬ some k=v.ownBlock:=fun k hk e=>(h1.row_lt k e).2.2 hk
  refine aQ g c w' ⟨k1,(ht.2 bo (by omega) (hn bo (.inl (.inl rfl)))).trans h2,(ht.2 _ ez (hn _ (.inr (.inl rfl)))).trans h3,(ht.2 _ cL (hn _ (.inr (.inr rfl)))).trans h4,h5.trans ht (fun k hk e=>(h6 k e).elim .inr (fun h=>by omega)),fun k hk=>(k3 k hk).elim (h6 k) (fun h=>.inr (by have:=h5.size;omega)),h7,h8,h9⟩
theorem Qfq{o:Oper}{a:Act}{K:Act->World->Prop}{Q:Exit->Act->World->Prop}{i1 i2 i3 i4 i5:Int}{l:List Fm}{y:Fm}{u:Value}{g c off:Nat}(h:KSt w0 w bo bx v0 x0 x1 x2 x3 x4 x5 (L++[y]) (.slice (some ⟨g,0,none⟩) (L.length+1) c) co W)
  (hf:FmsAt (fun k=>w0.heap.size<=k/\¬ (k=bo∨some k=v0.ownBlock)/\¬ bx k) w l u) (gG:off=L.length*6)
  (aQ:∀w',KSt w0 w bo bx v0 x0 x1 x2 x3 x4 x5 (L++[.mk i1 i2 i3 i4 i5 l]) (.slice (some ⟨g,0,none⟩) (L.length+1) c) co w'->K (a.put o.dst undef) w'):
  Y9 o (.pointer (some ⟨g,off,none⟩)) (.agg #[.int .i64 i1,.int .i64 i2,.int .i64 i3,.int .i64 i4,.int .i64 i5,u]) a W K Q:=by
 subst gG;obtain⟨h1,h2,h3,h4,h5,h6,h7,h8,h9⟩:=h;have gA:FmsAt (Ownf w0.heap.size (fun k=>(k=bo∨bx k)∨k=w.heap.size∨k=w.heap.size+1) (.slice (some ⟨g,0,none⟩) (L.length+1) c)) W l u:=hf.keep (fun k hk hl=>h5.2 k hl (fun e=>hk.2.1 e)) (fun k hl hk=>⟨hk.1,fun e=>by
  rcases e with(e|e)|e|e
  ·exact hk.2.1 (.inl e)
  ·exact hk.2.2 e
  ·omega
  ·omega,fun e=>(h6 k e).elim (fun e=>hk.2.1 (.inr e)) (fun h=>by omega)⟩)
 obtain⟨k1,k2⟩:=h1.last (i1:=i1) (i2:=i2) (i3:=i3) (i4:=i4) (i5:=i5) gA;have ht:=Q3t W g (L.length*6) (.int .i64 i1) (.int .i64 i2) (.int .i64 i3) (.int .i64 i4) (.int .i64 i5) u;have hg:=h1.row_lt g rfl;have ez:=(A3.1 h3).1;have cL:=(A3.1 h4).1;have ns:=(A3.1 h2).1;refine Q7b k1 hf.form3 (aQ _ ⟨k2,(ht.2 bo ns (fun e=>hg.2.2 (.inl (.inl e.symm)))).trans h2,(ht.2 _ ez (fun e=>hg.2.2 (.inr (.inl e.symm)))).trans h3,(ht.2 _ cL (fun e=>hg.2.2 (.inr (.inr e.symm)))).trans h4,h5.trans ht (fun k hk e=>(h6 k (by rw[e];rfl)).elim .inr (fun h=>by omega)),h6,h7,h8,h9⟩)
theorem KSt.ret{A:List Fm}(h:KSt w0 w bo bx v0 x0 x1 x2 x3 x4 x5 L v v W)(hd:L.Nodup)(hA:∀x∈L,x∈A)(y0 y1 y2 y3 y4 y5:Value):
  Six0 (setFm W (w.heap.size+1) y0 y1 y2 y3 y4 y5) (w.heap.size+1) y0 y1 y2 y3 y4 y5/\J9 W (w.heap.size+1) /\
   Hid (invP w0 bo A (L,v) bx (setFm W (w.heap.size+1) y0 y1 y2 y3 y4 y5)/\Turn (ownP bo (L,v0)) w (setFm W (w.heap.size+1) y0 y1 y2 y3 y4 y5)/\∀k,ownP bo (L,v) k->ownP bo (L,v0) k∨w.heap.size<=k):=by
 obtain⟨h1,h2,h3,h4,h5,h6,h7,h8,h9,cq⟩:=h;obtain⟨s1,s2,-⟩:=Jh h4 y0 y1 y2 y3 y4 y5;have hT:Turn (fun k=>k=w.heap.size+1) W (setFm W (w.heap.size+1) y0 y1 y2 y3 y4 y5):=⟨by unfold setFm;exact((((((Below.refl 0 W).setCell (p:=⟨w.heap.size+1,0,none⟩) (AA _) _).setCell (p:=⟨w.heap.size+1,1,none⟩) (AA _) _).setCell (p:=⟨w.heap.size+1,2,none⟩) (AA _) _).setCell (p:=⟨w.heap.size+1,3,none⟩) (AA _) _).setCell (p:=⟨w.heap.size+1,4,none⟩) (AA _) _).setCell (p:=⟨w.heap.size+1,5,none⟩) (AA _) _,fun k _ hk=>s2 k hk⟩
 exact⟨s1,⟨_,_,_,_,_,_,_,h4⟩,qh ⟨⟨(s2 bo (by omega)).trans h2,(h1.turn hT (fun k hk=>.inr (.inr hk))).rebox (fun k hk=>.inl (.inl hk)),h8,cq,hd,hA⟩,h5.trans hT (fun k hk e=>by omega),fun k hk=>hk.elim (fun e=>.inl (.inl e)) (fun e=>(h6 k e).imp .inr id)⟩⟩
end
end
section
attribute [local go_sem ↓] Go.wp_at_zero Go.wp_at_succ Q0d
theorem Qrd:∀args W,(callFunc 55 args).run prog W=.ok (.enter 55 args) W:=fun args W=>by kernel_rfl
theorem Qhw(w0:World)(bo:Nat)(f0:Fm)(hz:fsz f0<=100000):Q3x w0 (ownP bo) (invP w0 bo (post f0)) (fun s=>s.1) (fun x=>x) (fun x s=>ded s [x]) (fun f=>∀x∈post f,x∈post f0) (fun v W K=>Calls prog 55 (#[v]++#[.pointer (some ⟨bo,0,none⟩)]) W K):=by
 intro o p r v g l hP s bx q d w eK bn hi hm;simp only[Q4w]at hm⊢;obtain⟨L,v0⟩:=s;have kL:Yk f0 L:=⟨hi.2.2.2.2.1,hi.2.2.2.2.2⟩;have gT:Fm.mk o p r v g l∈post f0:=hP _ (Qo7 _);have hle:L.length<=1000000:=by have:=kL.len;omega
 have az:∀x∈L,fsz x<=1000000:=fun x hx=>by have:=kL.size x hx;omega
 have cy:fsz (.mk o p r v g l)<=1000000:=by have:=(Q8k f0 _ gT).1;omega
 clear hP hz;obtain⟨fin,a7⟩:∃x,Hid (x=ded L [.mk o p r v g l]):=⟨_,qh rfl⟩;have jw:Hid (fin=if Fm.mk o p r v g l∈L then L else L++[.mk o p r v g l]):=qh (by rw[a7.out,Qak]);obtain⟨pv,cv,ev⟩:=hi.2.1.form;have ev':v0=.slice pv L.length cv:=ev;subst ev';clear ev;suffices hgoal:Calls prog 55 #[.agg #[.int .i64 o,.int .i64 p,.int .i64 r,.int .i64 v,.int .i64 g,.slice q l.length d],.pointer (some ⟨bo,0,none⟩)] w fun rr W'=>∃v',rr=.returned (.agg #[.int .i64 o,.int .i64 p,.int .i64 r,.int .i64 v,.int .i64 g,.slice q l.length d])/\invP w0 bo (post f0) (fin,v') bx W'/\Turn (ownP bo (L,.slice pv L.length cv)) w W'/\∀k,ownP bo (fin,v') k->ownP bo (L,.slice pv L.length cv) k∨w.heap.size<=k by refine hgoal.mono ?_;rintro rr W' ⟨v',h1,h2,h3,h4⟩;exact⟨(fin,v'),o,p,r,v,g,rfl,a7.out,h1,h2,h3,h4⟩
 clear a7;have uj:FmR w l (.slice q l.length d):=Ju _ (Af _) hm;obtain⟨hB,aI,aN,pA⟩:=boxF2h w (.int .i64 o) (.int .i64 p) (.int .i64 r) (.int .i64 v) (.int .i64 g) (.slice q l.length d) (.int .i64 0) (.int .i64 0) (.int .i64 0) (.int .i64 0) (.int .i64 0) (.slice none 0 0) rfl;go_enter func55,ntmps55;go_upto_region 1 with(fail);generalize A0 (A0 w _) _=w1 at hB aI aN pA⊢;have hk:=Ql6 hB hi eK aI aN;have eN:FmR w1 L (.slice pv L.length cv):=Ju _ (Af _) hk.1.close;have l6:∃pr:Fm->Bool,Hid (pr=fun x=>feq x (.mk o p r v g l)):=⟨_,qh rfl⟩;obtain⟨pr,l6⟩:=l6;have hC:Hid (Calls prog 40 #[.slice pv L.length cv,.func (.func 56) #[] #[.pointer (some ⟨w.heap.size,0,none⟩)]] w1 fun e w'=>e=.returned (.bool (L.any pr))/\Below w1.heap.size w1 w'):=qh (Qac 56 #[.pointer (some ⟨w.heap.size,0,none⟩)] (fun _ _=>by kernel_rfl) L pv cv pr w1 eN hle (fun i hi q' d' W hb hx=>by rw[l6.out];exact Qnb L[i] (.mk o p r v g l) (az _ (Ae hi)) q' q d' d w.heap.size W hx ((uj.low hB).low hb) (Q0m (Qu aI) hb)))
 have nu:Hid (L.any pr=decide (Fm.mk o p r v g l∈L)):=qh (by rw[l6.out,Qhb]);replace hk:=qh hk;replace hm:=qh hm;replace kL:=qh kL;replace gT:=qh gT;clear l6 eN uj aN aI hB pA az hi eK bn cy;generalize L.any pr=an at *;obtain⟨co,cof,c0,c1,c2,c3,c4,c5⟩:=hk.out.cells;go_upto_region 1 with(fail);by_cases bK:Fm.mk o p r v g l∈L
 ·obtain rfl:an=true:=nu.out.trans (decide_eq_true bK)
  obtain rfl:fin=L:=jw.out.trans (if_pos bK);replace bK:=qh bK;go_upto_region 3 with(go_at_call 40;(with_reducible refine(hC.out).mono ?_);rintro e w2 ⟨rfl,b2⟩;replace b2:=qh b2);replace hk:=qh (hk.out.below b2.out);clear co cof c0 c1 c2 c3 c4 c5;obtain⟨co,cof,c0,c1,c2,c3,c4,c5⟩:=hk.out.cells;obtain⟨⟨s0,s1,s2,s3,s4,s5⟩,ar,ac⟩:=hk.out.ret kL.out.1 kL.out.2 (.int .i64 o) (.int .i64 p) (.int .i64 r) (.int .i64 v) (.int .i64 g) (.slice q l.length d);generalize w.heap.size+1=B4 at *;go_wp21;refine bodyPost_ret (v:=.agg #[.int .i64 o,.int .i64 p,.int .i64 r,.int .i64 v,.int .i64 g,.slice q l.length d]) (by simp[results,results55,go_sem,s0,s1,s2,s3,s4,s5]) rfl ⟨_,rfl,ac.out⟩
 ·obtain rfl:an=false:=nu.out.trans (decide_eq_false bK)
  obtain rfl:fin=L++[.mk o p r v g l]:=jw.out.trans (if_neg bK);have sP:=qh (kL.out.put gT.out bK);replace bK:=qh bK;go_upto_region 2 with(go_at_call 40;(with_reducible refine(hC.out).mono ?_);rintro e w2 ⟨rfl,b2⟩;replace b2:=qh b2);replace hk:=qh (hk.out.below b2.out);go_cut []from 8 to 13 (fun wx=>∃v',Hid (KSt w0 w bo bx (.slice pv L.length cv) (.int .i64 o) (.int .i64 p) (.int .i64 r) (.int .i64 v) (.int .i64 g) (.slice q l.length d) (L++[.mk o p r v g l]) v' v' wx))
  case first=>
   replace hk:=qh (hk.out.below (W':=w2.drew) ⟨rfl,rfl,rfl,A4 _,fun _ _=>rfl⟩);clear co cof c0 c1 c2 c3 c4 c5 sP kL gT bK nu jw b2 hC;obtain⟨co,cof,c0,c1,c2,c3,c4,c5⟩:=hk.out.cells;have iD:KSt w0 w bo bx (.slice pv L.length cv) (.int .i64 o) (.int .i64 p) (.int .i64 r) (.int .i64 v) (.int .i64 g) (.slice q l.length d) L (.slice pv L.length cv) (.slice pv L.length cv) ((w2.alloc (.cells #[.int .i64 0,.int .i64 0,.int .i64 0,.int .i64 0,.int .i64 0,.slice none 0 0] 24)).drew):=hk.out.below ((Below.refl _ _).alloc (A4 _) _);obtain⟨da,daf,d0,d1,d2,d3,d4,d5⟩:=iD.cells;replace iD:=qh iD;go_region_with (first
    | (refine Qsw hk.out hle rfl (by rfl) (by rfl) (by rfl) ?_;intro g12 c12 w12 hk12;obtain⟨k6,k7,k0,k1,k2,k3,k4,k5⟩:=hk12.cells)
    | (refine Qfq hk12 hm.out (by simp) ?_;intro w13 hk13;obtain⟨m6,m7,m0,m1,m2,m3,m4,m5⟩:=hk13.cells)
    | (refine Qfq (hk12.setout _) hm.out (by simp) ?_;intro w13 hk13;obtain⟨m6,m7,m0,m1,m2,m3,m4,m5⟩:=hk13.cells))
   all_goals
    first
     | (have a7:=qh (hk13.setout (.slice (some ⟨g12,0,none⟩) (L.length+1) c12))
        generalize A9 w13 _ _=w14 at a7⊢;clear hk12 hk13 k0 k1 k2 k3 k4 k5 k6 k7 m0 m1 m2 m3 m4 m5 m6 m7 co cof c0 c1 c2 c3 c4 c5 da daf d0 d1 d2 d3 d4 d5 iD hk;go_wp2_with fail;go_meet
        exact⟨_,a7⟩)
     | (have a7:=qh hk13
        clear hk12 hk13 k0 k1 k2 k3 k4 k5 k6 k7 m0 m1 m2 m3 m4 m5 m6 m7 co cof c0 c1 c2 c3 c4 c5 da daf d0 d1 d2 d3 d4 d5 iD hk;go_wp2_with fail;go_meet
        exact⟨_,a7⟩)
  case rest=>obtain⟨v',lV⟩:=hcut;clear co cof c0 c1 c2 c3 c4 c5;obtain⟨co,cof,c0,c1,c2,c3,c4,c5⟩:=lV.out.cells;obtain⟨⟨s0,s1,s2,s3,s4,s5⟩,ar,ac⟩:=lV.out.ret sP.out.1 sP.out.2 (.int .i64 o) (.int .i64 p) (.int .i64 r) (.int .i64 v) (.int .i64 g) (.slice q l.length d);generalize w.heap.size+1=B4 at *;go_upto_region 3 with(fail);go_wp21;refine bodyPost_ret (v:=.agg #[.int .i64 o,.int .i64 p,.int .i64 r,.int .i64 v,.int .i64 g,.slice q l.length d]) (by simp[results,results55,go_sem,s0,s1,s2,s3,s4,s5]) rfl ⟨_,rfl,ac.out.1,ac.out.2.1,fun k hk=>ac.out.2.2 k hk⟩
end
section
attribute [local go_sem ↓] Go.wp_at_zero Go.wp_at_succ Q0d
end
end Go.Proofs.YtakdifceogdioaaGreatDoor