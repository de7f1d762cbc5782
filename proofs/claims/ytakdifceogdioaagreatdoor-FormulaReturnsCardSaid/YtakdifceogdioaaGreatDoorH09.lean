/- Walks of functions, and plain facts. -/
import Derived.Handy
import Derived.Deep.CutBlock
import Derived.Test.YtakdifceogdioaaGreatDoorH05
import Derived.Test.YtakdifceogdioaaGreatDoorH06
import Derived.Test.YtakdifceogdioaaGreatDoorH07
import Derived.Test.YtakdifceogdioaaGreatDoorH08
import Derived.Test.YtakdifceogdioaaGreatDoorH01
import Derived.Test.YtakdifceogdioaaGreatDoorH03
import Derived.Test.YtakdifceogdioaaGreatDoorH02
import Derived.Test.YtakdifceogdioaaGreatDoorH04
open Bool renaming and_eq_false_iff->Bz,and_eq_true->Ai
open Go.World renaming alloc->A0
open List renaming cons_append->AH,drop_drop->AW,drop_eq_nil_of_le->AF,getD_eq_getElem?_getD->As,getElem?_append_right->BB,getElem?_eq_getElem->Aj,getElem?_eq_none->Bb,getElem?_map->B9,getElem_mem->Ah,length->Bj,length_append->Ad,length_cons->Ac,length_drop->Ar,length_nil->Ak,length_pos_iff->BH,length_take->AD,map_cons->AB,mem_cons->A8,mem_cons_of_mem->Ae,mem_cons_self->A6,mem_singleton->Ag,nil_append->B0,not_mem_nil->A5,singleton_append->BO,sizeOf_lt_of_mem->Av,take_append_of_le_length->Bq,take_length->BS,take_succ_cons->BW
open List.cons renaming injEq->BX,sizeOf_spec->Ba
open List.nil renaming sizeOf_spec->BU
open Nat renaming add_zero->Bo,le_of_lt->Cf,le_refl->A4,le_trans->Am,lt_or_ge->AR,lt_succ_self->Ab,mod_lt->Cg,not_lt_zero->AU
open Option.some renaming inj->Ap
set_option linter.unusedVariables false
set_option linter.unusedSimpArgs false
set_option maxHeartbeats 20000000
set_option maxRecDepth 100000
namespace Go.Proofs.YtakdifceogdioaaGreatDoor
open Go.Proofs.Tryz
open Go.RowKit
theorem Qwv:∀(m:Nat) (t:Syn),SizeOf.sizeOf t<m->Mod t->∀(k:Nat),2<=k/\k<=2->∀(q:Option Addr) (d:Nat) (W:World),KidR W t.kids (.slice q t.kids.length d) ->
  Calls prog 109 #[.int .i64 k,Q7 t q d] W (Qh W (okP k t)):=by
 intro m;induction m with
 | zero=>intro t h;omega
 | succ m ih=>
  intro t hm hM k hk q d w ad;obtain⟨kd,tx,n,a,ks⟩:=t;have ad:KidR w ks (.slice q ks.length d):=ad;have hl:ks.length<=100000:=hM.len;have hV:∀w',Q78 w' ks:=fun w' i hi k hk q d W hb aN=>by have h1:=Av (Ah hi);simp only[Syn.mk.sizeOf_spec]at hm;exact ih _ (by omega) (hM.kid _ (Ah hi)) k hk q d W aN
  by_cases cW:kd=11
  ·subst cW;exact Qwx k hk tx n a ks q d w hl ad (fun i hi=>hV w i hi k hk)
  by_cases fJ:kd=12
  ·subst fJ;exact Qx0 k hk tx n a ks q d w hl ad (fun i hi=>hV w i hi k hk)
  by_cases ca:kd=10
  ·subst ca
   refine Qwy k hk tx n a ks q d w (fun W hb=>?_);have kL:=ad.low hb;have oF:=hV W;obtain rfl:k=2:=by omega
   match ks,hM,kL,oF with
   | [],_,_,_=>exact Qqk tx n a q d W
   | [x],_,kL,oF=>exact Qql tx n a x q d W kL oF
   | [x,y],hM,kL,oF=>exact Qqm tx n a x y q d W (fun z hz=>(hM.kid z hz).len) kL oF
   | x::y::z::l,_,_,_=>exact Qqn tx n a x y z l q d W
  exact Qwz k hk kd tx n a ks q d w ca cW fJ
theorem Qwh(t:Syn)(hM:Mod t)(k:Nat)(hk:2<=k/\k<=2)(q:Option Addr)(d:Nat)(W:World)(ad:KidR W t.kids (.slice q t.kids.length d)):
  Calls prog 109 #[.int .i64 k,Q7 t q d] W (Qh W (okP k t)):=Qwv _ t (Ab _) hM k hk q d W ad
end Go.Proofs.YtakdifceogdioaaGreatDoor
namespace Go.Proofs.YtakdifceogdioaaGreatDoor
open Go.Proofs.Tryz
def Qbu(t:Tok):Prop:=t.kind=1->t.text≠[]/\(∀c∈t.text,Q6 c.toNat=true)/\dv 0 t.text<=1048576
theorem Qwe{l:List UInt8}{n:Nat}(h:tok l=.ok (1,n)):l.take n≠[]/\(∀c∈l.take n,Q6 c.toNat=true)/\dv 0 (l.take n)<=1048576:=by
 unfold tok at h;by_cases h1:Q0 Q2 l=0
 ·rw[if_pos h1]at h;split at h<;>simp at h
 rw[if_neg h1]at h;by_cases h2:Q0 Qv l=0
 ·rw[if_pos h2]at h
  by_cases h3:Q0 Q6 l<Q0 Q2 l
  ·rw[if_pos h3]at h;simp at h
  rw[if_neg h3]at h;by_cases h4:(Zq 0 (l.take (Q0 Q2 l))).isNone=true
  ·rw[if_pos h4]at h;simp at h
  rw[if_neg h4]at h;simp only[Except.ok.injEq,Prod.mk.injEq,true_and]at h;subst h;have hle:=Yr Q2 l;refine⟨fun e=>?_,fun c hc=>?_,?_⟩
  ·have:min (Q0 Q2 l) l.length=0:=by rw[<-AD,e];rfl
   omega
  ·refine Qas Q6 l c ?_
   have hm:=Yr Q6 l;have:l.take (Q0 Q2 l)=(l.take (Q0 Q6 l)).take (Q0 Q2 l):=by rw[List.take_take,Nat.min_eq_left (by omega)]
   rw[this]at hc;exact List.mem_of_mem_take hc
  ·rw[Qbn _ _ (by omega)]at h4
   split at h4
   ·assumption
   ·simp at h4
 ·rw[if_neg h2]at h
  split at h<;>simp at h
theorem Qug(f:Nat):∀(p:Nat) (l:List UInt8) (ts:List Tok),Qp f p l=.ok ts->∀t∈ts,Qbu t/\t.text.length<=l.length:=by
 induction f with
 | zero=>intro p l ts h;simp[Qp]at h;subst h;simp
 | succ f ih=>
  intro p l ts h;simp only[Qp]at h;split at h
  ·simp only[Except.ok.injEq]at h;subst h
   intro t ht;rw[Ag.1 ht];exact⟨fun h=>by simp at h,by simp⟩
  ·rename_i c r hd
   have hlen:(c::r).length<=l.length:=by rw[<-hd];simp
   split at h
   ·simp at h
   ·rename_i kind n ht
    split at h
    ·simp at h
    ·rename_i us hu
     simp only[Except.ok.injEq]at h;subst h;intro t hm;rcases A8.1 hm with rfl|hm
     ·refine⟨fun hk=>?_,by rw[AD];omega⟩
      have bC:kind=1:=by simp only at hk;omega
      subst bC;exact Qwe ht
     ·obtain⟨q1,q2⟩:=ih _ _ _ hu t hm
      refine⟨q1,Am q2 ?_⟩;rw[Ar];omega
theorem Qud(f:Nat):∀(p:Nat) (l:List UInt8) (ts:List Tok),l.length<f->Qp f p l=.ok ts->∃a t,ts=a++[t]/\t.kind=3:=by
 induction f with
 | zero=>intro p l ts hl;omega
 | succ f ih=>
  intro p l ts hl h;simp only[Qp]at h;split at h
  ·simp only[Except.ok.injEq]at h;subst h
   exact⟨[],_,rfl,rfl⟩
  ·rename_i c r hd
   have hlen:(c::r).length<=l.length:=by rw[<-hd];simp
   split at h
   ·simp at h
   ·rename_i kind n ht
    have hp:=Q02 ht;split at h
    ·simp at h
    ·rename_i us hu
     simp only[Except.ok.injEq]at h;subst h;obtain⟨a,t,rfl,hk⟩:=ih _ _ _ (by rw[Ar];omega) hu;exact⟨_::a,t,rfl,hk⟩
theorem Qi2(x:UInt8)(r:List UInt8):skip false (x::r)=if x.toNat=35 then skip true r+1 else if Qr x.toNat then skip false r+1 else 0:=rfl
theorem Qh8(f:Nat):∀(p:Nat) (l:List UInt8) (ts:List Tok),0<f->Qp f p l=.ok ts->l.length<f->ts≠[]:=by
 induction f with
 | zero=>intro p l ts h;omega
 | succ f ih=>
  intro p l ts _ h hl;simp only[Qp]at h;split at h
  ·simp at h;rw[<-h];simp
  ·split at h
   ·simp at h
   ·split at h
    ·simp at h
    ·simp at h;rw[<-h];simp
def Stand(s:List UInt8):Nat->List Tok->Prop
 | at0,[]=>at0=s.length
 | at0,t::r=>(t.pos=(at0+skip false (s.drop at0):Nat))/\at0+skip false (s.drop at0)+t.text.length<=s.length /\
   (s.drop (at0+skip false (s.drop at0))).take t.text.length=t.text/\(t.kind=3↔r=[])/\Stand s (at0+skip false (s.drop at0)+t.text.length) r
theorem Q35{l:List UInt8}{k n:Nat}(h:tok l=.ok (k,n)):k<=2:=by unfold tok at h;(repeat' split at h)<;>simp at h<;>omega
theorem Quh(s:List UInt8)(f:Nat):∀(p:Nat) (ts:List Tok),p<=s.length->(s.drop p).length<f->Qp f p (s.drop p)=.ok ts->Stand s p ts:=by
 induction f with
 | zero=>intro p ts _ h;omega
 | succ f ih=>
  intro p ts hp hf h;have hk:=Q0w false (s.drop p);rw[Ar]at hk hf;simp only[Qp,AW]at h;split at h
  ·rename_i hd
   simp only[Except.ok.injEq]at h;subst h;have:s.length<=p+skip false (s.drop p):=by have:=congrArg Bj hd;rw[Ar,Ak]at this;omega
   refine⟨rfl,by simp;omega,by simp,by simp,?_⟩;simp only[Ak,Bo,Stand];omega
  ·rename_i c r hd
   have hlen:(c::r).length=s.length-(p+skip false (s.drop p)):=by rw[<-hd,Ar]
   cases ht:tok (c::r)with
   | error x=>rw[ht]at h;simp at h
   | ok x=>
    obtain⟨kd,m⟩:=x;have hm:=Q02 ht;have eA:=Q35 ht;rw[ht]at h;simp only[]at h;rw[<-hd,AW]at h;cases hr:Qp f (p+skip false (s.drop p)+m) (s.drop (p+skip false (s.drop p)+m))with
    | error x=>rw[hr]at h;simp at h
    | ok us=>
     rw[hr]at h;simp only[Except.ok.injEq]at h;subst h;have hu:=ih _ _ (by omega) (by rw[Ar];omega) hr;have hl:((s.drop (p+skip false (s.drop p))).take m).length=m:=by rw[AD,Ar];omega
     have am:us≠[]:=Qh8 _ _ _ _ (by omega) hr (by rw[Ar];omega);refine⟨rfl,?_,?_,?_,?_⟩
     ·rw[hl];omega
     ·rw[hl]
     ·constructor
      ·intro e;simp only at e;omega
      ·intro e;exact absurd e am
     ·rw[hl];exact hu
theorem Quj{s:List UInt8}{ts:List Tok}(h:scan s=.ok ts):Stand s 0 ts/\ts≠[]:=by
 unfold scan at h;split at h
 ·simp at h
 ·exact⟨Quh s (s.length+1) 0 ts (by omega) (by simp) (by simpa using h),Qh8 _ _ _ _ (by omega) h (by omega)⟩
theorem tokClass{x:List UInt8}{k:Nat}(h:tok x=.ok (k,x.length)):x≠[]/\((k<=1/\Q0 Q2 x=x.length)∨(k=2/\x∈Qq)):=by
 have hp:=Q02 h;refine⟨fun e=>by subst e;simp at hp,?_⟩;by_cases hw:Q0 Q2 x=0
 ·right
  rw[Q6v hw]at h;split at h
  ·simp at h
  ·rename_i am
   simp only[Except.ok.injEq,Prod.mk.injEq]at h;refine⟨h.1.symm,?_⟩;rcases Q8k Qq x with e|e
   ·exact absurd e am
   ·have hl:=h.2
    rw[Q2k]at e hl;have:=Q31 x;rw[AD]at hl;rwa[List.take_of_length_le (by omega)]at e
 ·left
  have:=Q6u h hw;have:=Q35 h;omega
theorem Qtm{p:Int->Bool}{x:List UInt8}(y:List UInt8)(h:Q0 p x=x.length):Q0 p (x++y)=x.length+Q0 p y:=by
 induction x with
 | nil=>simp
 | cons c r ih=>
  simp only[Q0]at h;split at h
  ·rename_i hc
   rw[AH,Q0,if_pos hc,ih (by simpa using h)];simp;omega
  ·simp at h
theorem Qgv{p:Int->Bool}{x:List UInt8}(y:List UInt8)(h:Q0 p x<x.length):Q0 p (x++y)=Q0 p x:=by
 induction x with
 | nil=>simp at h
 | cons c r ih=>
  simp only[Q0]at h⊢;rw[AH,Q0];split
  ·rename_i hc
   rw[if_pos hc]at h;rw[ih (by simpa using h)]
  ·rfl
def fits(x y:List UInt8):Prop:=∀c,y.head?=some c->(0<Q0 Q2 x->Q2 c.toNat=false)/\¬ (x=[60]/\c=61)
theorem Qtp{p:Int->Bool}{y:List UInt8}(h:∀c,y.head?=some c->p c.toNat=false):Q0 p y=0:=by
 cases y with
 | nil=>rfl
 | cons c r=>rw[Q0,if_neg (by rw[h c rfl];simp)]
theorem Qjg(c:Int):Q2 c=false->Qv c=false/\Q6 c=false:=by unfold Q2;simp
theorem Qap{p:Int->Bool}(hp:∀c,Q2 c=false->p c=false){x y:List UInt8}(hf:fits x y)(hx:x≠[])(hw:Q0 Q2 x=x.length):Q0 p (x++y)=Q0 p x:=by
 have bX:0<Q0 Q2 x:=by rw[hw];exact BH.2 hx
 by_cases h:Q0 p x=x.length
 ·rw[Qtm y h,Qtp (fun c hc=>hp _ ((hf c hc).1 bX)),h];rfl
 ·have:=Yr p x
  exact Qgv y (by omega)
theorem Qv7:∀x∈Qq,∀y:List UInt8,¬ (x=[60]/\y.head?=some 61)->Qy (x++y)=x.length:=by intro x hx y h;simp only[Qq,A8,A5,or_false]at hx;rcases hx with rfl|rfl|rfl|rfl|rfl|rfl|rfl|rfl|rfl|rfl|rfl|rfl|rfl;all_goals cases y<;>simp_all[Qy,Z0]
theorem Qwc{x y:List UInt8}{k:Nat}(h:tok x=.ok (k,x.length))(hf:fits x y):tok (x++y)=.ok (k,x.length):=by
 obtain⟨hx,hc⟩:=tokClass h;rcases hc with⟨hk,hw⟩|⟨rfl,hm⟩
 ·have h1:=Qap (p:=Q2) (fun _ h=>h) hf hx hw
  have h2:=Qap (p:=Qv) (fun c h=>(Qjg c h).1) hf hx hw;have h3:=Qap (p:=Q6) (fun c h=>(Qjg c h).2) hf hx hw;have bX:0<Q0 Q2 x:=by rw[hw];exact BH.2 hx
  have h4:(x++y).take (Q0 Q2 x)=x.take (Q0 Q2 x):=Bq (Yr _ _);rw[<-h];unfold tok;have am:¬ Q0 Q2 x=0:=by omega
  rw[h1,h2,h3,h4,if_neg am,if_neg am]
 ·have h0:=Q6n x hm
  have hs:Qy (x++y)=x.length:=Qv7 x hm y (fun e=>(hf 61 e.2).2 ⟨e.1,rfl⟩);have h1:Q0 Q2 (x++y)=0:=by rw[Qgv y (by rw[h0];exact BH.2 hx),h0]
  have bX:0<x.length:=BH.2 hx;unfold tok;rw[if_pos h1,hs,if_neg (by omega)]
theorem Qgy{p q:Int->Bool}(h:∀c,p c=true->q c=true)(l:List UInt8):Q0 p l<=Q0 q l:=by
 induction l with
 | nil=>simp[Q0]
 | cons c r ih=>
  simp only[Q0];split
  ·rename_i hc;rw[if_pos (h _ hc)];omega
  ·omega
theorem Qtn(p:Int->Bool)(l:List UInt8):∀c,(l.drop (Q0 p l)).head?=some c->p c.toNat=false:=by
 induction l with
 | nil=>simp[Q0]
 | cons x r ih=>
  intro c;simp only[Q0];split
  ·rw[List.drop_succ_cons];exact ih c
  ·rename_i hc
   intro h;simp at h;subst h;simpa using hc
theorem Qwa{s:List UInt8}{k n:Nat}(h:tok s=.ok (k,n)):tok (s.take n)=.ok (k,(s.take n).length)/\fits (s.take n) (s.drop n):=by
 have hp:=Q02 h;have hl:(s.take n).length=n:=by rw[AD];omega
 by_cases hw:Q0 Q2 s=0
 ·have ht:=Q6v hw
  rw[ht]at h;split at h
  ·simp at h
  ·rename_i am
   simp only[Except.ok.injEq,Prod.mk.injEq]at h;obtain⟨rfl,hn⟩:=h;have hm:=(Q8k Qq s).resolve_left am;have hle:=Q31 s;have lP:Jn Qq s=s.take n:=by have e:=Q2k s;rw[e]at hn⊢;rw[AD,Nat.min_eq_left hle]at hn;rw[hn]
   rw[lP]at hm;rw[Qhz _ hm];refine⟨rfl,fun c hc=>⟨fun h=>by rw[Q6n _ hm]at h;omega,?_⟩⟩;rintro⟨e1,rfl⟩;have e2:s=60::61::(s.drop n).tail:=by
    have e3:=(List.take_append_drop n s).symm;rw[e1]at e3;match hd:s.drop n,hc with
    | c::r,hc=>simp at hc;subst hc;rw[hd]at e3;rw[e3];rfl
   have:Qy s=2:=by rw[e2];rfl
   rw[e1]at hl;have e:=Q2k s;rw[e,AD,this]at hn;simp at hl;omega
 ·have hk:=Q6u h hw
  have hn:=hk.2.2;have h1:=Q4f (p:=Q2) (l:=s) hp.2;have h2:=Q4f (p:=Qv) (l:=s) hp.2;have h3:=Q4f (p:=Q6) (l:=s) hp.2;have m2:=Qgy (p:=Qv) (q:=Q2) (by intro c;unfold Q2;simp;intro h;exact .inl h) s;have m3:=Qgy (p:=Q6) (q:=Q2) (by intro c;unfold Q2;simp;intro h;exact .inr h) s;have e4:(s.take n).take (Q0 Q2 s)=s.take (Q0 Q2 s):=by rw[List.take_take,hn,Nat.min_self]
  constructor
  ·rw[hl,<-h]
   unfold tok;rw[h1,h2,h3,hn,Nat.min_self,Nat.min_eq_right m2,Nat.min_eq_right m3,if_neg hw,if_neg hw,<-hn,List.take_take,Nat.min_self]
  ·intro c hc
   rw[hn]at hc⊢;have:=Qtn Q2 s c hc;refine⟨fun _=>this,?_⟩;rintro⟨e1,_⟩;have:=Qas Q2 s 60 (by rw[e1];simp);exact absurd this (by decide)
def Good:List Tok->Prop
 | []=>False
 | t::r=>(t.kind=3/\t.text=[]/\r=[])∨((∃k:Nat,t.kind=k/\tok t.text=.ok (k,t.text.length))/\Good r)
theorem Quc(f:Nat):∀(p:Nat) (l:List UInt8) (ts:List Tok),l.length<f->Qp f p l=.ok ts->Good ts/\(Q18 none ts).length<=l.length/\∀t0:Tok,t0.kind≠3->(∃k:Nat,t0.kind=k/\tok t0.text=.ok (k,t0.text.length))->fits t0.text l->(Q18 (some t0) ts).length<=l.length:=by
 induction f with
 | zero=>intro p l ts h;omega
 | succ f ih=>
  intro p l ts hf h;have hk:=Q0w false l;simp only[Qp]at h;split at h
  ·simp only[Except.ok.injEq]at h
   subst h;refine⟨.inl ⟨rfl,rfl,rfl⟩,by simp[Q18],fun t0 _ _ _=>?_⟩;simp[Q18,gap,Q39]
  ·rename_i c r hd
   have hlen:(c::r).length=l.length-skip false l:=by rw[<-hd,Ar]
   cases ht:tok (c::r)with
   | error x=>rw[ht]at h;simp at h
   | ok x=>
    obtain⟨kd,n⟩:=x;have hn:=Q02 ht;have eA:=Q35 ht;have hcut:=Qwa ht;rw[ht]at h;simp only[]at h;cases hr:Qp f (p+skip false l+n) ((c::r).drop n)with
    | error x=>rw[hr]at h;simp at h
    | ok us=>
     rw[hr]at h;simp only[Except.ok.injEq]at h;subst h;obtain⟨g,_,hj⟩:=ih _ _ _ (by rw[Ar];omega) hr;have hl:((c::r).take n).length=n:=by rw[AD];omega
     have hJ:=hj ⟨kd,(c::r).take n,((p+skip false l:Nat):Int)⟩ (by simp only;omega) ⟨kd,rfl,hcut.1⟩ hcut.2;rw[Ar]at hJ;refine⟨.inr ⟨⟨kd,rfl,hcut.1⟩,g⟩,?_,?_⟩
     ·simp only[Q18,Ad,hl];omega
     ·intro t0 h3 dw hfit
      have jp:=Qdo (kind:=(kd:Int)) (s:=(c::r).take n) (by rw[<-Qaf,Q4c,if_neg (by omega),if_neg (tokClass hcut.1).1,hcut.1];simp) (by omega) (by omega);obtain⟨k0,sh,mM⟩:=dw;have vr:=Q35 mM;have t7:=Qdo (kind:=t0.kind) (s:=t0.text) (by rw[<-Qaf,Q4c,if_neg h3,if_neg (tokClass mM).1,mM];simp[sh]) (by omega) (by omega);have hg:skip false l=0->gap t0 ⟨kd,(c::r).take n,((p+skip false l:Nat):Int)⟩=false:=by
       intro h0;rw[h0,List.drop_zero]at hd;have hc:=hfit c (by rw[hd];rfl);unfold gap;simp only;rw[<-t7,<-jp];rw[Bool.or_eq_false_iff,Bz,Bz];constructor
       ·by_cases hw:0<Q0 Q2 t0.text
        ·right
         have:=hc.1 hw;rw[decide_eq_false_iff_not];match n,hn with
         | n+1,_=>rw[BW,Q0,if_neg (by rw[this];simp)];omega
        ·left;simpa using hw
       ·by_cases hw:t0.text=[60]
        ·right
         rw[decide_eq_false_iff_not];intro e;match n,hn with
         | n+1,_=>rw[BW]at e;simp only[BX]at e;exact hc.2 ⟨hw,e.1⟩
        ·left;simpa using hw
      simp only[Q18,Ad,hl];by_cases h0:skip false l=0
      ·rw[hg h0]
       simp only[Bool.false_eq_true,if_false,Ak];omega
      ·have:(if gap t0 ⟨kd,(c::r).take n,((p+skip false l:Nat):Int)⟩then[32]else([]:List UInt8)).length<=1:=by split<;>simp
       omega
theorem Qn6{x:List UInt8}{k:Nat}(h:tok x=.ok (k,x.length))(y:List UInt8):skip false (x++y)=0:=by
 obtain⟨hx,hc⟩:=tokClass h;match x,hx with
 | c::r,_=>
  have hh:c.toNat≠35/\Qr c.toNat=false:=by
   rcases hc with⟨_,hw⟩|⟨_,hm⟩
   ·have:=Qgw hw c (by simp)
    constructor
    ·intro e;rw[e]at this;exact absurd this (by decide)
    ·cases hb:Qr c.toNat
     ·rfl
     ·have:Q2 c.toNat=false:=by
       simp[Qr]at hb;rcases hb with((e|e)|e)|e<;>rw[show(c.toNat:Int)=_ from e]<;>decide
      simp_all
   ·simp only[Qq,A8,A5,or_false,BX]at hm
    rcases hm with h|h|h|h|h|h|h|h|h|h|h|h|h<;>(obtain⟨rfl,_⟩:=h;decide)
  rw[AH,Qi2,if_neg hh.1,if_neg (by rw[hh.2];simp)]
theorem Qn1(ts:List Tok):Good ts->Q3u ts=0:=by
 induction ts with
 | nil=>intro h;exact absurd h (by simp[Good])
 | cons t r ih=>
  intro h;rw[Q3u];rcases h with⟨h3,hx,rfl⟩|⟨⟨k,hk,ht⟩,hr⟩
  ·have:Q14 ([]:List Tok).isEmpty t=0:=by
    unfold Q14;rw[if_neg (by omega),h3,hx];rfl
   rw[if_pos this];rfl
  ·have h2:=Q35 ht
   have hf:Q09 t.kind t.text=true:=by rw[<-Qaf,Q4c,if_neg (by omega),if_neg (tokClass ht).1,ht];simp[hk]
   have:Q14 r.isEmpty t=0:=by unfold Q14;rw[if_neg (by omega),if_neg (by rw[hf];simp),if_neg (by omega)]
   rw[if_pos this];exact ih hr
theorem Qwb{l:List UInt8}{d e:Nat}(h:tok l=.error (d,e)):0<e:=by unfold tok at h;(repeat' split at h)<;>simp at h<;>omega
theorem Qub(f:Nat):∀(p:Nat) (l:List UInt8) (d e:Nat),Qp f p l=.error (d,e)->0<e:=by
 induction f with
 | zero=>intro p l d e h;simp[Qp]at h
 | succ f ih=>
  intro p l d e h;simp only[Qp]at h;split at h
  ·simp at h
  ·split at h
   ·rename_i ht
    simp only[Except.error.injEq,Prod.mk.injEq]at h;have:=Qwb ht;omega
   ·split at h
    ·rename_i x hx
     simp only[Except.error.injEq]at h;subst h;exact ih _ _ _ _ hx
    ·simp at h
theorem Qay{l:List UInt8}{d e:Nat}(h:scan l=.error (d,e)):0<e:=by
 unfold scan at h;split at h
 ·simp only[Except.error.injEq,Prod.mk.injEq]at h;omega
 ·exact Qub _ _ _ _ _ h
section
def On{α:Type}(T:List Tok)(i:Nat)(o:Out α):Prop:=∀a j,o=.ok a j->i<j/\j<T.length
def On0{α:Type}(T:List Tok)(i:Nat)(o:Out α):Prop:=∀a j,o=.ok a j->i<=j/\j<T.length
section
variable {T:List Tok} {i lv:Nat} (hl:(tk T (T.length-1)).kind=3) {res:List UInt8->Bool}
theorem Qu(hl:(tk T (T.length-1)).kind=3)(hi:i<T.length)(hk:(tk T i).kind≠3):nx T i=i+1/\i+1<T.length:=by
 have:i+1<T.length:=by
  rcases AR (i+1) T.length with h|h
  ·exact h
  ·have:i=T.length-1:=by omega
   subst this;exact absurd hl hk
 exact⟨if_pos this,this⟩
theorem Q9{ws:List (List UInt8)}(h:isW T ws i=true):(tk T i).kind≠3:=by intro e;unfold isW at h;rw[e]at h;simp at h
theorem On.bind{α β:Type}{o:Out α}{f:α->Nat->Out β}(h:On T i o)(hf:∀a j,i<j->j<T.length->On0 T j (f a j)):On T i (o.bind f):=by
 cases o with
 | none=>intro b j e;cases e
 | err p e=>intro b j e;cases e
 | ok a k=>obtain⟨h1,h2⟩:=h a k rfl;intro b j e;obtain⟨h3,h4⟩:=hf a k h1 h2 b j e;exact⟨by omega,h4⟩
theorem On.zero{α:Type}{o:Out α}(h:On T i o):On0 T i o:=fun a j e=>⟨Cf (h a j e).1,(h a j e).2⟩
theorem On0.bind{α β:Type}{o:Out α}{f:α->Nat->Out β}(h:On0 T i o)(hf:∀a j,i<=j->j<T.length->On0 T j (f a j)):On0 T i (o.bind f):=by
 cases o with
 | none=>intro b j e;cases e
 | err p e=>intro b j e;cases e
 | ok a k=>obtain⟨h1,h2⟩:=h a k rfl;intro b j e;obtain⟨h3,h4⟩:=hf a k h1 h2 b j e;exact⟨by omega,h4⟩
theorem On0.ok{α:Type}{a:α}(hi:i<T.length):On0 T i (.ok a i):=fun b j e=>by cases e;exact⟨A4 _,hi⟩
theorem On.step{α:Type}{a:α}(hl:(tk T (T.length-1)).kind=3)(hi:i<T.length)(hk:(tk T i).kind≠3):On T i (.ok a (nx T i)):=fun b j e=>by obtain⟨h1,h2⟩:=Qu hl hi hk;cases e;omega
theorem On.fail{α:Type}(e:Nat):On T i (fail T e i:Out α):=fun _ _ e=>by cases e
theorem Yg(hl:(tk T (T.length-1)).kind=3)(s:List UInt8)(hi:i<T.length):On T i (need T s i):=by
 unfold need;split
 ·rename_i h;exact On.step hl hi (Q9 h)
 ·exact On.fail _
theorem Q2t(hl:(tk T (T.length-1)).kind=3)(hi:i<T.length):On T i (name res T i):=by
 unfold name;split
 ·exact On.fail _
 ·rename_i h
  refine On.step hl hi fun e=>h (.inl ?_)
  rw[e];decide
theorem Zo(hl:(tk T (T.length-1)).kind=3)(hi:i<T.length):On T i (number T i):=by
 unfold number;split
 ·exact On.fail _
 ·rename_i h
  refine On.step hl hi fun e=>h ?_
  rw[e];decide
theorem On.behind{α:Type}{o:Out α}(hl:(tk T (T.length-1)).kind=3)(hi:i<T.length)(hk:(tk T i).kind≠3)(h:∀j,i<j->j<T.length->nx T i=j->On0 T j o):On T i o:=fun a j e=>by obtain⟨h1,h2⟩:=Qu hl hi hk;obtain⟨h3,h4⟩:=h (i+1) (by omega) h2 h1 a j e;exact⟨by omega,h4⟩
def OnR(T:List Tok)(r:Rd):Prop:=∀lv i,i<T.length->On T i (r lv i)
theorem Q37{r:Rd}(hr:OnR T r)(hi:i<T.length):On T i (within T r lv i):=by
 unfold within;split
 ·exact On.fail _
 ·exact hr _ _ hi
theorem Q66{r:Rd}(hl:(tk T (T.length-1)).kind=3)(hr:OnR T r)(hi:i<T.length):On T i (parens T r lv i):=(Yg hl _ hi).bind fun _ _ _ h=>((Q37 hr h).bind fun _ _ _ h=>((Yg hl _ h).bind fun _ _ _ h=>On0.ok h).zero).zero
theorem Qkf{rs:List Rd}(hl:(tk T (T.length-1)).kind=3)(hr:∀r∈rs,OnR T r):∀i,i<T.length->On0 T i (Qj.argsMore T rs lv i):=by
 induction rs with
 | nil=>intro i hi;exact On0.ok hi
 | cons r rs ih=>intro i hi;exact((Yg hl _ hi).bind fun _ _ _ h=>((hr r (A6 ..) _ _ h).bind fun _ _ _ h=>(ih (fun r h=>hr r (Ae _ h)) _ h).bind fun _ _ _ h=>On0.ok h).zero).zero
theorem Qc3{rs:List Rd}(hl:(tk T (T.length-1)).kind=3)(hr:∀r∈rs,OnR T r)(hi:i<T.length):On0 T i (Qj T rs lv i):=by
 cases rs with
 | nil=>exact On0.ok hi
 | cons r rs=>exact((hr r (A6 ..) _ _ hi).bind fun _ _ _ h=>(Qkf hl (fun r h=>hr r (Ae _ h)) _ h).bind fun _ _ _ h=>On0.ok h).zero
theorem Q3g{rs:List Rd}{w:Tok}(hl:(tk T (T.length-1)).kind=3)(hr:∀r∈rs,OnR T r)(hi:i<T.length):On T i (arguments T w rs lv i):=
 (Yg hl _ hi).bind fun _ _ _ h=>by
  split
  ·exact(On.fail _).zero
  ·exact(Qc3 hl hr h).bind fun _ _ _ h=>((Yg hl _ h).bind fun _ _ _ h=>On0.ok h).zero
theorem Qny{r:Rd}{ops:List (List UInt8)}(hl:(tk T (T.length-1)).kind=3)(hr:OnR T r)(g:Nat):∀x i,i<T.length->On0 T i (Ju T r ops lv g x i):=by
 induction g with
 | zero=>intro x i _ a j e;cases e
 | succ g ih=>
  intro x i hi;unfold Ju;split
  ·rename_i h
   refine(On.behind hl hi (Q9 h) fun j h1 h2 e=>?_).zero;rw[e];exact((hr _ _ h2).bind fun _ _ _ h=>ih _ _ h).zero
  ·exact On0.ok hi
theorem Q21{r:Rd}{ops:List (List UInt8)}(hl:(tk T (T.length-1)).kind=3)(hr:OnR T r):OnR T (left T r ops):=fun _ _ hi=>(hr _ _ hi).bind fun _ _ _ h=>Qny hl hr _ _ _ h
theorem Qhp(hl:(tk T (T.length-1)).kind=3)(g:Nat):∀xs i,i<T.length->On0 T i (Jz T g xs i):=by
 induction g with
 | zero=>intro x i _ a j e;cases e
 | succ g ih=>
  intro x i hi;unfold Jz;split
  ·rename_i h
   refine(On.behind hl hi (Q9 h) fun j h1 h2 e=>?_).zero;rw[e];exact((Zo hl h2).bind fun _ _ _ h=>ih _ _ h).zero
  ·exact On0.ok hi
theorem Q6l(hl:(tk T (T.length-1)).kind=3)(hi:i<T.length):On T i (setR T i):=by
 unfold setR;split
 ·rename_i h;exact On.step hl hi (Q9 h)
 ·refine(Yg hl _ hi).bind fun _ j _ hj=>?_
  split
  ·rename_i h;exact(On.step hl hj (Q9 h)).zero
  ·exact((Zo hl hj).bind fun _ _ _ h=>(Qhp hl _ _ _ h).bind fun _ _ _ h=>((Yg hl _ h).bind fun _ _ _ h=>On0.ok h).zero).zero
theorem Qf1{r:Rd}(hl:(tk T (T.length-1)).kind=3)(hr:OnR T r)(hi:i<T.length)(hk:(tk T i).kind≠3):On T i (notR T r lv i):=On.behind hl hi hk fun j _ h2 e=>by unfold notR;rw[e];exact((Q37 hr h2).bind fun _ _ _ h=>On0.ok h).zero
theorem Q1g(hl:(tk T (T.length-1)).kind=3)(f:Nat):∀nt,OnR T (rd res T f nt):=by
 induction f with
 | zero=>intro nt lv i _ a j e;cases e
 | succ f ih=>
  intro nt;cases nt with
  | cond=>exact Q21 hl (ih _)
  | conj=>exact Q21 hl (ih _)
  | sum=>exact Q21 hl (ih _)
  | scheme=>exact Q21 hl (ih _)
  | term=>exact Q21 hl (ih _)
  | disj=>exact Q21 hl (ih _)
  | meet=>exact Q21 hl (ih _)
  | neg=>
   intro lv i hi;show On T i (if _ then _ else if _ then _ else _);split
   ·rename_i h;exact Qf1 hl (ih _) hi (Q9 h)
   ·split
    ·rename_i h
     refine On.behind hl hi (Q9 h) fun j _ h2 e=>?_
     rw[e];exact((Q2t hl h2).bind fun _ _ _ h=>((Yg hl _ h).bind fun _ _ _ h=>((Q37 (ih _) h).bind fun _ _ _ h=>On0.ok h).zero).zero).zero
    ·refine(ih .sum lv i hi).bind fun x j _ hj=>?_
     split
     ·rename_i h
      refine(On.behind hl hj (Q9 h) fun k _ h2 e=>?_).zero;rw[e];exact((ih .sum lv _ h2).bind fun _ _ _ h=>On0.ok h).zero
     ·exact On0.ok hj
  | unit=>
   intro lv i hi;show On T i (if _ then _ else if _ then _ else if _ then _ else if _ then _ else if _ then _ else _);split
   ·exact Zo hl hi
   ·split
    ·rename_i h
     refine On.behind hl hi (Q9 h) fun j _ h2 e=>?_
     rw[e];exact(Q3g hl (fun r hr=>by rw[Ag.1 hr];exact ih _) h2).zero
    ·split
     ·rename_i h
      refine On.behind hl hi (Q9 h) fun j _ h2 e=>?_
      rw[e];exact(Q3g hl (fun r hr=>by simp only[A8,A5,or_false,or_self]at hr;rw[hr];exact ih _) h2).zero
     ·split
      ·rename_i h
       refine On.behind hl hi (Q9 h) fun j _ h2 e=>?_
       rw[e];exact((Q2t hl h2).bind fun _ _ _ h=>((Q66 hl (ih _) h).bind fun _ _ _ h=>On0.ok h).zero).zero
      ·split
       ·exact Q66 hl (ih _) hi
       ·exact Q2t hl hi
  | factor=>
   intro lv i hi;refine(ih .atom lv i hi).bind fun x j _ hj=>?_
   split
   ·rename_i h
    refine(On.behind hl hj (Q9 h) fun k _ h2 e=>?_).zero;rw[e];exact((Zo hl h2).bind fun _ _ _ h=>((Q37 (ih _) h).bind fun _ _ _ h=>On0.ok h).zero).zero
   ·exact On0.ok hj
  | atom=>
   intro lv i hi;show On T i (if _ then _ else if _ then _ else if _ then _ else if _ then _ else _);split
   ·rename_i h
    refine On.behind hl hi (Q9 h) fun j _ h2 e=>?_
    rw[e];exact(Q3g hl (fun r hr=>by rw[Ag.1 hr];exact fun _ _ h=>Zo hl h) h2).zero
   ·split
    ·rename_i h;exact On.step hl hi (Q9 h)
    ·split
     ·rename_i h
      refine On.behind hl hi (Q9 h) fun j _ h2 e=>?_
      rw[e];exact(Q3g hl (fun r hr=>by rw[Ag.1 hr];exact ih _) h2).zero
     ·split
      ·exact Q66 hl (ih _) hi
      ·exact Q2t hl hi
  | formula=>
   intro lv i hi;refine(ih .disj lv i hi).bind fun x j _ hj=>?_
   split
   ·rename_i h
    refine(On.behind hl hj (Q9 h) fun k _ h2 e=>?_).zero;rw[e];exact((Q37 (ih _) h2).bind fun _ _ _ h=>On0.ok h).zero
   ·exact On0.ok hj
  | lit=>
   intro lv i hi;show On T i (if _ then _ else if _ then _ else if _ then _ else if _ then _ else if _ then _ else if _ then _ else if _ then _ else if _ then _ else _);have aV:∀rs,isW T rs i=true->∀rds:List Rd,(∀r∈rds,OnR T r)->On T i (arguments T (tk T i) rds lv (nx T i)):=fun rs h rds hr=>On.behind hl hi (Q9 h) fun j _ h2 e=>by rw[e];exact(Q3g hl hr h2).zero
   have aj:OnR T (fun _=>number T):=fun _ _ h=>Zo hl h
   have du:OnR T (fun _=>setR T):=fun _ _ h=>Q6l hl h
   split
   ·rename_i h;exact Qf1 hl (ih _) hi (Q9 h)
   ·split
    ·rename_i h;exact On.step hl hi (Q9 h)
    ·split
     ·exact Q66 hl (ih _) hi
     ·split
      ·rename_i h;exact aV _ h _ fun r hr=>by simp only[A8,A5,or_false,or_self]at hr;rw[hr];exact aj
      ·split
       ·rename_i h;exact aV _ h _ fun r hr=>by rw[Ag.1 hr];exact aj
       ·split
        ·rename_i h;exact aV _ h _ fun r hr=>by
          simp only[A8,A5,or_false]at hr;rcases hr with rfl|rfl
          ·exact aj
          ·exact ih _
        ·split
         ·rename_i h;exact aV _ h _ fun r hr=>by
           simp only[A8,A5,or_false]at hr;rcases hr with rfl|rfl
           ·exact du
           ·exact ih _
         ·split
          ·rename_i h;exact aV _ h _ fun r hr=>by rw[Ag.1 hr];exact ih _
          ·exact On.fail _
end
end
section
def OkR(T:List Tok)(m:Nat)(r:Rd):Prop:=∀lv i,m<=i->i<T.length->r lv i≠.none
section
variable {T:List Tok} {m i lv:Nat} {res:List UInt8->Bool}
theorem Qs{α β:Type}{o:Out α}{f:α->Nat->Out β}(h:o≠.none)(hf:∀a j,o=.ok a j->f a j≠.none):o.bind f≠.none:=by
 cases o with
 | none=>exact absurd rfl h
 | err p e=>intro h;cases h
 | ok a j=>exact hf a j rfl
theorem Jk{α:Type}(a:α)(j:Nat):(Out.ok a j)≠.none:=fun h=>by cases h
theorem Q5x{α:Type}(e j:Nat):(fail T e j:Out α)≠.none:=fun h=>by cases h
theorem Q1e(s:List UInt8)(i:Nat):need T s i≠.none:=by unfold need;split<;>(intro h;cases h)
theorem Q5v(i:Nat):name res T i≠.none:=by unfold name;split<;>(intro h;cases h)
theorem Q44(i:Nat):number T i≠.none:=by unfold number;split<;>(intro h;cases h)
theorem Q4v{r:Rd}(hr:OkR T m r)(hm:m<=i)(hi:i<T.length):within T r lv i≠.none:=by
 unfold within;split
 ·exact Q5x _ _
 ·exact hr _ _ hm hi
theorem Q65{r:Rd}(hl:(tk T (T.length-1)).kind=3)(hr:OkR T m r)(hm:m<=i+1)(hi:i<T.length):parens T r lv i≠.none:=Qs (Q1e _ _) fun _ j h=>by obtain⟨h1,h2⟩:=Yg hl _ hi _ _ h;exact Qs (Q4v hr (by omega) h2) fun _ _ _=>Qs (Q1e _ _) fun _ _ _=>Jk _ _
theorem Qnx{r:Rd}{ops:List (List UInt8)}(hl:(tk T (T.length-1)).kind=3)(ho:OnR T r)(hr:OkR T m r)(g:Nat):∀x i,m<=i+1->i<T.length->T.length<g+i->Ju T r ops lv g x i≠.none:=by
 induction g with
 | zero=>intro x i _ h1 h2;omega
 | succ g ih=>
  intro x i hm hi hg;unfold Ju;split
  ·rename_i h
   obtain⟨e,h2⟩:=Qu hl hi (Q9 h);rw[e];exact Qs (hr _ _ hm h2) fun y j hy=>by obtain⟨h3,h4⟩:=ho _ _ h2 _ _ hy;exact ih _ _ (by omega) h4 (by omega)
  ·exact Jk _ _
theorem Q20{r:Rd}{ops:List (List UInt8)}(hl:(tk T (T.length-1)).kind=3)(ho:OnR T r)(hr:OkR T m r):OkR T m (left T r ops):=fun lv i hm hi=>Qs (hr _ _ hm hi) fun x j hx=>by obtain⟨h3,h4⟩:=ho _ _ hi _ _ hx;exact Qnx hl ho hr _ _ _ (by omega) h4 (by omega)
theorem Qke{rs:List Rd}(hl:(tk T (T.length-1)).kind=3)(ho:∀r∈rs,OnR T r)(hr:∀r∈rs,OkR T m r):∀i,m<=i+1->i<T.length->Qj.argsMore T rs lv i≠.none:=by
 induction rs with
 | nil=>intro i _ _;exact Jk _ _
 | cons r rs ih=>intro i hm hi;exact Qs (Q1e _ _) fun _ j h=>by obtain⟨h1,h2⟩:=Yg hl _ hi _ _ h;exact Qs (hr r (A6 ..) _ _ (by omega) h2) fun _ k hk=>by obtain⟨h3,h4⟩:=ho r (A6 ..) _ _ h2 _ _ hk;exact Qs (ih (fun r h=>ho r (Ae _ h)) (fun r h=>hr r (Ae _ h)) _ (by omega) h4) fun _ _ _=>Jk _ _
theorem Qk9{rs:List Rd}(hl:(tk T (T.length-1)).kind=3)(ho:∀r∈rs,OnR T r)(hr:∀r∈rs,OkR T m r)(hm:m<=i)(hi:i<T.length):Qj T rs lv i≠.none:=by
 cases rs with
 | nil=>exact Jk _ _
 | cons r rs=>exact Qs (hr r (A6 ..) _ _ hm hi) fun _ k hk=>by obtain⟨h3,h4⟩:=ho r (A6 ..) _ _ hi _ _ hk;exact Qs (Qke hl (fun r h=>ho r (Ae _ h)) (fun r h=>hr r (Ae _ h)) _ (by omega) h4) fun _ _ _=>Jk _ _
theorem Qki{rs:List Rd}{w:Tok}(hl:(tk T (T.length-1)).kind=3)(ho:∀r∈rs,OnR T r)(hr:∀r∈rs,OkR T m r)(hm:m<=i+1)(hi:i<T.length):arguments T w rs lv i≠.none:=
 Qs (Q1e _ _) fun _ j h=>by
  obtain⟨h1,h2⟩:=Yg hl _ hi _ _ h;split
  ·exact Q5x _ _
  ·exact Qs (Qk9 hl ho hr (by omega) h2) fun _ _ _=>Qs (Q1e _ _) fun _ _ _=>Jk _ _
theorem Qup(hl:(tk T (T.length-1)).kind=3)(g:Nat):∀xs i,i<T.length->T.length<g+i->Jz T g xs i≠.none:=by
 induction g with
 | zero=>intro x i h1 h2;omega
 | succ g ih=>
  intro x i hi hg;unfold Jz;split
  ·rename_i h
   obtain⟨e,h2⟩:=Qu hl hi (Q9 h);rw[e];exact Qs (Q44 _) fun y j hy=>by obtain⟨h3,h4⟩:=Zo hl h2 _ _ hy;exact ih _ _ h4 (by omega)
  ·exact Jk _ _
theorem Qut(hl:(tk T (T.length-1)).kind=3)(hi:i<T.length):setR T i≠.none:=by
 unfold setR;split
 ·exact Jk _ _
 ·exact Qs (Q1e _ _) fun _ j h=>by
   obtain⟨h1,h2⟩:=Yg hl _ hi _ _ h;split
   ·exact Jk _ _
   ·exact Qs (Q44 _) fun _ k hk=>by obtain⟨h3,h4⟩:=Zo hl h2 _ _ hk;exact Qs (Qup hl _ _ _ h4 (by omega)) fun _ _ _=>Qs (Q1e _ _) fun _ _ _=>Jk _ _
def rank:NT->Nat
 | .cond=>5|.conj=>4|.neg=>3|.sum=>2|.unit=>1
 | .scheme=>4|.term=>3|.factor=>2|.atom=>1
 | .formula=>4|.disj=>3|.meet=>2|.lit=>1
theorem Qf0{r:Rd}(hl:(tk T (T.length-1)).kind=3)(hr:OkR T m r)(hm:m<=i+1)(hi:i<T.length)(hk:(tk T i).kind≠3):notR T r lv i≠.none:=by obtain⟨e,h2⟩:=Qu hl hi hk;unfold notR;rw[e];exact Qs (Q4v hr hm h2) fun _ _ _=>Jk _ _
theorem Qs6(hl:(tk T (T.length-1)).kind=3)(f:Nat):∀nt lv i,i<T.length->16*(T.length-i)+rank nt<=f->rd res T f nt lv i≠.none:=by
 induction f with
 | zero=>intro nt lv i _ h;cases nt<;>simp[rank]at h
 | succ f ih=>
  intro nt lv i hi hf;have on:∀nt,OnR T (rd res T f nt):=Q1g hl f;have hs:∀nt',rank nt'<rank nt->OkR T i (rd res T f nt'):=fun nt' h lv j h1 h2=>ih nt' lv j h2 (by omega)
  have hn:∀nt',OkR T (i+1) (rd res T f nt'):=fun nt' lv j h1 h2=>ih nt' lv j h2 (by
   have:rank nt'<=5:=by cases nt'<;>decide
   omega)
  have num:OkR T (i+1) (fun _=>number T):=fun _ _ _ _=>Q44 _
  have set:OkR T (i+1) (fun _=>setR T):=fun _ _ _ h=>Qut hl h
  have onum:OnR T (fun _=>number T):=fun _ _ h=>Zo hl h
  have oset:OnR T (fun _=>setR T):=fun _ _ h=>Q6l hl h
  have aV:∀ws,isW T ws i=true->∀rds:List Rd,(∀r∈rds,OnR T r/\OkR T (i+1) r)->arguments T (tk T i) rds lv (nx T i)≠.none:=fun ws h rds hr=>by obtain⟨e,h2⟩:=Qu hl hi (Q9 h);rw[e];exact Qki hl (fun r h=>(hr r h).1) (fun r h=>(hr r h).2) (by omega) h2
  have one:∀{r:Rd},OnR T r/\OkR T (i+1) r->∀x∈[r],OnR T x/\OkR T (i+1) x:=fun h x hx=>by rw[Ag.1 hx];exact h
  have two:∀{r r':Rd},OnR T r/\OkR T (i+1) r->OnR T r'/\OkR T (i+1) r'->∀x∈[r,r'],OnR T x/\OkR T (i+1) x:=fun h h' x hx=>by
   simp only[A8,A5,or_false]at hx;rcases hx with rfl|rfl
   ·exact h
   ·exact h'
  cases nt with
  | cond=>exact Q20 hl (on _) (hs _ (by decide)) _ _ (A4 _) hi
  | conj=>exact Q20 hl (on _) (hs _ (by decide)) _ _ (A4 _) hi
  | sum=>exact Q20 hl (on _) (hs _ (by decide)) _ _ (A4 _) hi
  | scheme=>exact Q20 hl (on _) (hs _ (by decide)) _ _ (A4 _) hi
  | term=>exact Q20 hl (on _) (hs _ (by decide)) _ _ (A4 _) hi
  | disj=>exact Q20 hl (on _) (hs _ (by decide)) _ _ (A4 _) hi
  | meet=>exact Q20 hl (on _) (hs _ (by decide)) _ _ (A4 _) hi
  | neg=>
   show(if _ then _ else if _ then _ else _:Out Syn)≠.none;split
   ·rename_i h;exact Qf0 hl (hn _) (A4 _) hi (Q9 h)
   ·split
    ·rename_i h
     obtain⟨e,h2⟩:=Qu hl hi (Q9 h);rw[e];exact Qs (Q5v _) fun _ j hj=>Qs (Q1e _ _) fun _ k hk=>by obtain⟨h3,h4⟩:=Q2t hl h2 _ _ hj;obtain⟨h5,h6⟩:=Yg hl _ h4 _ _ hk;exact Qs (Q4v (hn _) (by omega) h6) fun _ _ _=>Jk _ _
    ·exact Qs (hs .sum (by decide) _ _ (A4 _) hi) fun x j hx=>by
      obtain⟨h3,h4⟩:=on .sum _ _ hi _ _ hx;split
      ·rename_i h
       obtain⟨e,h2⟩:=Qu hl h4 (Q9 h);rw[e];exact Qs (hn .sum _ _ (by omega) h2) fun _ _ _=>Jk _ _
      ·exact Jk _ _
  | unit=>
   show(if _ then _ else if _ then _ else if _ then _ else if _ then _ else if _ then _ else _:Out Syn)≠.none;split
   ·exact Q44 _
   ·split
    ·rename_i h;exact aV _ h _ (one ⟨on _,hn _⟩)
    ·split
     ·rename_i h;exact aV _ h _ (two ⟨on _,hn _⟩ ⟨on _,hn _⟩)
     ·split
      ·rename_i h
       obtain⟨e,h2⟩:=Qu hl hi (Q9 h);rw[e];exact Qs (Q5v _) fun _ j hj=>by obtain⟨h3,h4⟩:=Q2t hl h2 _ _ hj;exact Qs (Q65 hl (hn _) (by omega) h4) fun _ _ _=>Jk _ _
      ·split
       ·exact Q65 hl (hn _) (A4 _) hi
       ·exact Q5v _
  | factor=>
   exact Qs (hs .atom (by decide) _ _ (A4 _) hi) fun x j hx=>by
    obtain⟨h3,h4⟩:=on .atom _ _ hi _ _ hx;split
    ·rename_i h
     obtain⟨e,h2⟩:=Qu hl h4 (Q9 h);rw[e];exact Qs (Q44 _) fun _ k hk=>by obtain⟨h5,h6⟩:=Zo hl h2 _ _ hk;exact Qs (Q4v (hn .factor) (by omega) h6) fun _ _ _=>Jk _ _
    ·exact Jk _ _
  | atom=>
   show(if _ then _ else if _ then _ else if _ then _ else if _ then _ else _:Out Syn)≠.none;split
   ·rename_i h;exact aV _ h _ (one ⟨onum,num⟩)
   ·split
    ·exact Jk _ _
    ·split
     ·rename_i h;exact aV _ h _ (one ⟨on _,hn _⟩)
     ·split
      ·exact Q65 hl (hn _) (A4 _) hi
      ·exact Q5v _
  | formula=>
   exact Qs (hs .disj (by decide) _ _ (A4 _) hi) fun x j hx=>by
    obtain⟨h3,h4⟩:=on .disj _ _ hi _ _ hx;split
    ·rename_i h
     obtain⟨e,h2⟩:=Qu hl h4 (Q9 h);rw[e];exact Qs (Q4v (hn .formula) (by omega) h2) fun _ _ _=>Jk _ _
    ·exact Jk _ _
  | lit=>
   show(if _ then _ else if _ then _ else if _ then _ else if _ then _ else if _ then _ else if _ then _ else if _ then _ else if _ then _ else _:Out Syn)≠.none;split
   ·rename_i h;exact Qf0 hl (hn _) (A4 _) hi (Q9 h)
   ·split
    ·exact Jk _ _
    ·split
     ·exact Q65 hl (hn _) (A4 _) hi
     ·split
      ·rename_i h;exact aV _ h _ (two ⟨onum,num⟩ ⟨onum,num⟩)
      ·split
       ·rename_i h;exact aV _ h _ (one ⟨onum,num⟩)
       ·split
        ·rename_i h;exact aV _ h _ (two ⟨onum,num⟩ ⟨on _,hn _⟩)
        ·split
         ·rename_i h;exact aV _ h _ (two ⟨oset,set⟩ ⟨on _,hn _⟩)
         ·split
          ·rename_i h;exact aV _ h _ (one ⟨on _,hn _⟩)
          ·exact Q5x _ _
end
end
section
structure St where
 i:Nat
 lv:Nat
 er:Int
 ps:Int
section
variable (res:List UInt8->Bool) (T:List Tok)
def Qc(s:St):St:=if s.er=0/\(tk T s.i).kind≠3 then⟨s.i+1,s.lv,s.er,s.ps⟩else s
def Qk(e:Int)(s:St):St:=if s.er=0 then⟨s.i,s.lv,e,(tk T s.i).pos⟩else s
def Q4(w:List UInt8)(s:St):St:=Qc T (if isW T [w] s.i then s else Qk T 4 s)
def Zc(i:Nat):Bool:=decide ((tk T i).kind=0)&&!res (tk T i).text
def Zb(s:St):Syn×St:=(.mk 8 (tk T s.i).text 0 (tk T s.i).pos [],Qc T (if Zc res T s.i then s else Qk T 4 s))
def Q1a:Int->List UInt8->Int
 | n,[]=>n
 | n,c::r=>if c.toNat<48∨57<c.toNat∨1048576<n then 0 else Q1a (10*n+((c.toNat:Int)-48)) r
def mVal(l:List UInt8):Int:=Q1a 0 l
def Qa(s:St):Syn×St:=(.mk 9 [] (mVal (tk T s.i).text) (tk T s.i).pos [],Qc T (if(tk T s.i).kind=1 then s else Qk T 4 s))
def mUp(s:St):St:=⟨s.i,s.lv+1,s.er,s.ps⟩
def Qi(s:St):St:=if 128<s.lv+1 then Qk T 12 (mUp s)else mUp s
def mPop(s:St):St:=⟨s.i,s.lv-1,s.er,s.ps⟩
abbrev MRd:=St->Option (Syn×St)
def Q0c(r:MRd)(ops:List (List UInt8)):Nat->Syn->St->Option (Syn×St)
 | 0,_,_=>none
 | g+1,x,s=>if s.er=0/\isW T ops s.i=true then(r (Qc T s)).bind fun p=>Q0c r ops g (binary (tk T s.i).text 0 x p.1) p.2 else some (x,s)
def Yf(r:MRd)(ops:List (List UInt8)):MRd:=fun s=>if s.er≠0 then some (Zp,s)else(r s).bind fun p=>Q0c T r ops (T.length+2) p.1 p.2
def Yp:Nat->List Syn->St->Option (List Syn×St)
 | 0,_,_=>none
 | g+1,xs,s=>if s.er=0/\isW T [[44]] s.i=true then Yp g (xs++[(Qa T (Qc T s)).1]) (Qa T (Qc T s)).2 else some (xs,s)
def mSet:MRd:=fun s=>
 if isW T [[101,118,101,114,121,111,110,101]] s.i then some (.mk 14 [101,118,101,114,121,111,110,101] 0 (tk T s.i).pos [],Qc T s)
 else if(Q4 T [123] s).er=0/\isW T [[125]] (Q4 T [123] s).i=false then
  (Yp T (T.length+2) [(Qa T (Q4 T [123] s)).1] (Qa T (Q4 T [123] s)).2).bind fun p=>some (.mk 14 [] 0 (tk T s.i).pos p.1,Q4 T [125] p.2)
 else some (.mk 14 [] 0 (tk T s.i).pos [],Q4 T [125] (Q4 T [123] s))
def Qt(fo:MRd)(w:List UInt8):St->Option (List Syn×St):=fun s=>
 if w=[105,110,112,117,116]∨w=[104,101,97,114,100]∨w=[100,101,99,105,100,101,100]then
  some ([(Qa T s).1,(Qa T (Q4 T [44] (Qa T s).2)).1],(Qa T (Q4 T [44] (Qa T s).2)).2)
 else if w=[103,105,118,101,110]∨w=[102,97,117,108,116,121]∨w=[97,116]then some ([(Qa T s).1],(Qa T s).2)
 else if w=[75]then(fo (Q4 T [44] (Qa T s).2)).bind fun p=>some ([(Qa T s).1,p.1],p.2)
 else if w=[69]∨w=[68]∨w=[67]then(mSet T s).bind fun q=>(fo (Q4 T [44] q.2)).bind fun p=>some ([q.1,p.1],p.2)
 else(fo s).bind fun p=>some ([p.1],p.2)
def mrd:Nat->NT->MRd
 | 0,_=>fun _=>none
 | f+1,.cond=>Yf T (mrd f .conj) [kOr]
 | f+1,.conj=>Yf T (mrd f .neg) [kAnd]
 | f+1,.neg=>fun s=>
  if s.er≠0 then some (Zp,s)
  else if isW T [kNot] s.i then(mrd f .neg (Qi T (Qc T s))).bind fun p=>some (.mk 12 [] 0 (tk T s.i).pos [p.1],mPop p.2)
  else if isW T [[97,108,108]] s.i=true∨isW T [[115,111,109,101]] s.i=true then
   (mrd f .cond (Qi T (Q4 T [58] (Zb res T (Qc T s)).2))).bind fun p=>some (.mk 13 (tk T s.i).text 0 (tk T s.i).pos [(Zb res T (Qc T s)).1,p.1],mPop p.2)
  else(mrd f .sum s).bind fun p=>
   if p.2.er=0/\isW T [[61],[33,61],[60],[60,61]] p.2.i=true then(mrd f .sum (Qc T p.2)).bind fun q=>some (binary (tk T p.2.i).text 0 p.1 q.1,q.2)
   else some p
 | f+1,.sum=>Yf T (mrd f .unit) [[43],[45]]
 | f+1,.unit=>fun s=>
  if s.er≠0 then some (Zp,s)
  else if(tk T s.i).kind=1 then some (Qa T s)
  else if Zc res T s.i then some (Zb res T s)
  else if isW T [[40]] s.i then(mrd f .cond (Qi T (Qc T s))).bind fun p=>some (p.1,Q4 T [41] (mPop p.2))
  else if isW T [[105,110]] s.i=true∨isW T [[111,117,116]] s.i=true then
   (mrd f .sum (Qi T (Q4 T [40] (Qc T s)))).bind fun p=>some (.mk 10 (tk T s.i).text 0 (tk T s.i).pos [p.1],Q4 T [41] (mPop p.2))
  else if isW T [[104,101,97,114,115]] s.i then
   (mrd f .sum (Qi T (Q4 T [40] (Qc T s)))).bind fun p=>(mrd f .sum (Q4 T [44] p.2)).bind fun q=>some (.mk 10 (tk T s.i).text 0 (tk T s.i).pos [p.1,q.1],Q4 T [41] (mPop q.2))
  else if isW T [[99,111,117,110,116]] s.i then
   (mrd f .cond (Qi T (Q4 T [40] (Zb res T (Qc T s)).2))).bind fun p=>some (.mk 13 (tk T s.i).text 0 (tk T s.i).pos [(Zb res T (Qc T s)).1,p.1],Q4 T [41] (mPop p.2))
  else some (.mk 10 (tk T s.i).text 0 (tk T s.i).pos [],Qk T 4 s)
 | f+1,.scheme=>Yf T (mrd f .term) [kOr]
 | f+1,.term=>Yf T (mrd f .factor) [kAnd]
 | f+1,.factor=>fun s=>
  if s.er≠0 then some (Zp,s)
  else(mrd f .atom s).bind fun p=>
   if p.2.er=0/\isW T [[116,104,101,110]] p.2.i=true then
    (mrd f .factor (Qi T (Qa T (Qc T p.2)).2)).bind fun q=>some (binary [116,104,101,110] (Qa T (Qc T p.2)).1.num p.1 q.1,mPop q.2)
   else some p
 | f+1,.atom=>fun s=>
  if Zc res T s.i then some (Zb res T s)
  else if isW T [[99,114,97,115,104],[115,101,110,100],[114,101,99,101,105,118,101],[111,109,105,116],[112,97,114,116,105,116,105,111,110]] s.i then
   some (.mk 10 (tk T s.i).text 0 (tk T s.i).pos [(Qa T (Qi T (Q4 T [40] (Qc T s)))).1],Q4 T [41] (mPop (Qa T (Qi T (Q4 T [40] (Qc T s)))).2))
  else if isW T [[115,110,97,112,115,104,111,116]] s.i then some (.mk 10 (tk T s.i).text 0 (tk T s.i).pos [],Qc T s)
  else if isW T [[103,114,97,112,104,115]] s.i then
   (mrd f .cond (Qi T (Q4 T [40] (Qc T s)))).bind fun p=>some (.mk 10 (tk T s.i).text 0 (tk T s.i).pos [p.1],Q4 T [41] (mPop p.2))
  else if isW T [[40]] s.i then(mrd f .scheme (Qi T (Qc T s))).bind fun p=>some (p.1,Q4 T [41] (mPop p.2))
  else some (.mk 10 (tk T s.i).text 0 (tk T s.i).pos [],Qk T 4 s)
 | f+1,.formula=>fun s=>(mrd f .disj s).bind fun p=>
  if p.2.er=0/\isW T [[117,110,116,105,108]] p.2.i=true then
   (mrd f .formula (Qi T (Qc T p.2))).bind fun q=>some (binary [117,110,116,105,108] 0 p.1 q.1,mPop q.2)
  else some p
 | f+1,.disj=>Yf T (mrd f .meet) [kOr]
 | f+1,.meet=>Yf T (mrd f .lit) [kAnd]
 | f+1,.lit=>fun s=>
  if s.er≠0 then some (Zp,s)
  else if isW T [kNot] s.i then(mrd f .lit (Qi T (Qc T s))).bind fun p=>some (.mk 12 [] 0 (tk T s.i).pos [p.1],mPop p.2)
  else if isW T [[116,114,117,101]] s.i then some (.mk 10 (tk T s.i).text 0 (tk T s.i).pos [],Qc T s)
  else if isW T [[40]] s.i then(mrd f .formula (Qi T (Qc T s))).bind fun p=>some (p.1,Q4 T [41] (mPop p.2))
  else if isW T [[105,110,112,117,116],[104,101,97,114,100],[100,101,99,105,100,101,100],[103,105,118,101,110],[102,97,117,108,116,121],[97,116],[75],[69],[68],[67],[110,101,120,116],[97,108,119,97,121,115],[101,118,101,110,116,117,97,108,108,121]] s.i then
   (Qt T (mrd f .formula) (tk T s.i).text (Qi T (Q4 T [40] (Qc T s)))).bind fun p=>some (.mk 10 (tk T s.i).text 0 (tk T s.i).pos p.1,Q4 T [41] (mPop p.2))
  else some (.mk 10 (tk T s.i).text 0 (tk T s.i).pos [],Qk T 4 s)
def Q40:St:=⟨0,0,0,0⟩
def mEnd(s:St):St:=if(tk T s.i).kind=3 then s else Qk T 4 s
def Q2r(r:MRd):Option (Syn×St):=(r Q40).bind fun p=>some (p.1,mEnd T p.2)
end
structure TokOk (T:List Tok):Prop where
 last:(tk T (T.length-1)).kind=3
 num:∀i,i<T.length->(tk T i).kind=1->mVal (tk T i).text=(dv 0 (tk T i).text:Nat)
 par:∀i,(tk T i).kind=0->(tk T i).text≠[40]
end
section
section
variable {res:List UInt8->Bool} {T:List Tok} {lv lv' i f:Nat} {a:Int}
theorem Qbo{r:Rd}(hr:r 0 0≠.none):whole T r≠.none:=by
 unfold whole;refine Qs hr fun _ _ _=>?_
 split
 ·exact Jk _ _
 ·exact Q5x _ _
end
end
theorem Qeg:∀(l:List UInt8) (n:Nat),(∀c∈l,Q6 c.toNat=true)->dv n l<=1048576->Q1a n l=(dv n l:Nat)
 | [],_,_,_=>rfl
 | c::r,n,hd,h=>by
  have hc:=hd c (by simp);simp only[Q6,Ai,decide_eq_true_eq]at hc;rw[Q13]at h⊢;have h1:=Q5c r (10*n+(c.toNat-48));have h2:0<10 ^ r.length:=Nat.pow_pos (by omega);have h3:10*n+(c.toNat-48)<=(10*n+(c.toNat-48))*10 ^ r.length:=Nat.le_mul_of_pos_right _ h2;rw[Q1a,if_neg (by omega)];have e:(10*(n:Int)+((c.toNat:Int)-48))=((10*n+(c.toNat-48):Nat):Int):=by omega
  rw[e];exact Qeg r _ (fun c h=>hd c (by simp[h])) h
theorem Qwd{l:List UInt8}{n:Nat}(h:tok l=.ok (0,n)):l.take n≠[40]:=by
 unfold tok at h;by_cases h1:Q0 Q2 l=0
 ·rw[if_pos h1]at h;split at h<;>simp at h
 rw[if_neg h1]at h;by_cases h2:Q0 Qv l=0
 ·rw[if_pos h2]at h
  split at h
  ·simp at h
  ·split at h<;>simp at h
 ·intro e
  cases l with
  | nil=>simp at e
  | cons c r=>
   cases n with
   | zero=>simp at e
   | succ n=>rw[BW]at e;have hc:c=40:=(List.cons.inj e).1;subst hc;exact h2 (by simp[Q0,Qv])
theorem Quf(f:Nat):∀(p:Nat) (l:List UInt8) (ts:List Tok),Qp f p l=.ok ts->∀t∈ts,t.kind=0->t.text≠[40]:=by
 induction f with
 | zero=>intro p l ts h;simp[Qp]at h;subst h;simp
 | succ f ih=>
  intro p l ts h;simp only[Qp]at h;split at h
  ·simp only[Except.ok.injEq]at h;subst h
   intro t ht;rw[Ag.1 ht];simp
  ·rename_i c r hd
   split at h
   ·simp at h
   ·rename_i kind n ht
    split at h
    ·simp at h
    ·rename_i us hu
     simp only[Except.ok.injEq]at h;subst h;intro t hm;rcases A8.1 hm with rfl|hm
     ·intro hk
      have bC:kind=0:=by simp only at hk;omega
      subst bC;exact Qwd ht
     ·exact ih _ _ _ hu t hm
theorem Que(f:Nat):∀(p:Nat) (l:List UInt8) (ts:List Tok),Qp f p l=.ok ts->ts.length<=l.length+1:=by
 induction f with
 | zero=>intro p l ts h;simp[Qp]at h;subst h;simp
 | succ f ih=>
  intro p l ts h;simp only[Qp]at h;split at h
  ·simp at h;subst h;simp
  ·rename_i c r hd
   have hlen:(c::r).length=l.length-skip false l:=by rw[<-hd];simp
   split at h
   ·simp at h
   ·rename_i kind n ht
    have hp:=Q02 ht;split at h
    ·simp at h
    ·rename_i us hus
     have:=ih _ _ _ hus;simp at h;subst h;simp only[Ar]at this;simp only[Ac]at *;omega
structure Scanned (s:List UInt8) (T:List Tok):Prop where
 ok:TokOk T
 pos:0<T.length
 len:T.length<=s.length+1
 num:∀t∈T,t.kind=1->t.text≠[]/\(∀c∈t.text,Q6 c.toNat=true)/\dv 0 t.text<=1048576
 txt:∀t∈T,t.text.length<=s.length
theorem Qii{T:List Tok}{i:Nat}(h:i<T.length):tk T i∈T:=by unfold tk;rw[As,Aj h];exact Ah h
theorem scanned{s:List UInt8}{T:List Tok}(h:scan s=.ok T):Scanned s T:=by
 unfold scan at h;split at h
 ·simp at h
 ·have h1:=Qug _ _ _ _ h
  obtain⟨a,t,rfl,hk⟩:=Qud _ _ _ _ (by omega) h;have hp:0<(a++[t]).length:=by simp
  refine⟨⟨?_,fun i hi hk=>?_,fun i hk=>?_⟩,hp,Que _ _ _ _ h,fun t ht=>(h1 t ht).1,fun t ht=>(h1 t ht).2⟩
  ·have:tk (a++[t]) ((a++[t]).length-1)=t:=by
    unfold tk;simp[As]
   rw[this];exact hk
  ·obtain⟨n0,n1,n2⟩:=(h1 _ (Qii hi)).1 hk
   exact Qeg _ 0 n1 n2
  ·rcases AR i (a++[t]).length with hi|hi
   ·exact Quf _ _ _ _ h _ (Qii hi) hk
   ·exfalso
    have:tk (a++[t]) i=Qbc:=by unfold tk;rw[As,Bb hi];rfl
    rw[this]at hk;revert hk;decide
section
inductive Small:Syn->Prop
 | mk {kd:Int} {tx:List UInt8} {n a:Int} {k:List Syn} (h:k.length<=1000000) (hk:∀z∈k,Small z):Small (.mk kd tx n a k)
section
variable {res:List UInt8->Bool} {T:List Tok} {lv i:Nat}
end
end
section
section
variable {P:Int->Int->Prop}
theorem Q0x{x y:Syn}(h:Twin P x y):Q1 x=Q1 y:=by
 cases h with
 | mk hp h=>cases h<;>rfl
theorem Qbl{x y:Syn}(h:Twin P x y):isNm x=isNm y:=by
 cases h with
 | mk hp h=>cases h<;>rfl
theorem Qbh{b:Syn->Bool}(hb:∀x y,Twin P x y->b x=b y):∀{k l:List Syn},TwinL P k l->k.all b=l.all b
 | _,_,.nil=>rfl
 | _,_,.cons h hr=>by rw[List.all_cons,List.all_cons,hb _ _ h,Qbh hb hr]
theorem Qwk{k l:List Syn}(h:TwinL P k l):k.isEmpty=l.isEmpty:=by cases h<;>rfl
theorem Qwm{x y:Syn}(h:Twin P x y):Qd x=Qd y:=by unfold Qd;rw[h.kind_eq,h.text_eq,h.num_eq,Qbh (fun _ _=>Q0x) h.kids_rel,Qwk h.kids_rel]
theorem Q0g{k:Nat}{x y:Syn}(h:Twin P x y):lvl k x=lvl k y:=by unfold lvl;rw[h.kind_eq,h.text_eq]
theorem Qiu{k l:List Syn}(h:TwinL P k l):(k.map fun x=>dec x.num.toNat)=l.map fun x=>dec x.num.toNat:=by
 match k,l,h with
 | _,_,.nil=>rfl
 | _,_,.cons h hr=>rw[AB,AB,h.num_eq,Qiu hr]
theorem Qbi{x y:Syn}(h:Twin P x y):warg x=warg y:=by unfold warg wset;rw[h.kind_eq,h.text_eq,h.num_eq,Qiu h.kids_rel]
theorem tw_c:∀(m:Nat) (x y:Syn),SizeOf.sizeOf x<m->Twin P x y->okc x=okc y/\wrc x=wrc y/\opn x=opn y:=by
 intro m;induction m with
 | zero=>intro x y h;omega
 | succ m ih=>
  intro x y hm h;cases h with
  | mk hp h=>
   simp only[Syn.mk.sizeOf_spec]at hm;cases h with
   | nil=>exact⟨rfl,rfl,rfl⟩
   | cons h hr=>
    cases hr with
    | nil=>
     simp only[Ba,BU]at hm;obtain⟨h1,h2,h3⟩:=ih _ _ (by omega) h;refine⟨?_,?_,?_⟩
     ·simp only[okc,h1]
     ·simp only[wrc,h2,Q0g h]
     ·simp only[opn,h3,Q0g h]
    | cons h' hr=>
     simp only[Ba]at hm;obtain⟨h1,h2,h3⟩:=ih _ _ (by omega) h;obtain⟨k1,k2,k3⟩:=ih _ _ (by omega) h';cases hr with
     | nil=>
      refine⟨?_,?_,?_⟩
      ·simp only[okc,h1,k1,Qbl h]
      ·simp only[wrc,h2,k2,Q0g h,Q0g h',h.text_eq,Qeb,h3]
      ·simp only[opn,k3,Q0g h']
     | cons=>exact⟨rfl,rfl,rfl⟩
theorem tw_s:∀(m:Nat) (x y:Syn),SizeOf.sizeOf x<m->Twin P x y->oks x=oks y/\wrs x=wrs y:=by
 intro m;induction m with
 | zero=>intro x y h;omega
 | succ m ih=>
  intro x y hm h;cases h with
  | mk hp h=>
   simp only[Syn.mk.sizeOf_spec]at hm;cases h with
   | nil=>exact⟨rfl,rfl⟩
   | cons h hr=>
    cases hr with
    | nil=>
     obtain⟨h1,h2,-⟩:=tw_c _ _ _ (Ab _) h;refine⟨?_,?_⟩
     ·simp only[oks,h1,Q0x h]
     ·simp only[wrs,h2]
    | cons h' hr=>
     simp only[Ba]at hm;obtain⟨h1,h2⟩:=ih _ _ (by omega) h;obtain⟨k1,k2⟩:=ih _ _ (by omega) h';cases hr with
     | nil=>
      refine⟨?_,?_⟩
      ·simp only[oks,h1,k1]
      ·simp only[wrs,h2,k2,Q0g h,Q0g h']
     | cons=>exact⟨rfl,rfl⟩
theorem tw_f:∀(m:Nat) (x y:Syn),SizeOf.sizeOf x<m->Twin P x y->okf x=okf y/\wrf x=wrf y:=by
 intro m;induction m with
 | zero=>intro x y h;omega
 | succ m ih=>
  intro x y hm h;cases h with
  | mk hp h=>
   simp only[Syn.mk.sizeOf_spec]at hm;cases h with
   | nil=>exact⟨rfl,rfl⟩
   | cons h hr=>
    cases hr with
    | nil=>
     simp only[Ba,BU]at hm;obtain⟨h1,h2⟩:=ih _ _ (by omega) h;refine⟨?_,?_⟩
     ·simp only[okf,h1,Q0x h]
     ·simp only[wrf,h2,Q0g h,Qbi h]
    | cons h' hr=>
     simp only[Ba]at hm;obtain⟨h1,h2⟩:=ih _ _ (by omega) h;obtain⟨k1,k2⟩:=ih _ _ (by omega) h';cases hr with
     | nil=>
      refine⟨?_,?_⟩
      ·simp only[okf,h1,k1,Q0x h,Q0x h',Qwm h]
      ·simp only[wrf,h2,k2,Q0g h,Q0g h',Qbi h,Qbi h']
     | cons=>exact⟨rfl,rfl⟩
theorem Qiw{x y:Syn}(h:Twin P x y):okc x=okc y:=(tw_c _ _ _ (Ab _) h).1
theorem Qiz{x y:Syn}(h:Twin P x y):wrc x=wrc y:=(tw_c _ _ _ (Ab _) h).2.1
theorem Qiy{x y:Syn}(h:Twin P x y):oks x=oks y:=(tw_s _ _ _ (Ab _) h).1
theorem Qj1{x y:Syn}(h:Twin P x y):wrs x=wrs y:=(tw_s _ _ _ (Ab _) h).2
theorem Qix{x y:Syn}(h:Twin P x y):okf x=okf y:=(tw_f _ _ _ (Ab _) h).1
theorem Qj0{x y:Syn}(h:Twin P x y):wrf x=wrf y:=(tw_f _ _ _ (Ab _) h).2
theorem Q6w{k:Int}{x y:Syn}(h:Twin P x y):Y3 k x=Y3 k y:=by
 unfold Y3;rw[h.kind_eq,h.text_eq,h.num_eq];have:=h.kids_rel;revert this;generalize x.kids=l;generalize y.kids=m;intro h;cases h with
 | nil=>rfl
 | cons h hr=>cases hr with
  | nil=>simp only[Qiw h]
  | cons=>rfl
theorem Qwn{k l:List Syn}(h:TwinL P k l):Q6q k=Q6q l:=by
 have e:∀(a b:Bool) {k l:List Syn},a=b->TwinL P k l->(a&&match some k with|none=>false|some []=>false|some [b]=>Y3 3 b|some [b,c]=>Y3 3 b&&Y3 4 c|some (_::_::_::_)=>false) =
   (b&&match some l with|none=>false|some []=>false|some [b]=>Y3 3 b|some [b,c]=>Y3 3 b&&Y3 4 c|some (_::_::_::_)=>false):=by
  intro a b k l e h;subst e;cases h with
  | nil=>rfl
  | cons h hr=>cases hr with
   | nil=>simp only[Q6w h]
   | cons h' hr=>cases hr with
    | nil=>simp only[Q6w h,Q6w h']
    | cons=>rfl
 cases h with
 | nil=>rfl
 | cons h hr=>
  unfold Q6q;cases hr with
  | nil=>exact e _ _ (Q0x h) .nil
  | cons h' hr=>
   rename_i y' _ _;simp only[h'.kind_eq,Q6w (k:=2) h'];by_cases hk:y'.kind=2
   ·simp only[hk,if_true]
    cases Y3 2 y'
    ·simp[Q0x h]
    ·exact e _ _ (Q0x h) hr
   ·simp only[hk,if_false]
    exact e _ _ (Q0x h) (.cons h' hr)
theorem Qwj{x y:Syn}(h:Twin P x y):Q5a x=Q5a y:=by
 unfold Q5a;rw[h.kind_eq,h.text_eq,h.num_eq];have hk:=h.kids_rel;rw[Qwn hk];revert hk;generalize x.kids=l;generalize y.kids=m;intro h;cases h with
 | nil=>rfl
 | cons h hr=>cases hr with
  | nil=>simp only[Qiy h,Qix h]
  | cons h' hr=>cases hr with
   | nil=>simp only[Qbl h,Qbl h']
   | cons=>rfl
theorem Qwl{x y:Syn}(h:Twin P x y):Q69 x=Q69 y:=by unfold Q69;rw[h.kind_eq,h.text_eq,h.num_eq,Qbh (fun _ _=>Qwj) h.kids_rel]
theorem Qbk{k l:List Syn}(h:TwinL P k l)(hP:P 0 0):Twin P (k.headD Zp) (l.headD Zp):=by
 cases h with
 | nil=>exact .mk hP .nil
 | cons h _=>exact h
theorem Qiv{k l:List Syn}(h:TwinL P k l):TwinL P (k.drop 1) (l.drop 1):=by
 cases h with
 | nil=>exact .nil
 | cons _ h=>exact h
theorem Qbj{f:Syn->List UInt8}(hf:∀x y,Twin P x y->f x=f y):∀{k l:List Syn},TwinL P k l->k.flatMap f=l.flatMap f
 | _,_,.nil=>rfl
 | _,_,.cons h hr=>by rw[List.flatMap_cons,List.flatMap_cons,hf _ _ h,Qbj hf hr]
theorem Qwp{x y:Syn}(hP:P 0 0)(h:Twin P x y):wpart x=wpart y:=by unfold wpart;have h0:=Qiz (Qbk h.kids_rel hP);unfold kid0;rw[h.kind_eq,h0]
theorem Qwo{x y:Syn}(hP:P 0 0)(h:Twin P x y):wdecl x=wdecl y:=by unfold wdecl kid0 kid1;have h0:=Qbk h.kids_rel hP;have h1:=Qbk (Qiv h.kids_rel) hP;rw[h.kind_eq,h.text_eq,h.num_eq,h0.num_eq,h0.text_eq,h1.text_eq,Qj1 h0,Qj0 h0,Qbj (fun _ _=>Qwp hP) (Qiv h.kids_rel)]
theorem Qwq{x y:Syn}(hP:P 0 0)(h:Twin P x y):wprog x=wprog y:=by unfold wprog;rw[h.num_eq,Qbj (fun _ _=>Qwo hP) h.kids_rel]
end
end
section
structure AlkT (T U:List Tok):Prop where
 len:T.length=U.length
 kind:∀i,(tk T i).kind=(tk U i).kind
 text:∀i,(tk T i).text=(tk U i).text
abbrev Any:Int->Int->Prop:=fun _ _=>True
def TwO{α β:Type}(R:α->β->Prop)(o:Out α)(u:Out β):Prop:=match o,u with|.none,.none=>True|.err _ e,.err _ f=>e=f|.ok a i,.ok b j=>i=j/\R a b|_,_=>False
theorem TwO.bind{α β γ δ:Type}{R:α->β->Prop}{Q:γ->δ->Prop}{o:Out α}{u:Out β}{f:α->Nat->Out γ}{g:β->Nat->Out δ}(h:TwO R o u)(hf:∀a b i,R a b->TwO Q (f a i) (g b i)):TwO Q (o.bind f) (u.bind g):=by
 cases o<;>cases u<;>simp only[TwO]at h
 ·exact h
 ·exact h
 ·obtain⟨rfl,h⟩:=h
  exact hf _ _ _ h
abbrev TwS(o u:Out Syn):Prop:=TwO (Twin Any) o u
section
variable {T U:List Tok} {res:List UInt8->Bool} {lv i:Nat}
theorem AlkT.isW(h:AlkT T U)(ws:List (List UInt8))(i:Nat):isW T ws i=Proofs.YtakdifceogdioaaGreatDoor.isW U ws i:=by unfold Proofs.YtakdifceogdioaaGreatDoor.isW;rw[h.kind,h.text]
theorem AlkT.nx(h:AlkT T U)(i:Nat):nx T i=Proofs.YtakdifceogdioaaGreatDoor.nx U i:=by unfold Proofs.YtakdifceogdioaaGreatDoor.nx;rw[h.len]
def KR(r q:Rd):Prop:=∀lv i,TwS (r lv i) (q lv i)
inductive KRs:List Rd->List Rd->Prop
 | nil:KRs [] []
 | cons {r q:Rd} {rs qs:List Rd} (h:KR r q) (hr:KRs rs qs):KRs (r::rs) (q::qs)
end
end
section
def Qmz:List (List (List UInt8)):=[[kOr],[kAnd],[[43],[45]],[[61],[33,61],[60],[60,61]],[[116,104,101,110]],[[117,110,116,105,108]],[[44]]]
structure SubT (T U:List Tok) (m d:Nat):Prop where
 len:T.length=m+1
 lst:(tk T m).kind=3
 inn:∀i,i<m->(tk T i).kind≠3
 ulen:m+d<U.length
 kind:∀i,i<m->(tk T i).kind=(tk U (i+d)).kind
 text:∀i,i<m->(tk T i).text=(tk U (i+d)).text
 stop:∀ws∈Qmz,isW U ws (m+d)=false
def SimO{α β:Type}(m d dl:Nat)(R:α->β->Prop)(o:Out α)(u:Out β):Prop:=
 match o with
 | .ok a j=>match u with|.ok b l=>j<=m/\l=j+d/\R a b|.err _ e=>e=12/\0<dl|.none=>False
 | _=>True
section
variable {T U:List Tok} {res:List UInt8->Bool} {lv i m d dl:Nat}
theorem SimO.bind{α β γ δ:Type}{R:α->β->Prop}{Q:γ->δ->Prop}{o:Out α}{u:Out β}{f:α->Nat->Out γ}{g:β->Nat->Out δ}(h:SimO m d dl R o u)(hf:∀a b j,j<=m->R a b->SimO m d dl Q (f a j) (g b (j+d))):SimO m d dl Q (o.bind f) (u.bind g):=by
 cases o with
 | none=>trivial
 | err p e=>trivial
 | ok a j=>
  cases u with
  | none=>exact h.elim
  | err p e=>
   show SimO m d dl Q (f a j) (.err p e);cases f a j with
   | none=>trivial
   | err p e=>trivial
   | ok b l=>exact h
  | ok b l=>obtain⟨h1,rfl,h2⟩:=h;exact hf _ _ _ h1 h2
theorem SubT.last(h:SubT T U m d):(tk T (T.length-1)).kind=3:=by rw[h.len,Nat.add_sub_cancel];exact h.lst
theorem SubT.isN(h:SubT T U m d)(ws:List (List UInt8)):isW T ws m=false:=by unfold isW;rw[h.lst];rfl
theorem SubT.lt(h:SubT T U m d){ws:List (List UInt8)}(hi:i<=m)(hw:isW T ws i=true):i<m:=by
 rcases AR i m with hl|hl
 ·exact hl
 ·obtain rfl:i=m:=by omega
  rw[h.isN]at hw;cases hw
theorem SubT.le(h:SubT T U m d):T.length<=U.length:=by have:=h.len;have:=h.ulen;omega
def BR(m d dl:Nat)(r q:Rd):Prop:=∀lv i,i<=m->SimO m d dl (Twin Any) (r lv i) (q (lv+dl) (i+d))
inductive BRs (m d dl:Nat):List Rd->List Rd->Prop
 | nil:BRs m d dl [] []
 | cons {r q:Rd} {rs qs:List Rd} (h:BR m d dl r q) (hr:BRs m d dl rs qs):BRs m d dl (r::rs) (q::qs)
end
end
abbrev KT:=Int×List UInt8
def kts(ts:List Tok):List KT:=ts.map fun t=>(t.kind,t.text)
abbrev Ye:KT:=(3,[])
def Lx(l:List UInt8)(K:List KT):Prop:=∀p,∃ts,Jo p l=.ok ts/\kts ts=K
theorem Qhc{l:List UInt8}{K:List KT}(h:Lx l K)(hl:l.length<=65536):∃T,scan l=.ok T/\kts T=K:=by obtain⟨T,h1,h2⟩:=h 0;exact⟨T,by rw[Qax hl];exact h1,h2⟩
theorem Qoo:Lx [] [Ye]:=fun p=>⟨_,Qaw p,rfl⟩
theorem Qee{x y:List UInt8}{k:Nat}{K:List KT}(ht:tok x=.ok (k,x.length))(hf:fits x y)(h:Lx y K):Lx (x++y) (((k:Int),x)::K):=by intro p;have am:=(tokClass ht).1;have hs:=Q6j (p:=p) (Qn6 ht y) (by simp[am]) (Qwc ht hf);rw[Bq (A4 _),BS,List.drop_append_of_le_length (A4 _),List.drop_length,B0]at hs;obtain⟨ms,h1,h2⟩:=h (p+x.length);rw[h1]at hs;exact⟨_,hs,by simp only[BO,kts,AB];rw[<-h2];rfl⟩
theorem Qop{x y:List UInt8}{K:List KT}(hs:skip false (x++y)=x.length+skip false y)(h:Lx y K):Lx (x++y) K:=by intro p;obtain⟨ms,h1,h2⟩:=h (p+x.length);refine⟨ms,?_,h2⟩;rw[Q2c,hs];rw[Q2c (p+x.length)]at h1;rw[List.drop_append,List.drop_of_length_le (by omega),B0,show x.length+skip false y-x.length=skip false y by omega,<-Nat.add_assoc];exact h1
theorem Qon{b:UInt8}{y:List UInt8}{K:List KT}(hb:Qr b.toNat=true)(h:Lx y K):Lx (b::y) K:=
 Qop (x:=[b]) (by
  have lm:¬ b.toNat=35:=by intro e;rw[e]at hb;revert hb;decide
  rw[BO,Qi2,if_neg lm,if_pos hb,List.length_singleton,Nat.add_comm]) h
theorem Qed{b:UInt8}{y:List UInt8}{K:List KT}(hb:b=40∨b=41∨b=59∨b=44∨b=58∨b=123∨b=125)(h:Lx y K):Lx (b::y) ((2,[b])::K):=Qee (x:=[b]) (k:=2) (by rcases hb with rfl|rfl|rfl|rfl|rfl|rfl|rfl<;>rfl) (fun c hc=>by rcases hb with rfl|rfl|rfl|rfl|rfl|rfl|rfl<;>exact⟨fun h=>absurd h (by decide),fun h=>absurd h.1 (by decide)⟩) h
theorem Qbd(T:List Tok)(i:Nat):(tk T i).kind=((kts T).getD i Ye).1:=by unfold tk kts;rw[As,As,B9];cases T[i]?<;>rfl
theorem Qij(T:List Tok)(i:Nat):(tk T i).text=((kts T).getD i Ye).2:=by unfold tk kts;rw[As,As,B9];cases T[i]?<;>rfl
theorem Q97(T:List Tok):(kts T).length=T.length:=by unfold kts;rw[List.length_map]
theorem Qn2{T:List Tok}(h:Good T):∃C,kts T=C++[Ye]/\∀x∈C,∃k:Nat,x.1=k/\tok x.2=.ok (k,x.2.length):=by
 induction T with
 | nil=>exact h.elim
 | cons t r ih=>
  rcases h with⟨h1,h2,rfl⟩|⟨h1,h2⟩
  ·exact⟨[],by simp[kts,h1,h2],fun x hx=>(A5 hx).elim⟩
  ·obtain⟨C,hC,hx⟩:=ih h2
   refine⟨(t.kind,t.text)::C,by simp only[kts,AB,AH];rw[<-hC];rfl,fun x hm=>?_⟩;rcases A8.1 hm with rfl|hm
   ·exact h1
   ·exact hx x hm
theorem Qhb{s:List UInt8}{T:List Tok}(h:scan s=.ok T):Good T:=by
 unfold scan at h;split at h
 ·cases h
 ·exact(Quc (s.length+1) 0 s T (by omega) h).1
def Toks(C:List KT):Prop:=∀x∈C,∃k:Nat,x.1=k/\tok x.2=.ok (k,x.2.length)
theorem Toks.kind{C:List KT}(h:Toks C){x:KT}(hx:x∈C):x.1≠3:=by obtain⟨k,h1,h2⟩:=h x hx;have:=Q35 h2;omega
theorem Qhd{s:List UInt8}{T:List Tok}(h:scan s=.ok T):∃C,kts T=C++[Ye]/\Toks C:=Qn2 (Qhb h)
section
section
variable {T:List Tok} {C lv i:Nat}
theorem Qf8{x:Syn}(h:Q1 x=true):natB x.num=true:=by unfold Q1 at h;simp only[Ai]at h;exact h.1.2
theorem Qp1(x:Syn):70+2*x.text.length<=mass x:=by rcases x with⟨a,b,c,d,e⟩;rw[Qm];simp only[Syn.text];omega
theorem Qx7{r:Rd}{ok:Syn->Bool}(h:WR C ok r):WO (QW C ok 0) (whole T r):=(h _ _).bind fun x i hx=>by
 split
 ·exact hx
 ·trivial
end
theorem Qui{s:List UInt8}{T:List Tok}(h:scan s=.ok T):TT (100+2*s.length) T/\T.length<=s.length+1:=by
 have hs:s.length<=65536:=by
  rcases AR 65536 s.length with h'|h'
  ·rw[scan,if_pos h']at h;cases h
  ·exact h'
 have hg:=Qhb h;have h1:∀t∈T,Qbu t/\t.text.length<=s.length:=fun t ht=>⟨(scanned h).num t ht,(scanned h).txt t ht⟩
 have h2:=Qng (Qn1 T hg);obtain⟨C,hC,hT⟩:=Qhd h;have hlen:T.length=C.length+1:=by rw[<-Q97,hC];simp
 have bt:∀i,(tk T i).kind≠3->tk T i∈T/\i<C.length:=by
  intro i hi;rcases AR i T.length with h'|h'
  ·refine⟨by unfold tk;rw[As,Aj h'];exact Ah h',?_⟩
   rcases AR i C.length with h''|h''
   ·exact h''
   ·exfalso
    have:i=C.length:=by omega
    subst this;apply hi;rw[Qbd,hC,As,BB (A4 _)];simp
  ·exfalso;apply hi;unfold tk;rw[As,Bb h'];rfl
 refine⟨⟨fun i hi=>by unfold nx;rw[if_pos (by have:=(bt i hi).2;omega)],fun i=>?_,fun i hi=>?_,fun i hi=>?_⟩,?_⟩
 ·by_cases hk:(tk T i).kind=3
  ·have:(tk T i).text.length<=s.length:=by
    rcases AR i T.length with h'|h'
    ·exact(h1 _ (by unfold tk;rw[As,Aj h'];exact Ah h')).2
    ·unfold tk;rw[As,Bb h'];simp[Qbc]
   omega
  ·have:=(h1 _ (bt i hk).1).2;omega
 ·have:=(h2 _ (bt i (by rw[hi];decide)).1).2.2
  rw[hi]at this;exact this
 ·exact((h1 _ (bt i (by rw[hi];decide)).1).1 hi).2.2
 ·exact(scanned h).len
end
section
structure Asc (n:Int) (T:List Tok):Prop where
 mono:∀i j,i<=j->j<T.length->(tk T i).pos<=(tk T j).pos
 low:∀i,i<T.length->0<=(tk T i).pos
 high:∀i,i<T.length->(tk T i).pos<=n
 inn:∀i,i<T.length->(tk T i).kind≠3->(tk T i).pos<n
inductive Ord (n:Int):Syn->Prop
 | mk {kd:Int} {tx:List UInt8} {m a:Int} {k:List Syn} (h:a<n) (hp:∀z∈k,a<=z.pos) (hk:∀z∈k,Ord n z):Ord n (.mk kd tx m a k)
def J0{α:Type}(n:Int)(T:List Tok)(P:α->Nat->Prop)(i:Nat)(o:Out α):Prop:=match o with|.none=>True|.err p e=>0<=p/\p<=n/\(e=4∨e=12)|.ok a j=>i<=j/\j<T.length/\P a j
section
variable {n:Int} {T:List Tok} {res:List UInt8->Bool} {lv i:Nat} {b:Int}
theorem J0.bind{α β:Type}{P:α->Nat->Prop}{Q:β->Nat->Prop}{o:Out α}{f:α->Nat->Out β}{k:Nat}(h:J0 n T P i o)(hk:k<=i)(hf:∀a j,i<=j->j<T.length->P a j->J0 n T Q k (f a j)):J0 n T Q k (o.bind f):=by
 cases o with
 | none=>trivial
 | err p e=>exact h
 | ok a j=>exact hf a j h.1 h.2.1 h.2.2
theorem J0.back{α:Type}{P Q:α->Nat->Prop}{o:Out α}{k:Nat}(h:J0 n T P i o)(hk:k<=i)(hf:∀a j,i<=j->j<T.length->P a j->Q a j):J0 n T Q k o:=by
 cases o with
 | none=>trivial
 | err p e=>exact h
 | ok a j=>exact⟨Am hk h.1,h.2.1,hf a j h.1 h.2.1 h.2.2⟩
theorem Ze:i<=nx T i:=by unfold nx;split<;>omega
theorem Zf(h:i<T.length):nx T i<T.length:=by unfold nx;split<;>omega
theorem Q1v{α:Type}{P:α->Nat->Prop}{e j k:Nat}(hA:Asc n T)(hj:j<T.length)(he:e=4∨e=12:=by decide):J0 n T P k (fail T e j:Out α):=⟨hA.low j hj,hA.high j hj,he⟩
theorem Z8{ws:List (List UInt8)}(h:isW T ws i=true):(tk T i).kind≠3:=by unfold isW at h;simp only[Ai,Bool.or_eq_true,decide_eq_true_eq]at h;omega
def SynG(n:Int)(T:List Tok)(b:Int)(x:Syn)(j:Nat):Prop:=b<=x.pos/\x.pos<=(tk T j).pos/\Ord n x
def Zk(n:Int)(b:Int)(xs:List Syn)(_:Nat):Prop:=∀z∈xs,b<=z.pos/\Ord n z
theorem Q1d{w:List UInt8}(hA:Asc n T)(hi:i<T.length):J0 n T (fun t j=>t=tk T i/\t.pos<n/\j=nx T i) i (need T w i):=by
 unfold need;split
 ·rename_i h
  exact⟨Ze,Zf hi,rfl,hA.inn i hi (Z8 h),rfl⟩
 ·exact Q1v hA hi
theorem Q2o{kd m a:Int}{tx:List UInt8}{j:Nat}(hb:b<=a)(hj:a<=(tk T j).pos)(hn:a<n):SynG n T b (.mk kd tx m a []) j:=⟨hb,hj,.mk hn (fun z h=>(A5 h).elim) (fun z h=>(A5 h).elim)⟩
theorem Q2u{kd m a:Int}{tx:List UInt8}{k:List Syn}{j l:Nat}(hb:b<=a)(hj:a<=(tk T j).pos)(hn:a<n)(hk:Zk n a k l):SynG n T b (.mk kd tx m a k) j:=⟨hb,hj,.mk hn (fun z h=>(hk z h).1) (fun z h=>(hk z h).2)⟩
theorem syns1{x:Syn}{j l:Nat}(h:SynG n T b x j):Zk n b [x] l:=fun z hz=>by rw[Ag.1 hz];exact⟨h.1,h.2.2⟩
theorem Zk.add{x:Syn}{xs:List Syn}{j k l:Nat}(hx:Zk n b xs j)(h:SynG n T b x k):Zk n b (xs++[x]) l:=fun z hz=>by
 rcases List.mem_append.1 hz with hz|hz
 ·exact hx z hz
 ·rw[Ag.1 hz];exact⟨h.1,h.2.2⟩
theorem Zk.cons{x:Syn}{xs:List Syn}{j k l:Nat}(h:SynG n T b x k)(hx:Zk n b xs j):Zk n b (x::xs) l:=fun z hz=>by
 rcases A8.1 hz with rfl|hz
 ·exact⟨h.1,h.2.2⟩
 ·exact hx z hz
theorem SynG.on{x:Syn}{j k:Nat}(hA:Asc n T)(h:SynG n T b x j)(hk:j<=k)(hl:k<T.length):SynG n T b x k:=⟨h.1,Int.le_trans h.2.1 (hA.mono j k hk hl),h.2.2⟩
theorem SynG.low{x:Syn}{j:Nat}{c:Int}(h:SynG n T b x j)(hc:c<=b):SynG n T c x j:=⟨Int.le_trans hc h.1,h.2⟩
theorem Q5u(hA:Asc n T)(hi:i<T.length)(hb:b<=(tk T i).pos):J0 n T (SynG n T b) i (name res T i):=by
 unfold name;split
 ·exact Q1v hA hi
 ·rename_i h
  exact⟨Ze,Zf hi,Q2o hb (hA.mono _ _ Ze (Zf hi)) (hA.inn i hi (by omega))⟩
theorem Q43(hA:Asc n T)(hi:i<T.length)(hb:b<=(tk T i).pos):J0 n T (SynG n T b) i (number T i):=by
 unfold number;split
 ·exact Q1v hA hi
 ·rename_i h
  exact⟨Ze,Zf hi,Q2o hb (hA.mono _ _ Ze (Zf hi)) (hA.inn i hi (by omega))⟩
def GR(n:Int)(T:List Tok)(r:Rd):Prop:=∀lv i b,i<T.length->b<=(tk T i).pos->J0 n T (SynG n T b) i (r lv i)
theorem Q4u{r:Rd}(hA:Asc n T)(h:GR n T r)(hi:i<T.length)(hb:b<=(tk T i).pos):J0 n T (SynG n T b) i (within T r lv i):=by
 unfold within;split
 ·exact Q1v hA hi
 ·exact h _ _ _ hi hb
theorem upto{j:Nat}(hA:Asc n T)(hb:b<=(tk T i).pos)(hj:i<=j)(hl:j<T.length):b<=(tk T j).pos:=Int.le_trans hb (hA.mono i j hj hl)
theorem Q64{r:Rd}(hA:Asc n T)(h:GR n T r)(hi:i<T.length)(hb:b<=(tk T i).pos):J0 n T (SynG n T b) i (parens T r lv i):=(Q1d hA hi).bind (A4 _) fun _ j hj hl _=>(Q4u hA h hl (upto hA hb hj hl)).bind hj fun x k hk dQ hx=>(Q1d hA dQ).bind (Am hj hk) fun _ m hm ej _=>⟨by omega,ej,hx.on hA hm ej⟩
theorem Qkd{rs:List Rd}(hA:Asc n T)(hr:∀r∈rs,GR n T r):∀i,i<T.length->b<=(tk T i).pos->J0 n T (Zk n b) i (Qj.argsMore T rs lv i):=by
 induction rs with
 | nil=>intro i hi hb;exact⟨A4 _,hi,fun z h=>(A5 h).elim⟩
 | cons r rs ih=>intro i hi hb;exact(Q1d hA hi).bind (A4 _) fun _ j hj hl _=>(hr r (A6 ..) _ _ _ hl (upto hA hb hj hl)).bind hj fun x k hk dQ hx=>(ih (fun r h=>hr r (Ae _ h)) _ dQ (upto hA hb (Am hj hk) dQ)).bind (Am hj hk) fun xs m hm ej cH=>⟨by omega,ej,Zk.cons hx cH⟩
theorem Qk8{rs:List Rd}(hA:Asc n T)(hr:∀r∈rs,GR n T r)(hi:i<T.length)(hb:b<=(tk T i).pos):J0 n T (Zk n b) i (Qj T rs lv i):=by
 cases rs with
 | nil=>exact⟨A4 _,hi,fun z h=>(A5 h).elim⟩
 | cons r rs=>exact(hr r (A6 ..) _ _ _ hi hb).bind (A4 _) fun x k hk dQ hx=>(Qkd hA (fun r h=>hr r (Ae _ h)) _ dQ (upto hA hb hk dQ)).bind hk fun xs m hm ej cH=>⟨by omega,ej,Zk.cons hx cH⟩
theorem Q7m{rs:List Rd}{w:Tok}(hA:Asc n T)(hr:∀r∈rs,GR n T r)(hi:i<T.length)(hb:b<=w.pos)(hw:w.pos<=(tk T i).pos)(hn:w.pos<n):J0 n T (SynG n T b) i (arguments T w rs lv i):=
 (Q1d hA hi).bind (A4 _) fun _ j hj hl _=>by
  split
  ·exact Q1v hA hl
  ·exact(Qk8 hA hr hl (upto hA hw hj hl)).bind hj fun xs k hk dQ cH=>(Q1d hA dQ).bind (Am hj hk) fun _ m hm ej _=>⟨by omega,ej,Q2u hb (upto hA hw (by omega) ej) hn (l:=k) cH⟩
theorem Q57{op:List UInt8}{num:Int}{x y:Syn}{j k l:Nat}(hx:SynG n T b x j)(hy:SynG n T x.pos y k)(hl:x.pos<=(tk T l).pos):SynG n T b (binary op num x y) l:=by
 have ho:x.pos<n:=by
  have:=hx.2.2;cases this with
  | mk h _ _=>exact h
 exact Q2u (l:=0) hx.1 hl ho fun z hz=>by
  rcases A8.1 hz with rfl|hz
  ·exact⟨Int.le_refl _,hx.2.2⟩
  ·rw[Ag.1 hz];exact⟨hy.1,hy.2.2⟩
theorem Qnw{r:Rd}{ops:List (List UInt8)}(hA:Asc n T)(h:GR n T r)(g:Nat):∀x i,i<T.length->SynG n T b x i->J0 n T (SynG n T b) i (Ju T r ops lv g x i):=by
 induction g with
 | zero=>intro x i _ _;trivial
 | succ g ih=>
  intro x i hi hx;unfold Ju;split
  ·have h1:=Zf (T:=T) hi
   have h2:=Ze (T:=T) (i:=i);exact(h _ _ x.pos h1 (upto hA hx.2.1 h2 h1)).bind h2 fun y j hj hl hy=>(ih _ _ hl (Q57 hx hy (upto hA hx.2.1 (by omega) hl))).back (by omega) fun _ _ _ _ h=>h
  ·exact⟨A4 _,hi,hx⟩
theorem Q1z{r:Rd}{ops:List (List UInt8)}(hA:Asc n T)(h:GR n T r):GR n T (left T r ops):=fun lv i b hi hb=>(h _ _ _ hi hb).bind (A4 _) fun x j hj hl hx=>(Qnw hA h _ _ _ hl hx).back hj fun _ _ _ _ h=>h
theorem Quo(hA:Asc n T)(g:Nat):∀xs i,i<T.length->b<=(tk T i).pos->Zk n b xs i->J0 n T (Zk n b) i (Jz T g xs i):=by
 induction g with
 | zero=>intro x i _ _ _;trivial
 | succ g ih=>
  intro xs i hi hb hx;unfold Jz;split
  ·have h1:=Zf (T:=T) hi
   have h2:=Ze (T:=T) (i:=i);exact(Q43 hA h1 (upto hA hb h2 h1)).bind h2 fun y j hj hl hy=>(ih _ _ hl (upto hA hb (by omega) hl) (hx.add hy)).back (by omega) fun _ _ _ _ h=>h
  ·exact⟨A4 _,hi,hx⟩
theorem Quw(hA:Asc n T)(hi:i<T.length)(hb:b<=(tk T i).pos):J0 n T (SynG n T b) i (setR T i):=by
 have h1:=Zf (T:=T) hi;have h2:=Ze (T:=T) (i:=i);unfold setR;split
 ·rename_i h
  exact⟨h2,h1,Q2o hb (hA.mono _ _ h2 h1) (hA.inn i hi (Z8 h))⟩
 ·refine(Q1d hA hi).bind (A4 _) fun t j hj hl ht=>?_
  have hn:(tk T i).pos<n:=by rw[<-ht.1];exact ht.2.1
  split
  ·have h3:=Zf (T:=T) hl
   have h4:=Ze (T:=T) (i:=j);exact⟨by omega,h3,Q2o hb (hA.mono _ _ (by omega) h3) hn⟩
  ·exact(Q43 hA hl (hA.mono i j hj hl)).bind hj fun x k hk dQ hx=>(Quo hA _ [x] _ dQ (hA.mono i k (by omega) dQ) (syns1 (l:=k) hx)).bind (by omega) fun xs m hm ej cH=>(Q1d hA ej).bind (by omega) fun _ p hp mp _=>⟨by omega,mp,Q2u hb (hA.mono _ _ (by omega) mp) hn (l:=0) cH⟩
theorem Qez{r:Rd}(hA:Asc n T)(h:GR n T r)(hi:i<T.length)(hb:b<=(tk T i).pos)(hk:(tk T i).kind≠3):J0 n T (SynG n T b) i (notR T r lv i):=by have h1:=Zf (T:=T) hi;have h2:=Ze (T:=T) (i:=i);exact(Q4u hA h h1 (hA.mono i _ h2 h1)).bind h2 fun x j hj hl hx=>⟨by omega,hl,Q2u hb (hA.mono _ _ (by omega) hl) (hA.inn i hi hk) (l:=0) (syns1 hx)⟩
theorem rd_g(hA:Asc n T)(f:Nat):∀nt,GR n T (rd res T f nt):=by
 induction f with
 | zero=>intro nt lv i b _ _;trivial
 | succ f ih=>
  have one:∀r:Rd,GR n T r->∀q∈[r],GR n T q:=fun r h q hq=>by rw[Ag.1 hq];exact h
  have two:∀r p:Rd,GR n T r->GR n T p->∀q∈[r,p],GR n T q:=fun r p h h' q hq=>by
   rcases A8.1 hq with rfl|hq
   ·exact h
   ·rw[Ag.1 hq];exact h'
  have num:GR n T (fun _=>number T):=fun _ _ _ hi hb=>Q43 hA hi hb
  have set:GR n T (fun _=>setR T):=fun _ _ _ hi hb=>Quw hA hi hb
  have bin:∀{lv i j:Nat} {b:Int} {x:Syn} {r:Rd} {op:List UInt8} {num:Int},GR n T r->i<=j->j<T.length->SynG n T b x j->i<=i->J0 n T (SynG n T b) i ((r lv (nx T j)).bind fun y l=>.ok (binary op num x y) l):=fun{lv i j b x r op num} h hj hl hx _=>by have h3:=Zf (T:=T) hl;have h4:=Ze (T:=T) (i:=j);exact(h _ _ x.pos h3 (upto hA hx.2.1 h4 h3)).bind (by omega) fun y k hk dQ hy=>⟨by omega,dQ,Q57 hx hy (upto hA hx.2.1 (by omega) dQ)⟩
  intro nt;cases nt with
  | cond=>exact Q1z hA (ih _)
  | conj=>exact Q1z hA (ih _)
  | sum=>exact Q1z hA (ih _)
  | scheme=>exact Q1z hA (ih _)
  | term=>exact Q1z hA (ih _)
  | disj=>exact Q1z hA (ih _)
  | meet=>exact Q1z hA (ih _)
  | neg=>
   intro lv i b hi hb;have h1:=Zf (T:=T) hi;have h2:=Ze (T:=T) (i:=i);rw[rd];dsimp only
   split
   ·rename_i h
    exact Qez hA (ih _) hi hb (Z8 h)
   split
   ·rename_i h
    exact(Q5u hA h1 (hA.mono i _ h2 h1)).bind h2 fun v j hj hl hv=>(Q1d hA hl).bind (by omega) fun _ k hk dQ _=>(Q4u hA (ih _) dQ (hA.mono i k (by omega) dQ)).bind (by omega) fun x m hm ej hx=>⟨by omega,ej,Q2u hb (hA.mono _ _ (by omega) ej) (hA.inn i hi (Z8 h)) (l:=0) (Zk.cons hv (syns1 (l:=0) hx))⟩
   ·refine(ih .sum _ _ _ hi hb).bind (A4 _) fun x j hj hl hx=>?_
    split
    ·exact bin (ih .sum) hj hl hx (A4 _)
    ·exact⟨hj,hl,hx⟩
  | unit=>
   intro lv i b hi hb;have h1:=Zf (T:=T) hi;have h2:=Ze (T:=T) (i:=i);have hm:=hA.mono i _ h2 h1;have args:∀{rs:List Rd},(∀r∈rs,GR n T r)->(tk T i).kind≠3->J0 n T (SynG n T b) i (arguments T (tk T i) rs lv (nx T i)):=fun h hk=>(Q7m hA h h1 hb hm (hA.inn i hi hk)).back h2 fun _ _ _ _ h=>h
   rw[rd];dsimp only
   split
   ·exact Q43 hA hi hb
   split
   ·exact args (one _ (ih _)) (Z8 (by assumption))
   split
   ·exact args (two _ _ (ih _) (ih _)) (Z8 (by assumption))
   split
   ·rename_i h
    exact(Q5u hA h1 hm).bind h2 fun v j hj hl hv=>(Q64 hA (ih _) hl (hA.mono i j (by omega) hl)).bind (by omega) fun x m hm ej hx=>⟨by omega,ej,Q2u hb (hA.mono _ _ (by omega) ej) (hA.inn i hi (Z8 h)) (l:=0) (Zk.cons hv (syns1 (l:=0) hx))⟩
   split
   ·exact Q64 hA (ih _) hi hb
   ·exact Q5u hA hi hb
  | factor=>
   intro lv i b hi hb;rw[rd];dsimp only
   refine(ih .atom _ _ _ hi hb).bind (A4 _) fun x j hj hl hx=>?_
   have h3:=Zf (T:=T) hl;have h4:=Ze (T:=T) (i:=j);split
   ·exact(Q43 hA h3 (hA.mono _ _ h4 h3)).bind (by omega) fun _ k hk dQ _=>(Q4u hA (ih _) dQ (upto hA hx.2.1 (by omega) dQ)).bind (by omega) fun y m hm ej hy=>⟨by omega,ej,Q57 hx hy (upto hA hx.2.1 (by omega) ej)⟩
   ·exact⟨hj,hl,hx⟩
  | atom=>
   intro lv i b hi hb;have h1:=Zf (T:=T) hi;have h2:=Ze (T:=T) (i:=i);have hm:=hA.mono i _ h2 h1;have args:∀{rs:List Rd},(∀r∈rs,GR n T r)->(tk T i).kind≠3->J0 n T (SynG n T b) i (arguments T (tk T i) rs lv (nx T i)):=fun h hk=>(Q7m hA h h1 hb hm (hA.inn i hi hk)).back h2 fun _ _ _ _ h=>h
   rw[rd];dsimp only
   split
   ·exact args (one _ num) (Z8 (by assumption))
   split
   ·exact⟨h2,h1,Q2o hb hm (hA.inn i hi (Z8 (by assumption)))⟩
   split
   ·exact args (one _ (ih _)) (Z8 (by assumption))
   split
   ·exact Q64 hA (ih _) hi hb
   ·exact Q5u hA hi hb
  | formula=>
   intro lv i b hi hb;rw[rd];dsimp only
   refine(ih .disj _ _ _ hi hb).bind (A4 _) fun x j hj hl hx=>?_
   have h3:=Zf (T:=T) hl;have h4:=Ze (T:=T) (i:=j);split
   ·exact(Q4u hA (ih _) h3 (upto hA hx.2.1 h4 h3)).bind (by omega) fun y m hm ej hy=>⟨by omega,ej,Q57 hx hy (upto hA hx.2.1 (by omega) ej)⟩
   ·exact⟨hj,hl,hx⟩
  | lit=>
   intro lv i b hi hb;have h1:=Zf (T:=T) hi;have h2:=Ze (T:=T) (i:=i);have hm:=hA.mono i _ h2 h1;have args:∀{rs:List Rd},(∀r∈rs,GR n T r)->(tk T i).kind≠3->J0 n T (SynG n T b) i (arguments T (tk T i) rs lv (nx T i)):=fun h hk=>(Q7m hA h h1 hb hm (hA.inn i hi hk)).back h2 fun _ _ _ _ h=>h
   rw[rd];dsimp only
   split
   ·exact Qez hA (ih _) hi hb (Z8 (by assumption))
   split
   ·exact⟨h2,h1,Q2o hb hm (hA.inn i hi (Z8 (by assumption)))⟩
   split
   ·exact Q64 hA (ih _) hi hb
   split
   ·exact args (two _ _ num num) (Z8 (by assumption))
   split
   ·exact args (one _ num) (Z8 (by assumption))
   split
   ·exact args (two _ _ num (ih _)) (Z8 (by assumption))
   split
   ·exact args (two _ _ set (ih _)) (Z8 (by assumption))
   split
   ·exact args (one _ (ih _)) (Z8 (by assumption))
   ·exact Q1v hA hi
theorem Qx6{r:Rd}(hA:Asc n T)(h:GR n T r)(hT:0<T.length):J0 n T (fun x _=>0<=x.pos/\Ord n x) 0 (whole T r):=by
 unfold whole;refine(h 0 0 0 hT (hA.low 0 hT)).bind (A4 _) fun x j hj hl hx=>?_
 split
 ·exact⟨hj,hl,hx.1,hx.2.2⟩
 ·exact Q1v hA hl
end
end
theorem Qi6(s:List UInt8):∀(ts:List Tok) (p:Nat),Stand s p ts->(∀j,j<ts.length->(p:Int)<=(tk ts j).pos/\(tk ts j).pos+(tk ts j).text.length<=s.length)/\∀i j,i<=j->j<ts.length->(tk ts i).pos<=(tk ts j).pos
 | [],p,_=>⟨fun j h=>absurd h (AU _),fun i j _ h=>absurd h (AU _)⟩
 | t::r,p,h=>by
  obtain⟨h1,h2,h3,h4,h5⟩:=h;obtain⟨q1,q2⟩:=Qi6 s r _ h5;have e:∀j,tk (t::r) (j+1)=tk r j:=fun j=>rfl
  have e0:tk (t::r) 0=t:=rfl;refine⟨fun j hj=>?_,fun i j mN hj=>?_⟩
  ·cases j with
   | zero=>rw[e0,h1];omega
   | succ j=>have:=q1 j (by simpa using hj);rw[e];omega
  ·cases j with
   | zero=>
    obtain rfl:i=0:=by omega
    exact Int.le_refl _
   | succ j=>
    have lQ:j<r.length:=by simpa using hj
    cases i with
    | zero=>have:=q1 j lQ;rw[e0,e,h1];omega
    | succ i=>rw[e,e];exact q2 i j (by omega) lQ
theorem Qha{s:List UInt8}{T:List Tok}(h:scan s=.ok T):Asc s.length T:=by
 obtain⟨q1,q2⟩:=Qi6 s T 0 (Quj h).1;obtain⟨C,hC,hx⟩:=Qhd h;refine⟨q2,fun i hi=>by have:=q1 i hi;omega,fun i hi=>by have:=q1 i hi;omega,fun i hi hk=>?_⟩;have h1:=q1 i hi;have h2:0<(tk T i).text.length:=by
  rw[Qij,hC];rw[Qbd,hC]at hk;rw[As]at hk⊢;rcases AR i C.length with hl|hl
  ·rw[List.getElem?_append_left hl,Aj hl]
   obtain⟨k,_,ht⟩:=hx _ (Ah hl);have:=(Q02 ht).1;simpa using this
  ·rw[BB hl]at hk
   exfalso;apply hk;cases hq:i-C.length with
   | zero=>rfl
   | succ n=>simp
 omega
end Go.Proofs.YtakdifceogdioaaGreatDoor
namespace Go.Proofs.YtakdifceogdioaaGreatDoor
open Go.Proofs.Tryz
open Go.RowKit
def idxS(s:List UInt8):List (List UInt8)->Nat->Int
 | [],_=>-1
 | x::r,i=>if x=s then(i:Int)else idxS s r (i+1)
theorem Qst(l:List (List UInt8))(s:List UInt8)(g c:Nat)(w:World)(hl:l.length<=1000000)(hc:∀i (h:i<l.length),w.cell? ⟨g,i,none⟩=some (.string ⟨l[i].toArray⟩)):
  Calls prog 248 #[.slice (some ⟨g,0,none⟩) l.length c,.string ⟨s.toArray⟩] w fun e w'=>e=.returned (.int .i64 (idxS s l 0))/\Below w.heap.size w w':=by
 obtain⟨res,hr⟩:∃x,Hid (x=idxS s l 0):=⟨_,qh rfl⟩;rw[<-hr.out];replace hc:=qh hc;go_enter func248,ntmps248;go_wp2_with fail;go_loopw [5] (fun s5 wr=>(∃j:Nat,j<=l.length/\s5=.int .i64 j/\Hid (res=idxS s (l.drop j) j))/\Hid (Below w.heap.size w wr)) (fun s5 _=>l.length-(intOf s5).toNat)
 case atStart=>exact⟨⟨0,by omega,rfl,hr⟩,qh (Below.refl _ _)⟩
 case round=>
  obtain⟨⟨j,hj,rfl,lk⟩,dy⟩:=hrel;by_cases af:j<l.length
  ·have bh:(j:Int)<l.length:=by omega
   have hx:=Q3 (hc.out j af) dy.out;have ae:Hid (res=if l[j]=s then(j:Int)else idxS s (l.drop (j+1)) (j+1)):=qh (by rw[lk.out,List.drop_eq_getElem_cons af,idxS]);generalize l[j]=x at *;by_cases cH:x=s
   ·have ht:(x==s)=true:=beq_iff_eq.2 cH
    replace ae:=qh (ae.out.trans (if_pos cH));replace cH:=qh cH;go_wp2_with fail;go_ret;exact⟨by rw[ae.out];rfl,dy.out⟩
   ·have ht:(x==s)=false:=beq_eq_false_iff_ne.2 cH
    replace ae:=qh (ae.out.trans (if_neg cH));replace cH:=qh cH;go_wp2_with fail;go_roundw
    case rel=>exact⟨⟨j+1,by omega,by go_num,ae⟩,dy⟩
    case measure=>simp[intOf];omega
  ·have bh:¬ (j:Int)<l.length:=by omega
   go_wp2_with fail;go_ret;refine⟨?_,dy.out⟩;rw[lk.out,AF (by omega),idxS];rfl
abbrev Q5t:List (List UInt8):=[Jg,Q87,Q85,Q86,Q84,Q82,fAt,[],kAnd,kOr,[75],[69],[68],[67],Q88,Q81,Q83,Jq]
def Q9m(s:List UInt8):Int:=idxS s Q5t 0
theorem Qp3{s:List UInt8}(h:∃x∈Q08,x.2=s):Q9m s=Yy s:=by obtain⟨x,hx,rfl⟩:=h;unfold Q08 at hx;simp only[A8,A5,or_false]at hx;rcases hx with rfl|rfl|rfl|rfl|rfl|rfl|rfl|rfl|rfl|rfl|rfl|rfl|rfl|rfl|rfl|rfl|rfl<;>kernel_rfl
theorem Qsy(s:List UInt8)(w:World):Calls prog 224 #[.string ⟨s.toArray⟩] w fun e w'=>e=.returned (.int .i64 (Q9m s))/\Below w.heap.size w w':=by have h1:=heap_alloc_new w (.cells (Q5t.map fun x=>Value.string ⟨x.toArray⟩).toArray 9);have hb:Below w.heap.size w (w.alloc (.cells (Q5t.map fun x=>Value.string ⟨x.toArray⟩).toArray 9)):=(Below.refl _ _).alloc (A4 _) _;have hI:=Qst Q5t s w.heap.size 18 _ (by decide) (fun i hi=>Zu h1 (by rw[B9,Aj hi];rfl));clear h1;replace hI:=qh hI;replace hb:=qh hb;go_enter func224,ntmps224;go_wp2_with fail;refine(hI.out).mono ?_;rintro e w2 ⟨rfl,b2⟩;have ax:=qs hb b2;replace b2:=qh b2;go_wp2_with fail;go_ret;exact⟨rfl,ax.out⟩
end Go.Proofs.YtakdifceogdioaaGreatDoor
namespace Go.Proofs.YtakdifceogdioaaGreatDoor
open Go.Proofs.Tryz
section
def Tl(U:List Tok)(i:Nat)(K:List KT):Prop:=(kts U).drop i=K
section
variable {U:List Tok} {i:Nat} {K:List KT} {x:KT} {res:List UInt8->Bool}
theorem Qik(h:Tl U i (x::K)):(kts U).getD i Ye=x:=by
 have h1:((kts U).drop i)[0]?=some x:=by rw[show(kts U).drop i=_ from h];rfl
 rw[List.getElem?_drop,Bo]at h1;rw[As,h1];rfl
theorem Z5(h:Tl U i (x::K)):Tl U (i+1) K:=by unfold Tl at h⊢;rw[<-AW,h];rfl
theorem Qw9(h:Tl U i (x::K)):i<U.length:=by have:=congrArg Bj (show(kts U).drop i=_ from h);rw[Ar,Q97,Ac]at this;omega
theorem Yh{A B:List KT}(h:Tl U i (A++B)):Tl U (i+A.length) B:=by unfold Tl at h⊢;rw[<-AW,h,List.drop_left]
theorem Qil(h:kts U=K):Tl U 0 K:=h
theorem Q6s(h:Tl U i (x::K)):(tk U i).kind=x.1:=by rw[Qbd,Qik h]
theorem Q1k(h:Tl U i (x::K)):(tk U i).text=x.2:=by rw[Qij,Qik h]
theorem Y5{y:KT}(h:Tl U i (x::y::K)):nx U i=i+1:=by unfold nx;rw[if_pos (Qw9 (Z5 h))]
theorem Q6r(h:Tl U i (x::K))(ws:List (List UInt8)):isW U ws i=((decide (x.1=2)||decide (x.1=0))&&ws.contains x.2):=by unfold isW;rw[Q6s h,Q1k h]
theorem Q34{y:KT}{k:Int}{w:List UInt8}(h:Tl U i ((k,w)::y::K))(hk:k=2∨k=0):need U w i=.ok (tk U i) (i+1):=by unfold need;rw[Q6r h,Y5 h,if_pos];rcases hk with rfl|rfl<;>simp
theorem Qbe{y:KT}{w:List UInt8}(h:Tl U i ((1,w)::y::K)):number U i=.ok (.mk 9 [] (dv 0 w:Nat) (tk U i).pos []) (i+1):=by unfold number;rw[Q6s h,Y5 h,Q1k h,if_neg (fun h=>h rfl)]
theorem Q4o{A B:List KT}{b:KT}(h:Tl U i (A++b::B)):i<U.length:=by have:=congrArg Bj (show(kts U).drop i=_ from h);rw[Ar,Q97,Ad,Ac]at this;omega
end
def w0:List UInt8:=[112,114,111,99,101,115,115,101,115]
section
variable {U:List Tok} {res:List UInt8->Bool} {f i:Nat}
theorem Q6t{K:List KT}{k:Int}{w:List UInt8}(h:Tl U i ((k,w)::K))(hk:k=2∨k=0)(hl:i+1<U.length):need U w i=.ok (tk U i) (i+1):=by unfold need;rw[Q6r h,show nx U i=i+1 from by unfold nx;rw[if_pos hl],if_pos];rcases hk with rfl|rfl<;>simp
theorem Yd{c:KT}{K:List KT}{ws:List (List UInt8)}(h:Tl U i (c::K))(e:((decide (c.1=2)||decide (c.1=0))&&ws.contains c.2)=true):isW U ws i=true:=by rw[Q6r h];exact e
theorem Z7{c:KT}{K:List KT}{ws:List (List UInt8)}(h:Tl U i (c::K))(e:((decide (c.1=2)||decide (c.1=0))&&ws.contains c.2)=false):¬ isW U ws i=true:=by rw[Q6r h,e];decide
theorem Z3{α β:Type}(a:α)(i:Nat)(f:α->Nat->Out β):(Out.ok a i).bind f=f a i:=rfl
end
inductive Emb (x y z:Syn):Syn->Prop
 |mk {p0 p1 p2 p3 p4 p5 p6 p7 p8 p9:Int} {x1 x2 y1 z1:Syn} (h1:Twin Any x x1) (h2:Twin Any x x2) (h3:Twin Any y y1) (h4:Twin Any z z1):
  Emb x y z (.mk 0 [] 3 p0 [.mk 1 [116] 2 p1 [.mk 9 [] 4 p2 [],.mk 2 [] 0 p3 [x1],.mk 3 [] 0 p4 [x2]],.mk 5 [97] 0 p5 [y1],.mk 6 [102] 0 p6 [z1],.mk 7 [112] 1 p7 [.mk 8 [116] 0 p8 [],.mk 8 [97] 0 p9 []]])
end
section
section
variable {U:List Tok} {res:List UInt8->Bool} {f lv i L:Nat} {x y:Syn} {K:List KT} {c:KT}
theorem Qog{A:List KT}(h:Tl U i ((2,[40])::A)):rd res U (f+1) .lit lv i=parens U (rd res U f .formula) lv i:=by
 rw[rd];dsimp only
 rw[if_neg (Z7 h (by decide)),if_neg (Z7 h (by decide)),if_pos (Yd h (by decide))]
def noOp(ops:List (List UInt8))(c:KT):Prop:=((decide (c.1=2)||decide (c.1=0))&&ops.contains c.2)=false
theorem noOp.isW{ops:List (List UInt8)}(h:Tl U i (c::K))(hc:noOp ops c):¬ isW U ops i=true:=Z7 h hc
end
structure Reads (res:List UInt8->Bool) (nt:NT) (s:List UInt8) (x:Syn) (T:List Tok) (C:List KT) (f j:Nat):Prop where
 lx:Lx s (C++[Ye])
 kt:kts T=C++[Ye]
 tk:Toks C
 no:(35:UInt8)∉s
 rd:whole T (Proofs.YtakdifceogdioaaGreatDoor.rd res T f nt)=.ok x j
section
variable {res:List UInt8->Bool} {nt:NT} {s:List UInt8} {x:Syn} {T U:List Tok} {C:List KT} {f g j i lv:Nat}
end
end
section
def DN(x:Syn)(L:Nat)(o:Out Syn):Prop:=match o with|.ok y l=>l=L/\Twin Any x y|.err _ e=>e=12|.none=>True
theorem DN.bind{x z:Syn}{L M:Nat}{o:Out Syn}{f:Syn->Nat->Out Syn}(h:DN x L o)(hf:∀y,Twin Any x y->DN z M (f y L)):DN z M (o.bind f):=by
 cases o with
 | none=>exact h
 | err p e=>exact h
 | ok y l=>obtain⟨rfl,h⟩:=h;exact hf y h
theorem Qle{x y:Syn}{L:Nat}(h:Twin Any x y):DN x L (.ok y L):=⟨rfl,h⟩
section
variable {U:List Tok} {res:List UInt8->Bool} {f g lv i L M:Nat} {x y:Syn} {K A B:List KT} {c:KT} {r:Rd} {ops:List (List UInt8)}
end
def parK(b:Bool)(K:List KT):List KT:=if b then(2,[40])::(K++[(2,[41])])else K
theorem Qcs(n:Nat)(d:Nat)(hd:d<10)(l:List UInt8):dv n (UInt8.ofNat (48+d)::l)=dv (10*n+d) l:=by
 rw[Q13];have:(UInt8.ofNat (48+d)).toNat=48+d:=by rw[UInt8.toNat_ofNat'];omega
 rw[this];congr 1;omega
theorem Ql9:∀f n l,n<f->dv 0 (Jd f n l)=dv n l:=by
 intro f;induction f with
 | zero=>intro n l h;omega
 | succ f ih=>
  intro n l h;rw[Jd];split
  ·rename_i h1;rw[Qcs 0 n h1];congr 1;omega
  ·rename_i h1
   rw[ih _ _ (by omega),Qcs _ _ (Cg _ (by omega))];congr 1;omega
theorem Qcj(n:Nat):dv 0 (dec n)=n:=Ql9 _ _ _ (by omega)
theorem Qcp{d:Nat}(hd:d<10):Q6 (UInt8.ofNat (48+d)).toNat=true:=by
 have:(UInt8.ofNat (48+d)).toNat=48+d:=by rw[UInt8.toNat_ofNat'];omega
 rw[this];unfold Q6;simp;omega
theorem Ql8:∀f n l,n<f->(∀c∈l,Q6 c.toNat=true)->Jd f n l≠[]/\∀c∈Jd f n l,Q6 c.toNat=true:=by
 intro f;induction f with
 | zero=>intro n l h;omega
 | succ f ih=>
  intro n l h hl;rw[Jd];split
  ·rename_i h1
   refine⟨List.cons_ne_nil _ _,fun c hc=>?_⟩;rcases A8.1 hc with rfl|hc
   ·exact Qcp h1
   ·exact hl c hc
  ·rename_i h1
   refine ih _ _ (by omega) fun c hc=>?_
   rcases A8.1 hc with rfl|hc
   ·exact Qcp (Cg _ (by omega))
   ·exact hl c hc
theorem Qaq{p:Int->Bool}:∀{l:List UInt8},(∀c∈l,p c.toNat=true)->Q0 p l=l.length
 | [],_=>rfl
 | c::r,h=>by rw[Q0,if_pos (h c (A6 ..)),Qaq fun d hd=>h d (Ae _ hd)];rfl
theorem Qtq{p:Int->Bool}{c:UInt8}{r:List UInt8}(h:p c.toNat=false):Q0 p (c::r)=0:=by rw[Q0,if_neg (by rw[h];decide)]
theorem Qld{n:Nat}(h:n<=1048576):tok (dec n)=.ok (1,(dec n).length):=by
 obtain⟨h0,h1⟩:=Ql8 (n+1) n [] (by omega) (fun c hc=>(A5 hc).elim);have hw:Q0 Q2 (dec n)=(dec n).length:=Qaq fun c hc=>by unfold Q2;rw[h1 c hc];simp
 have hd:Q0 Q6 (dec n)=(dec n).length:=Qaq h1;have hl:Q0 Qv (dec n)=0:=by
  cases hq:dec n with
  | nil=>rfl
  | cons c r=>refine Qtq ?_;have:=h1 c (by show c∈dec n;rw[hq];exact A6 ..);unfold Q6 at this;unfold Qv;simp at this⊢;omega
 have hp:0<(dec n).length:=BH.2 h0;unfold tok;rw[hw,hd,hl,if_neg (by omega),if_pos rfl,if_neg (by omega),BS,Qbn _ _ (by omega),Qcj,if_pos h];simp
end
end Go.Proofs.YtakdifceogdioaaGreatDoor
namespace Go.Proofs.YtakdifceogdioaaGreatDoor
open Go.Proofs.Tryz
open Go.RowKit
theorem Qp7(o:Int):(o=8∨o=9∨o=17∨o=0∨o=1∨o=2∨o=3∨o=4∨o=5∨o=6)∨((o==8)=false/\(o==9)=false/\(o==17)=false/\(o==0)=false/\(o==1)=false/\(o==2)=false/\(o==3)=false/\(o==4)=false/\(o==5)=false/\(o==6)=false):=by simp only[beq_eq_false_iff_ne];omega
theorem Qp6{o:Int}(hr:inr 0 17 o=true)(h:(o==8)=false/\(o==9)=false/\(o==17)=false/\(o==0)=false/\(o==1)=false/\(o==2)=false/\(o==3)=false/\(o==4)=false/\(o==5)=false/\(o==6)=false):Qx o=1:=by simp only[beq_eq_false_iff_ne]at h;unfold inr at hr;rw[Ai,decide_eq_true_eq,decide_eq_true_eq]at hr;unfold Qx;rw[if_neg (by omega),if_neg (by omega)]
theorem Qr2(n:Int)(cq:1<=n)(cn:n<=5):∀(m:Nat) (f:Fm),SizeOf.sizeOf f<m->fsz f<=1000000->∀(q:Option Addr) (d:Nat) (w:World),FmR w f.args (.slice q f.args.length d) ->
  Calls prog 78 #[fmV f q d,.int .i64 n] w (Zv w (fnodes n f)):=by
 intro m;induction m with
 | zero=>intro f h;omega
 | succ m ih=>
  intro f hm hz q d w ad;obtain⟨o,p,r,v,g,l⟩:=f;replace ad:FmR w l (.slice q l.length d):=ad;show Calls prog 78 #[.agg #[.int .i64 o,.int .i64 p,.int .i64 r,.int .i64 v,.int .i64 g,.slice q l.length d],.int .i64 n] w _;obtain⟨res,hr⟩:∃x,Hid (x=fnodes n (.mk o p r v g l)):=⟨_,qh rfl⟩;rw[<-hr.out];replace hr:=qh (hr.out.trans Q8o);simp only[Fm.mk.sizeOf_spec]at hm;rw[Qo]at hz;have av:Hid (∀j (hj:j<l.length),fsz l[j]<=1000000):=qh (fun j hj=>by have:=Zy (Ah hj);omega)
  have gw:l.length<=1000000:=by have:=Zx l;omega
  clear hz;replace ih:=qh ih;replace ad:=qh ad;have hR:=fun W=>Q56 o 0 17 W
  have gy:inr 0 17 o=(decide (0<=o)&&decide (o<=17)):=rfl;rw[<-gy]at hR;clear gy;have iC:=Qdi (n:=n) (o:=o) (p:=p) (r:=r) (v:=v) (g:=g) (l:=l);cases cy:inr 0 17 o with
  | false=>rw[cy]at hR;rw[if_pos cy]at iC;rw[iC]at hr;replace hR:=qh hR;clear iC cy ad hm ih av;generalize l.length=k at *;have hq:=boxF w (.int .i64 o) (.int .i64 p) (.int .i64 r) (.int .i64 v) (.int .i64 g) (.slice q k d) rfl;go_enter func78,ntmps78;go_upto_region 1 with(fail);generalize A0 w _=w1 at hq⊢;obtain⟨hB,hF,bR,c0,c1,c2,c3,c4,c5⟩:=hq;go_wp2_with (go_at_call 75;(with_reducible refine(hR.out _).mono ?_);rintro e w2 ⟨rfl,hw⟩;rw[hw];clear hw);all_goals go_ret;exact⟨by rw[hr.out]<;>rfl,hB.out⟩
  | true=>
   rw[if_neg (by rw[cy];decide)]at iC;have ub:=qh (fun h=>Qp6 cy h);rw[cy]at hR;replace hR:=qh hR;replace cy:=qh cy;replace iC:=qh iC;have hE:=qh (fun B W=>Q8i B n o cq cn W);replace cq:=qh cq;replace cn:=qh cn;have hq:=boxF w (.int .i64 o) (.int .i64 p) (.int .i64 r) (.int .i64 v) (.int .i64 g) (.slice q l.length d) rfl;go_enter func78,ntmps78;go_upto_region 1 with(fail);generalize A0 w _=w1 at hq⊢;obtain⟨hB,hF,bR,c0,c1,c2,c3,c4,c5⟩:=hq;go_upto_block 0 with(go_at_call 75;(with_reducible refine(hR.out _).mono ?_);rintro e w2 ⟨rfl,hw⟩;rw[hw];clear hw)
   go_cut [5]from 20 to 31 (fun s5 wx=>s5=.int .i64 (Qx o)/\wx=w1)
   case first=>
    clear ad ih av hr iC hE;rcases Qp7 o with(rfl|rfl|rfl|rfl|rfl|rfl|rfl|rfl|rfl|rfl)|cg
    case inr=>
     have e1:=ub.out cg;obtain⟨h1,h2,h3,h4,h5,h6,h7,h8,h9,h0⟩:=cg;go_wp2_with fail;all_goals
      go_meet
      exact⟨by rw[e1];rfl,rfl⟩
    all_goals go_wp2_with fail
    all_goals
     go_meet
     exact⟨rfl,rfl⟩
   case rest=>
    obtain⟨rfl,rfl⟩:=hcut;by_cases hl:l.length=Qx o
    case neg=>have hx:=iC.out.trans (if_pos hl);rw[hx]at hr;obtain⟨hb,bN,n4⟩:=Zn (x:=(l.length:Int)) (y:=Qx o) (by omega);clear hl hx iC ad hm ih av;generalize l.length=k at *;generalize Qx o=k2 at *;go_wp2_with fail;all_goals go_ret;exact⟨by rw[hr.out]<;>rfl,hB.out⟩
    case pos=>
     have hx:=iC.out.trans (if_neg (fun h=>h hl));replace iC:=qh hx;clear hx;have hb:((l.length:Int)!=(Qx o:Int))=false:=by rw[hl];simp
     replace hl:=qh hl;generalize Qx o=k2 at *;have kJ:=boxF wc (.int .i64 o) (.int .i64 p) (.int .i64 r) (.int .i64 v) (.int .i64 g) (.slice q l.length d) rfl;have dc:=heap_alloc_new wc (.cells #[.int .i64 o,.int .i64 p,.int .i64 r,.int .i64 v,.int .i64 g,.slice q l.length d] 24);go_upto_region 20 with(fail);generalize A0 wc _=w2 at kJ dc⊢;obtain⟨aE,jz,bR2,e0,e1,e2,e3,e4,e5⟩:=kJ;replace dc:=qh dc;generalize ph:wc.heap.size=R at *;replace ph:=qh ph;have jm:=qh (hE.out R w2 e0);go_upto_region 21 with(go_at_call 95;(with_reducible refine(jm.out).mono ?_);rintro e w3 ⟨va,vm,rfl,⟨pa,rfl,gM⟩,⟨pm,rfl,nB⟩,b3,oa,om⟩;replace b3:=qh b3;replace gM:=qh gM;replace nB:=qh nB;replace oa:=qh oa;replace om:=qh om);have kZ:Hid (R<w2.heap.size):=qh (Array.getElem?_eq_some_iff.1 dc.out).1;have kr:Hid (w3.heap[R]?=some (.cells #[.int .i64 o,.int .i64 p,.int .i64 r,.int .i64 v,.int .i64 g,.slice q l.length d] 24 (0,0))):=qh ((b3.out.block R kZ.out).trans dc.out);have ke:=qh (fun j h=>Qm3 o p r v g n (vMax o) (.slice q l.length d) (useP o) (useO o) (useV o) (useG o) j h);have pi:=Q5h n (vMax o) p r v g (useP o) (useO o) (useV o) (useG o) (inr 0 (n-1) p) (inr 0 (n-1) r) (inr 0 (vMax o) v) (inr 0 (2 ^ n.toNat-1) g);have lI:=qh (Qxo o p r v g (.slice q l.length d) (useP o) (useO o) (useV o) (useG o));have bj:=qh (@Qls n o p r v g);have bm:=qh (fun j h=>@Qlt n o p r v g j h);have uL:=Q3r (useP o) (useO o) (useV o) (useG o);have uc:=qh (fun c j h=>@Qxp c (fldP (useP o) (useO o) (useV o) (useG o)) j h);have fl:=qh (Qmg (o:=o) (p:=p) (r:=r) (v:=v) (g:=g));obtain⟨ix,dQ,ej⟩:=pi;generalize (if useP o=true then 0 else p)=r1 at *;generalize (if useO o=true then 0 else r)=r2 at *;generalize (if useV o=true then 0 else v)=r3 at *;generalize (if useG o=true then 0 else g)=r4 at *;generalize fldB (useP o) (useO o) (useV o) (useG o) (inr 0 (n-1) p) (inr 0 (n-1) r) (inr 0 (vMax o) v) (inr 0 (2 ^ n.toNat-1) g)=TT at *;generalize fldX (useP o) (useO o) (useV o) (useG o) p r v g=XX at *;generalize fldM n (vMax o) (useP o) (useO o) (useV o) (useG o)=MM at *;generalize fldP (useP o) (useO o) (useV o) (useG o)=ps at *;replace dQ:=qh dQ;replace ej:=qh ej;have pn:=ix;rw[pn] ;replace ix:=qh ix;clear pn e0 e1 e2 e3 e4 e5 jz hE jm c0 c1 c2 c3 c4 c5;replace ph:=qh ph.out;go_wp2_with fail;have qE:Hid (w.heap.size<=R):=qh (by have:=hB.out.size;have:=ph.out;omega);have kh:Hid (Below w.heap.size w w3):=qh ((hB.out.trans (aE.out.mono qE.out)).trans (b3.out.mono (by have:=kZ.out;have:=qE.out;omega)));go_loopw [9,10,45] (fun _ _ s45 wr=>∃j:Nat,j<=ps.length/\s45=.int .i64 j/\Hid ((∀(k:Nat) (b:Bool),k<j->TT[k]?=some b->b=true)/\Kept R (fun k=>k=R) w3 wr/\wr.heap[R]?=some (.cells (zf [.int .i64 o,.int .i64 p,.int .i64 r,.int .i64 v,.int .i64 g,.slice q l.length d] (ps.take j)).toArray 24 (0,0)))) (fun _ _ s45 _=>ps.length-(intOf s45).toNat)
     case atStart=>exact⟨0,by omega,rfl,qh ⟨fun k b h=>absurd h (AU _),Qe9 0,kr.out⟩⟩
     case round=>
      obtain⟨j,hj,rfl,ae⟩:=hrel;by_cases af:j<ps.length
      ·have bh:((j:Int)<ps.length)=True:=by simp;omega
       have eE:(j:Int)<ps.length:=by omega
       obtain⟨x,mm,hx,km,ud,lJ⟩:=ke.out j af;obtain⟨ga,ea,ji⟩:=gM.out j af;obtain⟨gm,em,sL⟩:=nB.out j (by have:=ix.out;omega);have vM:w2.heap.size<=ga:=oa.out ga (by rw[ea];rfl);have vN:w2.heap.size<=gm:=om.out gm (by rw[em];rfl);have qm:MM[j]'(by have:=ix.out;omega)=mm:=by rw[Aj (by have:=ix.out;omega)]at km;exact Ap km
       rw[qm]at sL;subst ea em;have fE:=kZ.out;have g0:=ae.out.2.1.cell ji (.inr (fun e=>by omega));have g1:=ae.out.2.1.cell sL (.inr (fun e=>by omega));have g2:=Zu ae.out.2.2 ud;have g3:wr.frozen? ⟨R,ps[j],none⟩=false:=Lib.frozen_of_heap ae.out.2.2 _;have du:=qh (fun k=>Q00 (W:=wr.drewN k) (i:=ps[j]) ae.out.2.2 (.int .i64 0));rw[<-uc.out _ _ af]at du;have aN:=qh (fun k=>(ae.out.2.1.trans (Qe9 k)).trans (Kept.setCell (o:=ps[j]) (wr.drewN k) (.int .i64 0) (bx:=fun k=>k=R) rfl (A4 R)));have ab:=fun W=>Q56 x 0 mm W
       have gy:inr 0 mm x=(decide (0<=x)&&decide (x<=mm)):=rfl;rw[<-gy]at ab;clear gy hx km ud ji sL vM vN qm fE;generalize ps[j]=pj at *;cases ey:inr 0 mm x with
       | true=>
        rw[ey]at ab lJ;replace ab:=qh ab;replace lJ:=qh lJ;replace ey:=qh ey;go_wp2_with fail;go_quiet ((go_at_call 75;with_reducible exact Calls.quiet_of_same (ab.out _)))
        go_wp2_with fail;go_roundw
        case rel=>exact⟨j+1,by omega,by go_num,qh ⟨fun k b hk hb=>by
         rcases AR k j with h|h
         ·exact ae.out.1 k b h hb
         ·obtain rfl:k=j:=by omega
          rw[lJ.out]at hb;exact(Ap hb).symm,aN.out _,du.out _⟩⟩
        case measure=>simp[intOf];omega
       | false=>
        rw[ey]at ab lJ;replace ab:=qh ab;replace lJ:=qh lJ;replace ey:=qh ey;have lB:=qh (kh.out.trans (ae.out.2.1.1.mono qE.out));go_wp2_with fail;go_quiet ((go_at_call 75;with_reducible exact Calls.quiet_of_same (ab.out _)))
        go_wp2_with fail;refine bodyPost_ret (v:=.int .i64 2) (by simp[results,results78,go_sem]) rfl ⟨?_,Y9 lB.out _⟩;rw[hr.out,iC.out,if_pos (bm.out _ lJ.out)];rfl
      ·have bh:((j:Int)<ps.length)=False:=by simp;omega
       obtain rfl:j=ps.length:=by omega
       have ue:fbad n o p r v g=false:=bj.out (fun k b hb=>ae.out.1 k b (by
        rcases AR k ps.length with h|h
        ·exact h
        ·rw[Bb (by have:=ej.out;omega)]at hb;cases hb) hb)
       have mZ:=qh (iC.out.trans (if_neg (by rw[ue];decide)));have fP:=ae.out.2.2;rw[BS,lI.out]at fP;have d1:=Zu (i:=1) fP rfl;have d2:=Zu (i:=2) fP rfl;have d3:=Zu (i:=3) fP rfl;have d4:=Zu (i:=4) fP rfl;have dI:=qh (kh.out.trans (ae.out.2.1.1.mono qE.out));have a7:=qh ((aE.out.trans (b3.out.mono (Cf kZ.out))).trans ae.out.2.1.1);obtain⟨c0,c1,c2,c3,c4,c5⟩:=hF.out _ a7.out;have key3:Hid (foff o p r v g=true->res=3):=qh (fun h=>by rw[hr.out,mZ.out,if_pos h]<;>rfl);have key0:Hid (foff o p r v g=false->res=fnodesL n l):=qh (fun h=>by rw[hr.out,mZ.out,if_neg (by rw[h];decide)]<;>rfl);clear ae ke uc bj bm ue iC mZ fP lI gM nB oa om dc kr hr ub cy;rcases Qmj r1 r2 r3 r4 with h1|⟨rfl,h1⟩|⟨rfl,rfl,h1⟩|⟨rfl,rfl,rfl,h1⟩|⟨rfl,rfl,rfl,rfl⟩
       case inr.inr.inr.inr=>
        have ie:=qh (key0.out (by rw[fl.out];rfl));clear key3 key0 fl;go_wp2_with fail;clear d1 d2 d3 d4 c0 c1 c2 c3 c4 c5;go_loopw [83] (fun s83 wr=>(∃j:Nat,j<=l.length/\s83=.int .i64 j/\Hid (fnodesL n l=fnodesL n (l.drop j)))/\Hid (Below w.heap.size w wr)) (fun s83 _=>l.length-(intOf s83).toNat)
        case atStart=>exact⟨⟨0,by omega,rfl,qh rfl⟩,dI⟩
        case round=>
         obtain⟨⟨j,hj,rfl,bD⟩,hb⟩:=hrel;by_cases af:j<l.length
         ·have bh:((j:Int)<l.length)=True:=by simp;omega
          have ae:=Qdj (n:=n) af;obtain⟨b,oo,u,e,rfl,hu,aU⟩:=(ad.out.low hb.out).get j af;have ay:=Av (Ah af);have ab:=fun W (h:Below wr.heap.size wr W)=>ih.out l[j] (by omega) (av.out j af) u e W (aU.low h)
          replace bD:=qh (bD.out.trans ae);have eE:(j:Int)<l.length:=by omega
          clear ae ay aU;generalize l[j]=x at *;obtain⟨u0,u1,u2,u3,u4,u5⟩:=hu;replace ab:∀W,Below wr.heap.size wr W->Calls prog 78 #[fmV x u e,.int .i64 n] W fun e' w'=>e'=.returned (.int .i64 (fnodes n x))/\Below W.heap.size W w':=ab
          generalize fnodes n x=ex at *;have hq:=boxF wr (.int .i64 x.op) (.int .i64 x.pr) (.int .i64 x.ot) (.int .i64 x.va) (.int .i64 x.gr) (.slice u x.args.length e) rfl;by_cases hex:ex=0
          ·replace bD:=qh (bD.out.trans (if_neg (fun h=>h hex)))
           subst hex;replace ab:Hid (∀W,Below wr.heap.size wr W->Calls prog 78 #[fmV x u e,.int .i64 n] W fun e' w'=>e'=.returned (.int .i64 0)/\Below W.heap.size W w'):=qh ab;go_upto_region 33 with(fail);generalize A0 wr _=w5 at hq⊢;obtain⟨eY,iQ,bR6,f0,f1,f2,f3,f4,f5⟩:=hq;go_wp2_with (go_at_call 78;(with_reducible refine(ab.out _ eY.out).mono ?_);rintro e' w6 ⟨rfl,b6⟩;replace b6:=qs eY b6);go_roundw
           case rel=>exact⟨⟨j+1,by omega,by go_num,bD⟩,qt hb b6⟩
           case measure=>simp[intOf];omega
          ·obtain⟨j5,kJ,qO⟩:=Jv hex
           replace bD:=qh (bD.out.trans (if_pos hex));replace ab:=qh ab;clear hex;go_upto_region 33 with(fail);generalize A0 wr _=w5 at hq⊢;obtain⟨eY,iQ,bR6,f0,f1,f2,f3,f4,f5⟩:=hq;go_wp2_with (go_at_call 78;(with_reducible refine(ab.out _ eY.out).mono ?_);rintro e' w6 ⟨rfl,b6⟩;replace b6:=qs eY b6);refine bodyPost_ret (v:=.int .i64 ex) (by simp[results,results78,go_sem]) rfl ⟨by rw[ie.out,bD.out],hb.out.trans (b6.out.mono hb.out.size)⟩
         ·have bh:((j:Int)<l.length)=False:=by simp;omega
          go_wp2_with fail;refine bodyPost_ret (v:=.int .i64 0) (by simp[results,results78,go_sem]) rfl ⟨?_,hb.out⟩;rw[ie.out,bD.out,AF (by omega),Qdk];rfl
       all_goals have ie:=qh (key3.out (by rw[fl.out];simp[h1]));obtain⟨t1,t2,t3⟩:=Zn h1;clear h1 key3 key0 fl;go_wp2_with fail;refine bodyPost_ret (v:=.int .i64 3) (by simp[results,results78,go_sem]) rfl ⟨by rw[ie.out]<;>rfl,dI.out⟩
theorem Qs3(f:Fm)(n:Int)(hz:fsz f<=1000000)(q:Option Addr)(d:Nat)(w:World)(ad:FmR w f.args (.slice q f.args.length d)):Calls prog 16 #[fmV f q d,.int .i64 n] w (Zv w (fcheck n f)):=by
 have hR:Hid (∀W,Calls prog 47 #[.int .i64 n,.int .i64 1,.int .i64 5] W fun e w'=>e=.returned (.bool (decide (1<=n)&&decide (n<=5)))/\w'=W):=qh (fun W=>Q0u n 1 5 W);have hZ:=qh (fun W (hb:Below w.heap.size w W)=>Qgj _ f (Ab _) hz q d W (ad.low hb));obtain⟨res,hr⟩:∃x,Hid (x=fcheck n f):=⟨_,qh rfl⟩;rw[<-hr.out];by_cases hn:1<=n/\n<=5
 ·obtain⟨cq,cn⟩:=hn
  have hN:=qh (fun W (hb:Below w.heap.size w W)=>Qsi n cq cn _ f (Ab _) hz q d W (ad.low hb));replace hr:=qh (hr.out.trans (if_neg (by omega)));rw[decide_eq_true cq,decide_eq_true cn]at hR;replace hR:Hid (∀W,Calls prog 47 #[.int .i64 n,.int .i64 1,.int .i64 5] W fun e w'=>e=.returned (.bool true)/\w'=W):=hR;have hG:Hid (∀W,Calls prog 48 #[.int .i64 (fsz f),.int .i64 (fdp f)] W fun e w'=>e=.returned (.int .i64 (fbig (fsz f) (fdp f)))/\w'=W):=qh (fun W=>Qg3 (fsz f) (fdp f) W);clear cq cn ad;unfold Zv at hN;unfold Q11 at hZ;generalize fsz f=s at *;generalize fdp f=dd at *;generalize fnodes n f=en at *;generalize fbig s dd=eb at *;replace hr:=qh hr.out;obtain⟨o,p,r,v,g,l⟩:=f;replace hZ:Hid (∀W,Below w.heap.size w W->Calls prog 14 #[.agg #[.int .i64 o,.int .i64 p,.int .i64 r,.int .i64 v,.int .i64 g,.slice q l.length d]] W fun e w'=>e=.returned (.tuple #[.int .i64 s,.int .i64 dd])/\Below W.heap.size W w'):=hZ;replace hN:Hid (∀W,Below w.heap.size w W->Calls prog 49 #[.agg #[.int .i64 o,.int .i64 p,.int .i64 r,.int .i64 v,.int .i64 g,.slice q l.length d],.int .i64 n] W fun e w'=>e=.returned (.int .i64 en)/\Below W.heap.size W w'):=hN;show Calls prog 16 #[.agg #[.int .i64 o,.int .i64 p,.int .i64 r,.int .i64 v,.int .i64 g,.slice q l.length d],.int .i64 n] w _;generalize l.length=k at *;by_cases he:eb=0
  ·replace hr:=qh (hr.out.trans (if_neg (fun h=>h he)))
   subst he;replace hG:Hid (∀W,Calls prog 48 #[.int .i64 s,.int .i64 dd] W fun e w'=>e=.returned (.int .i64 0)/\w'=W):=hG;have hq:=boxF w (.int .i64 o) (.int .i64 p) (.int .i64 r) (.int .i64 v) (.int .i64 g) (.slice q k d) rfl;go_enter func16,ntmps16;go_upto_region 1 with(fail);generalize A0 w _=w1 at hq⊢;obtain⟨hB,hF,bR,c0,c1,c2,c3,c4,c5⟩:=hq;go_wp2_with (first|(go_at_call 47;(with_reducible refine(hR.out _).mono ?_);rintro e w2 ⟨rfl,hw⟩;rw[hw];clear hw)|(go_at_call 14;(with_reducible refine(hZ.out _ hB.out).mono ?_);rintro e w2 ⟨rfl,b2⟩;obtain⟨d0,d1,d2,d3,d4,d5⟩:=hF.out _ b2;replace b2:=qs hB b2)|(go_at_call 48;(with_reducible refine(hG.out _).mono ?_);rintro e w3 ⟨rfl,hw⟩;rw[hw];clear hw)|(go_at_call 49;(with_reducible refine(hN.out _ b2.out).mono ?_);rintro e w4 ⟨rfl,b4⟩));all_goals go_ret;exact⟨by rw[hr.out]<;>rfl,qs b2 b4⟩
  ·obtain⟨j5,kJ,qO⟩:=Jv he
   replace hr:=qh (hr.out.trans (if_pos he));clear he;have hq:=boxF w (.int .i64 o) (.int .i64 p) (.int .i64 r) (.int .i64 v) (.int .i64 g) (.slice q k d) rfl;go_enter func16,ntmps16;go_upto_region 1 with(fail);generalize A0 w _=w1 at hq⊢;obtain⟨hB,hF,bR,c0,c1,c2,c3,c4,c5⟩:=hq;go_wp2_with (first|(go_at_call 47;(with_reducible refine(hR.out _).mono ?_);rintro e w2 ⟨rfl,hw⟩;rw[hw];clear hw)|(go_at_call 14;(with_reducible refine(hZ.out _ hB.out).mono ?_);rintro e w2 ⟨rfl,b2⟩;replace b2:=qs hB b2)|(go_at_call 48;(with_reducible refine(hG.out _).mono ?_);rintro e w3 ⟨rfl,hw⟩;rw[hw];clear hw));all_goals go_ret;exact⟨by rw[hr.out]<;>rfl,b2.out⟩
 ·replace hr:=qh (hr.out.trans (if_pos (by omega)))
  have nH:(decide (1<=n)&&decide (n<=5))=false:=by rw[Bz,decide_eq_false_iff_not,decide_eq_false_iff_not];omega
  rw[nH]at hR;obtain⟨o,p,r,v,g,l⟩:=f;show Calls prog 16 #[.agg #[.int .i64 o,.int .i64 p,.int .i64 r,.int .i64 v,.int .i64 g,.slice q l.length d],.int .i64 n] w _;clear hZ ad hn hz nH;generalize l.length=k at *;have hq:=boxF w (.int .i64 o) (.int .i64 p) (.int .i64 r) (.int .i64 v) (.int .i64 g) (.slice q k d) rfl;go_enter func16,ntmps16;go_upto_region 1 with(fail);generalize A0 w _=w1 at hq⊢;obtain⟨hB,hF,bR,c0,c1,c2,c3,c4,c5⟩:=hq;go_wp2_with (go_at_call 47;(with_reducible refine(hR.out _).mono ?_);rintro e w2 ⟨rfl,hw⟩;rw[hw];clear hw);all_goals go_ret;exact⟨by rw[hr.out];rfl,hB.out⟩
theorem Qfn(f:Fm)(n:Int)(hz:fsz f<=1000000)(q:Option Addr)(d:Nat)(w:World)(ad:FmR w f.args (.slice q f.args.length d)):Calls prog 46 #[fmV f q d,.int .i64 n] w (Zv w (fcheck n f)):=by
 have hR:Hid (∀W,Calls prog 75 #[.int .i64 n,.int .i64 1,.int .i64 5] W fun e w'=>e=.returned (.bool (decide (1<=n)&&decide (n<=5)))/\w'=W):=qh (fun W=>Q56 n 1 5 W);have hZ:=qh (fun W (hb:Below w.heap.size w W)=>Qg2 _ f (Ab _) hz q d W (ad.low hb));obtain⟨res,hr⟩:∃x,Hid (x=fcheck n f):=⟨_,qh rfl⟩;rw[<-hr.out];by_cases hn:1<=n/\n<=5
 ·obtain⟨cq,cn⟩:=hn
  have hN:=qh (fun W (hb:Below w.heap.size w W)=>Qr2 n cq cn _ f (Ab _) hz q d W (ad.low hb));replace hr:=qh (hr.out.trans (if_neg (by omega)));rw[decide_eq_true cq,decide_eq_true cn]at hR;replace hR:Hid (∀W,Calls prog 75 #[.int .i64 n,.int .i64 1,.int .i64 5] W fun e w'=>e=.returned (.bool true)/\w'=W):=hR;have hG:Hid (∀W,Calls prog 76 #[.int .i64 (fsz f),.int .i64 (fdp f)] W fun e w'=>e=.returned (.int .i64 (fbig (fsz f) (fdp f)))/\w'=W):=qh (fun W=>Qv9 (fsz f) (fdp f) W);clear cq cn ad;unfold Zv at hN;unfold Q11 at hZ;generalize fsz f=s at *;generalize fdp f=dd at *;generalize fnodes n f=en at *;generalize fbig s dd=eb at *;replace hr:=qh hr.out;obtain⟨o,p,r,v,g,l⟩:=f;replace hZ:Hid (∀W,Below w.heap.size w W->Calls prog 77 #[.agg #[.int .i64 o,.int .i64 p,.int .i64 r,.int .i64 v,.int .i64 g,.slice q l.length d]] W fun e w'=>e=.returned (.tuple #[.int .i64 s,.int .i64 dd])/\Below W.heap.size W w'):=hZ;replace hN:Hid (∀W,Below w.heap.size w W->Calls prog 78 #[.agg #[.int .i64 o,.int .i64 p,.int .i64 r,.int .i64 v,.int .i64 g,.slice q l.length d],.int .i64 n] W fun e w'=>e=.returned (.int .i64 en)/\Below W.heap.size W w'):=hN;show Calls prog 46 #[.agg #[.int .i64 o,.int .i64 p,.int .i64 r,.int .i64 v,.int .i64 g,.slice q l.length d],.int .i64 n] w _;generalize l.length=k at *;by_cases he:eb=0
  ·replace hr:=qh (hr.out.trans (if_neg (fun h=>h he)))
   subst he;replace hG:Hid (∀W,Calls prog 76 #[.int .i64 s,.int .i64 dd] W fun e w'=>e=.returned (.int .i64 0)/\w'=W):=hG;have hq:=boxF w (.int .i64 o) (.int .i64 p) (.int .i64 r) (.int .i64 v) (.int .i64 g) (.slice q k d) rfl;go_enter func46,ntmps46;go_upto_region 1 with(fail);generalize A0 w _=w1 at hq⊢;obtain⟨hB,hF,bR,c0,c1,c2,c3,c4,c5⟩:=hq;go_wp2_with (first|(go_at_call 75;(with_reducible refine(hR.out _).mono ?_);rintro e w2 ⟨rfl,hw⟩;rw[hw];clear hw)|(go_at_call 77;(with_reducible refine(hZ.out _ hB.out).mono ?_);rintro e w2 ⟨rfl,b2⟩;obtain⟨d0,d1,d2,d3,d4,d5⟩:=hF.out _ b2;replace b2:=qs hB b2)|(go_at_call 76;(with_reducible refine(hG.out _).mono ?_);rintro e w3 ⟨rfl,hw⟩;rw[hw];clear hw)|(go_at_call 78;(with_reducible refine(hN.out _ b2.out).mono ?_);rintro e w4 ⟨rfl,b4⟩));all_goals go_ret;exact⟨by rw[hr.out]<;>rfl,qs b2 b4⟩
  ·obtain⟨j5,kJ,qO⟩:=Jv he
   replace hr:=qh (hr.out.trans (if_pos he));clear he;have hq:=boxF w (.int .i64 o) (.int .i64 p) (.int .i64 r) (.int .i64 v) (.int .i64 g) (.slice q k d) rfl;go_enter func46,ntmps46;go_upto_region 1 with(fail);generalize A0 w _=w1 at hq⊢;obtain⟨hB,hF,bR,c0,c1,c2,c3,c4,c5⟩:=hq;go_wp2_with (first|(go_at_call 75;(with_reducible refine(hR.out _).mono ?_);rintro e w2 ⟨rfl,hw⟩;rw[hw];clear hw)|(go_at_call 77;(with_reducible refine(hZ.out _ hB.out).mono ?_);rintro e w2 ⟨rfl,b2⟩;replace b2:=qs hB b2)|(go_at_call 76;(with_reducible refine(hG.out _).mono ?_);rintro e w3 ⟨rfl,hw⟩;rw[hw];clear hw));all_goals go_ret;exact⟨by rw[hr.out]<;>rfl,b2.out⟩
 ·replace hr:=qh (hr.out.trans (if_pos (by omega)))
  have nH:(decide (1<=n)&&decide (n<=5))=false:=by rw[Bz,decide_eq_false_iff_not,decide_eq_false_iff_not];omega
  rw[nH]at hR;obtain⟨o,p,r,v,g,l⟩:=f;show Calls prog 46 #[.agg #[.int .i64 o,.int .i64 p,.int .i64 r,.int .i64 v,.int .i64 g,.slice q l.length d],.int .i64 n] w _;clear hZ ad hn hz nH;generalize l.length=k at *;have hq:=boxF w (.int .i64 o) (.int .i64 p) (.int .i64 r) (.int .i64 v) (.int .i64 g) (.slice q k d) rfl;go_enter func46,ntmps46;go_upto_region 1 with(fail);generalize A0 w _=w1 at hq⊢;obtain⟨hB,hF,bR,c0,c1,c2,c3,c4,c5⟩:=hq;go_wp2_with (go_at_call 75;(with_reducible refine(hR.out _).mono ?_);rintro e w2 ⟨rfl,hw⟩;rw[hw];clear hw);all_goals go_ret;exact⟨by rw[hr.out];rfl,hB.out⟩
theorem Q8d(f:Fm)(n:Int)(hz:fsz f<=1000000)(q:Option Addr)(d:Nat)(w:World)(ad:FmR w f.args (.slice q f.args.length d)):Calls prog 15 #[fmV f q d,.int .i64 n] w (Zv w (fcheck n f)):=by
 have hZ:=fun W (hb:Below w.heap.size w W)=>Qfn f n hz q d W (ad.low hb)
 clear ad hz;unfold Zv at hZ⊢;generalize fcheck n f=res at *;obtain⟨o,p,r,v,g,l⟩:=f;replace hZ:Hid (∀W,Below w.heap.size w W->Calls prog 46 #[.agg #[.int .i64 o,.int .i64 p,.int .i64 r,.int .i64 v,.int .i64 g,.slice q l.length d],.int .i64 n] W fun e w'=>e=.returned (.int .i64 res)/\Below W.heap.size W w'):=qh hZ;show Calls prog 15 #[.agg #[.int .i64 o,.int .i64 p,.int .i64 r,.int .i64 v,.int .i64 g,.slice q l.length d],.int .i64 n] w _;generalize l.length=k at *;have hq:=boxF w (.int .i64 o) (.int .i64 p) (.int .i64 r) (.int .i64 v) (.int .i64 g) (.slice q k d) rfl;go_enter func15,ntmps15;go_upto_region 1 with(fail);generalize A0 w _=w1 at hq⊢;obtain⟨hB,hF,bR,c0,c1,c2,c3,c4,c5⟩:=hq;go_wp2_with (go_at_call 46;(with_reducible refine(hZ.out _ hB.out).mono ?_);rintro e w2 ⟨rfl,b2⟩);all_goals go_ret;exact⟨rfl,qs hB b2⟩
mutual
theorem Q8r:∀(f:Fm) (neg:Bool),fsz (fnorm f neg)<=2*fsz f
 | .mk a b c d e l,neg=>by
  rw[Qdn];have hl:=Qdm l;split
  ·cases l with
   | nil=>rw[Qo,Qo,Q0a];omega
   | cons x r=>have:=Q8r x (!neg);rw[Qo,J8];show fsz (fnorm x (!neg))<=_;omega
  ·split
   ·have:=hl true
    rw[Qo,Qo];omega
   ·split
    ·have:=hl false
     rw[Qo,J8,Q0a,Qo,Qo];omega
    ·have:=hl false
     rw[Qo,Qo];omega
theorem Qdm:∀(l:List Fm) (neg:Bool),fszL (fnormL l neg)<=2*fszL l
 | [],neg=>by rw[Q8q,Q0a];omega
 | x::r,neg=>by rw[Q8p,J8,J8];have:=Q8r x neg;have:=Qdm r neg;omega
end
def fnormal(n:Int)(f:Fm):Fm×Nat:=if fcheck n f≠0 then(Qg,fcheck n f)else if 128<fsz (fnorm f false)then(Qg,5)else(fnorm f false,0)
def Qbr(w:World)(r:Fm×Nat)(e:Ending)(w':World):Prop:=∃q d,e=.returned (.tuple #[fmV r.1 q d,.int .i64 r.2])/\FmsAt (Fr w.heap.size) w' r.1.args (.slice q r.1.args.length d)/\Below w.heap.size w w'
theorem Qa7(f:Fm)(n:Int)(hz:fsz f<=400000)(q:Option Addr)(d:Nat)(w:World)(hG:Jp w)(ad:FmR w f.args (.slice q f.args.length d)):Calls prog 27 #[fmV f q d,.int .i64 n] w (Qbr w (fnormal n f)):=by
 have hC:=qh (fun W (hb:Below w.heap.size w W)=>Q8d f n (by omega) q d W (ad.low hb));have hN:=qh (fun(h0:fnodes n f=0) W (hb:Below w.heap.size w W)=>Qr3 (n:=n) _ f (Ab _) (by omega) h0 false q d W (hG.low hb) (ad.low hb));have il:=Q8r f false;obtain⟨y,hy⟩:∃y,Hid (y=fnorm f false):=⟨_,qh rfl⟩;rw[<-hy.out]at hN il;have hZ:=qh (fun q' d' W (h:FmR W y.args (.slice q' y.args.length d'))=>Qmo _ y (Ab _) (by omega) q' d' W h);obtain⟨res,hr⟩:∃x,Hid (x=fnormal n f):=⟨_,qh rfl⟩;rw[<-hr.out];have bi:=qh (fun h=>(Q3m (n:=n) (f:=f) h).2.2.2);unfold fnormal at hr;rw[<-hy.out]at hr;unfold Zv at hC;unfold Q11 at hZ;generalize fcheck n f=ec at *;generalize fsz y=sy at *;clear ad hz il hy hG;obtain⟨o,p,r,v,g,l⟩:=f;replace hC:Hid (∀W,Below w.heap.size w W->Calls prog 15 #[.agg #[.int .i64 o,.int .i64 p,.int .i64 r,.int .i64 v,.int .i64 g,.slice q l.length d],.int .i64 n] W fun e w'=>e=.returned (.int .i64 ec)/\Below W.heap.size W w'):=hC;replace hN:Hid (fnodes n (.mk o p r v g l)=0->∀W,Below w.heap.size w W->Calls prog 59 #[.agg #[.int .i64 o,.int .i64 p,.int .i64 r,.int .i64 v,.int .i64 g,.slice q l.length d],.bool false] W (Q0j W y)):=hN;show Calls prog 27 #[.agg #[.int .i64 o,.int .i64 p,.int .i64 r,.int .i64 v,.int .i64 g,.slice q l.length d],.int .i64 n] w _;generalize l.length=m at *;obtain⟨hB,-,aR,ay⟩:=boxF2h w (.int .i64 o) (.int .i64 p) (.int .i64 r) (.int .i64 v) (.int .i64 g) (.slice q m d) (.int .i64 0) (.int .i64 0) (.int .i64 0) (.int .i64 0) (.int .i64 0) (.slice none 0 0) rfl;have hq:=boxF2 w (.int .i64 o) (.int .i64 p) (.int .i64 r) (.int .i64 v) (.int .i64 g) (.slice q m d) (.int .i64 0) (.int .i64 0) (.int .i64 0) (.int .i64 0) (.int .i64 0) (.slice none 0 0) rfl;replace hB:=qh hB;replace aR:=qh aR;replace ay:=qh ay;go_enter func27,ntmps27;go_upto_region 1 with(fail);generalize A0 (A0 w _) _=w1 at hq hB aR ay⊢;obtain⟨-,hF,-,⟨c0,c1,c2,c3,c4,c5⟩,-⟩:=hq;generalize a7:w.heap.size+1=B4 at aR hF⊢;replace a7:=qh a7;by_cases hec:ec=0
 case neg=>obtain⟨t1,t2,t3⟩:=Jv hec;replace hr:Hid (res=(Qg,ec)):=qh (hr.out.trans (if_pos hec));clear hec;go_upto_region 3 with(go_at_call 15;(with_reducible refine(hC.out _ hB.out).mono ?_);rintro e w2 ⟨rfl,b2⟩;replace b2:=qh b2);obtain⟨⟨s0,s1,s2,s3,s4,s5⟩,ac,ar⟩:=mret (w:=w) (S:=fun _=>False) (W:=w2) 0 0 0 0 0 .none (fun _ h=>h.elim) ((b2.out.block B4 (by have:=ay.out;have:=a7.out;omega)).trans aR.out) (by have:=a7.out;omega) (hB.out.trans (b2.out.mono hB.out.size));go_wp21;refine bodyPost_ret (v:=.tuple #[.agg #[.int .i64 0,.int .i64 0,.int .i64 0,.int .i64 0,.int .i64 0,.slice none 0 0],.int .i64 ec]) (by simp[results,results27,go_sem,s0,s1,s2,s3,s4,s5]) rfl ⟨none,0,by rw[hr.out];rfl,by rw[hr.out];exact ac.out.1,ac.out.2⟩
 case pos=>
  subst hec;replace hN:=qh (hN.out (bi.out rfl));replace hr:=qh (hr.out.trans (if_neg (fun h=>h rfl)));replace hC:Hid (∀W,Below w.heap.size w W->Calls prog 15 #[.agg #[.int .i64 o,.int .i64 p,.int .i64 r,.int .i64 v,.int .i64 g,.slice q m d],.int .i64 n] W fun e w'=>e=.returned (.int .i64 0)/\Below W.heap.size W w'):=hC;go_upto_region 5 with(first
   | (go_at_call 15;(with_reducible refine(hC.out _ hB.out).mono ?_);rintro e w2 ⟨rfl,b2⟩;obtain⟨⟨e0,e1,e2,e3,e4,e5⟩,-⟩:=hF.out _ b2;replace b2:=qh b2;have aE:=qt hB b2)
   | (go_at_call 59;(with_reducible refine(hN.out _ aE.out).mono ?_);rintro e w3 ⟨q',d',rfl,hx,b3⟩;replace hx:=qh hx;replace b3:=qh b3))
  have hq:=boxF w3 (.int .i64 y.op) (.int .i64 y.pr) (.int .i64 y.ot) (.int .i64 y.va) (.int .i64 y.gr) (.slice q' y.args.length d') rfl;generalize A0 w3 _=w4 at hq⊢;obtain⟨cY,qk,-,f0,f1,f2,f3,f4,f5⟩:=hq;clear c0 c1 c2 c3 c4 c5 e0 e1 e2 e3 e4 e5;have mz:=qh (hZ.out q' d' w4 ((Jt _ (Ab _) hx.out).low cY.out));have mp:Hid (B4<w2.heap.size/\w.heap.size<=B4):=qh (by have e1:=ay.out;have e2:=a7.out;have e3:=b2.out.size;exact⟨by omega,by omega⟩);by_cases aJ:128<sy
  ·have tY:((128:Int)<sy)=True:=by simp;omega
   replace hr:Hid (res=(Qg,5)):=qh (hr.out.trans (if_pos aJ));replace aJ:=qh aJ;go_upto_region 7 with(go_at_call 13;(with_reducible refine(mz.out).mono ?_);rintro e w5 ⟨rfl,b5⟩;replace b5:=qh b5);have aM:=(b2.out.trans (((b3.out.trans (cY.out.mono b3.out.size)).trans (b5.out.mono (Am b3.out.size cY.out.size))).mono b2.out.size));obtain⟨⟨s0,s1,s2,s3,s4,s5⟩,ac,ar⟩:=mret (w:=w) (S:=fun _=>False) (W:=w5) 0 0 0 0 0 .none (fun _ h=>h.elim) ((aM.block B4 (by have:=ay.out;have:=a7.out;omega)).trans aR.out) mp.out.2 (hB.out.trans (aM.mono hB.out.size));go_wp21;refine bodyPost_ret (v:=.tuple #[.agg #[.int .i64 0,.int .i64 0,.int .i64 0,.int .i64 0,.int .i64 0,.slice none 0 0],.int .i64 5]) (by simp[results,results27,go_sem,s0,s1,s2,s3,s4,s5]) rfl ⟨none,0,by rw[hr.out];rfl,by rw[hr.out];exact ac.out.1,ac.out.2⟩
  ·have tY:((128:Int)<sy)=False:=by simp;omega
   replace hr:Hid (res=(y,0)):=qh (hr.out.trans (if_neg aJ));replace aJ:=qh aJ;go_upto_region 8 with(go_at_call 13;(with_reducible refine(mz.out).mono ?_);rintro e w5 ⟨rfl,b5⟩;replace b5:=qh b5);have aM:=(b2.out.trans (((b3.out.trans (cY.out.mono b3.out.size)).trans (b5.out.mono (Am b3.out.size cY.out.size))).mono b2.out.size));have oP:=hx.out.keep (w':=w5) (S':=fun k=>w2.heap.size<=k) (fun k _ hs=>((cY.out.trans (b5.out.mono cY.out.size)).block k hs)) (fun _ _ h=>h);clear f0 f1 f2 f3 f4 f5;obtain⟨f0,f1,f2,f3,f4,f5⟩:=qk.out _ b5.out;obtain⟨⟨s0,s1,s2,s3,s4,s5⟩,ac,ar⟩:=mret (w:=w) (W:=w5) y.op y.pr y.ot y.va y.gr oP (fun k hk=>by have h1:=mp.out;have bY:w2.heap.size<=k:=hk;exact⟨by omega,by omega⟩) ((aM.block B4 (by have:=ay.out;have:=a7.out;omega)).trans aR.out) mp.out.2 (hB.out.trans (aM.mono hB.out.size));go_wp21;refine bodyPost_ret (v:=.tuple #[.agg #[.int .i64 y.op,.int .i64 y.pr,.int .i64 y.ot,.int .i64 y.va,.int .i64 y.gr,.slice q' y.args.length d'],.int .i64 0]) (by simp[results,results27,go_sem,s0,s1,s2,s3,s4,s5]) rfl ⟨q',d',by rw[hr.out];rfl,by rw[hr.out];exact ac.out.1,ac.out.2⟩
end Go.Proofs.YtakdifceogdioaaGreatDoor