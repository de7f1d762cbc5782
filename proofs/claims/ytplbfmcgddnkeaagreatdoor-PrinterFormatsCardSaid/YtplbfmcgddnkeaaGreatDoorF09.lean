/- Walks of functions, and plain facts. -/
import Derived.Handy
import Derived.Test.YtplbfmcgddnkeaaGreatDoorF05
import Derived.Test.YtplbfmcgddnkeaaGreatDoorF06
import Derived.Test.YtplbfmcgddnkeaaGreatDoorF07
import Derived.Test.YtplbfmcgddnkeaaGreatDoorF08
import Derived.Test.YtplbfmcgddnkeaaGreatDoorF01
import Derived.Test.YtplbfmcgddnkeaaGreatDoorF02
import Derived.Test.YtplbfmcgddnkeaaGreatDoorF03
set_option linter.unusedVariables false
set_option linter.unusedSimpArgs false
set_option maxHeartbeats 20000000
set_option maxRecDepth 100000
namespace Go.Proofs.YtplbfmcgddnkeaaGreatDoor
open Tryz
open Go.RowKit
theorem Qpd:∀(m:Nat) (t:Syn),SizeOf.sizeOf t<m→Mod t→∀(k:Nat),k≤2→∀(q:Option Addr) (d:Nat) (W:World),Q02 W→Q05 W→KidR W t.kids (.slice q t.kids.length d) →
  Calls prog 56 #[.int .i64 k,Q2 t q d] W (Q8 W (okP k t)):=by
 intro m;induction m with
 | zero=>intro t h;omega
 | succ m ih=>
  intro t hm hM k hk q d w hg hsp hks;obtain⟨kd,tx,n,a,ks⟩:=t;have hks:KidR w ks (.slice q ks.length d):=hks;have hl:ks.length≤100000:=hM.len;have ht:tx.length≤1000000:=hM.text;have hV:∀w',Below w.heap.size w w'→Q88 w' ks:=fun w' hb' i hi k hk q d W hb hkk=>by have h1:=List.sizeOf_lt_of_mem (List.getElem_mem hi);simp only[Syn.mk.sizeOf_spec]at hm;exact ih _ (by omega) (hM.kid _ (List.getElem_mem hi)) k hk q d W (Q2g (Q2g hg hb') hb) ((hsp.below hb').below hb) hkk
  have hV0:=hV w (Below.refl _ _);by_cases h8:kd=8
  ·subst h8;exact Qta k hk tx n a ks q d w ht hg hsp
  by_cases h9:kd=9
  ·subst h9;exact Qsg k hk tx n a ks q d w
  by_cases h11:kd=11
  ·subst h11;exact Qsw k hk tx n a ks q d w hl hks (fun i hi=>hV0 i hi k hk)
  by_cases h12:kd=12
  ·subst h12;exact Quv k hk tx n a ks q d w hl hks (fun i hi=>hV0 i hi k hk)
  by_cases h13:kd=13
  ·subst h13;exact Qvx k hk tx n a ks q d w hl (fun z hz=>(hM.kid z hz).text) hg hsp hks (fun i hi=>hV0 i hi k hk)
  by_cases h10:kd=10
  ·subst h10
   refine Qwr k hk tx n a ks q d w (fun W hb=>?_);have hkW:=hks.low hb;have hVW:=hV W hb;match k,hk with
   | 0,_=>exact Qwl tx n a ks q d W hl hkW hVW
   | 1,_=>exact Qvg tx n a ks q d W hl hkW hVW
   | 2,_=>
    match ks,hM,hkW,hVW with
    | [],_,_,_=>exact Qsl tx n a q d W
    | [x],_,hkW,hVW=>exact Qqx tx n a x q d W hkW hVW
    | [x,y],hM,hkW,hVW=>exact Qwj tx n a x y q d W (fun z hz=>(hM.kid z hz).len) hkW hVW
    | x::y::z::l,_,_,_=>exact Qv3 tx n a x y z l q d W
  exact Qsy k kd tx n a ks q d w h8 h9 h10 h11 h12 h13
theorem Q9p(t:Syn)(hM:Mod t)(k:Nat)(hk:k≤2)(q:Option Addr)(d:Nat)(W:World)(hg:Q02 W)(hsp:Q05 W)(hks:KidR W t.kids (.slice q t.kids.length d)):
  Calls prog 56 #[.int .i64 k,Q2 t q d] W (Q8 W (okP k t)):=Qpd _ t (Nat.lt_succ_self _) hM k hk q d W hg hsp hks
end Go.Proofs.YtplbfmcgddnkeaaGreatDoor
namespace Go.Proofs.YtplbfmcgddnkeaaGreatDoor
open Tryz
def Qgv(t:Tok):Prop:=t.kind=1→t.text≠[]∧(∀c∈t.text,Qe c.toNat=true)∧dv 0 t.text≤1048576
theorem Qti{l:List UInt8}{n:Nat}(h:tok l=.ok (1,n)):l.take n≠[]∧(∀c∈l.take n,Qe c.toNat=true)∧dv 0 (l.take n)≤1048576:=by
 unfold tok at h;by_cases h1:Q1 Q7 l=0
 ·rw[if_pos h1]at h;split at h<;>simp at h
 rw[if_neg h1]at h;by_cases h2:Q1 Q0s l=0
 ·rw[if_pos h2]at h
  by_cases h3:Q1 Qe l<Q1 Q7 l
  ·rw[if_pos h3]at h;simp at h
  rw[if_neg h3]at h;by_cases h4:(Q2p 0 (l.take (Q1 Q7 l))).isNone=true
  ·rw[if_pos h4]at h;simp at h
  rw[if_neg h4]at h;simp only[Except.ok.injEq,Prod.mk.injEq,true_and]at h;subst h;have hle:=Q3c Q7 l;refine⟨fun e=>?_,fun c hc=>?_,?_⟩
  ·have:min (Q1 Q7 l) l.length=0:=by rw[←List.length_take,e];rfl
   omega
  ·refine Qec Qe l c ?_
   have hm:=Q3c Qe l;have:l.take (Q1 Q7 l)=(l.take (Q1 Qe l)).take (Q1 Q7 l):=by rw[List.take_take,Nat.min_eq_left (by omega)]
   rw[this]at hc;exact List.mem_of_mem_take hc
  ·rw[Qeb _ _ (by omega)]at h4
   split at h4
   ·assumption
   ·simp at h4
 ·rw[if_neg h2]at h
  split at h<;>simp at h
theorem Qsh(f:Nat):∀(p:Nat) (l:List UInt8) (ts:List Tok),Q0e f p l=.ok ts→∀t∈ts,Qgv t∧t.text.length≤l.length:=by
 induction f with
 | zero=>intro p l ts h;simp[Q0e]at h;subst h;simp
 | succ f ih=>
  intro p l ts h;simp only[Q0e]at h;split at h
  ·simp only[Except.ok.injEq]at h;subst h
   intro t ht;rw[List.mem_singleton.1 ht];exact⟨fun h=>by simp at h,by simp⟩
  ·rename_i c r hd
   have hlen:(c::r).length≤l.length:=by rw[←hd];simp
   split at h
   ·simp at h
   ·rename_i kind n ht
    split at h
    ·simp at h
    ·rename_i us hu
     simp only[Except.ok.injEq]at h;subst h;intro t hm;rcases List.mem_cons.1 hm with rfl|hm
     ·refine⟨fun hk=>?_,by rw[List.length_take];omega⟩
      have hk1:kind=1:=by simp only at hk;omega
      subst hk1;exact Qti ht
     ·obtain⟨q1,q2⟩:=ih _ _ _ hu t hm
      refine⟨q1,Nat.le_trans q2 ?_⟩;rw[List.length_drop];omega
theorem Qpy(f:Nat):∀(p:Nat) (l:List UInt8) (ts:List Tok),l.length<f→Q0e f p l=.ok ts→∃a t,ts=a++[t]∧t.kind=3:=by
 induction f with
 | zero=>intro p l ts hl;omega
 | succ f ih=>
  intro p l ts hl h;simp only[Q0e]at h;split at h
  ·simp only[Except.ok.injEq]at h;subst h
   exact⟨[],_,rfl,rfl⟩
  ·rename_i c r hd
   have hlen:(c::r).length≤l.length:=by rw[←hd];simp
   split at h
   ·simp at h
   ·rename_i kind n ht
    have hp:=Q3r ht;split at h
    ·simp at h
    ·rename_i us hu
     simp only[Except.ok.injEq]at h;subst h;obtain⟨a,t,rfl,hk⟩:=ih _ _ _ (by rw[List.length_drop];omega) hu;exact⟨_::a,t,rfl,hk⟩
theorem Qir(x:UInt8)(r:List UInt8):skip false (x::r)=if x.toNat=35 then skip true r+1 else if Q0f x.toNat then skip false r+1 else 0:=rfl
theorem Qfp(f:Nat):∀(p:Nat) (l:List UInt8) (ts:List Tok),0<f→Q0e f p l=.ok ts→l.length<f→ts≠[]:=by
 induction f with
 | zero=>intro p l ts h;omega
 | succ f ih=>
  intro p l ts _ h hl;simp only[Q0e]at h;split at h
  ·simp at h;rw[←h];simp
  ·split at h
   ·simp at h
   ·split at h
    ·simp at h
    ·simp at h;rw[←h];simp
def Stand(s:List UInt8):Nat→List Tok→Prop
 | at0,[]=>at0=s.length
 | at0,t::r=>(t.pos=(at0+skip false (s.drop at0):Nat))∧at0+skip false (s.drop at0)+t.text.length≤s.length ∧
   (s.drop (at0+skip false (s.drop at0))).take t.text.length=t.text∧(t.kind=3↔r=[])∧Stand s (at0+skip false (s.drop at0)+t.text.length) r
theorem Q71{l:List UInt8}{k n:Nat}(h:tok l=.ok (k,n)):k≤2:=by unfold tok at h;(repeat' split at h)<;>simp at h<;>omega
theorem Quy(s:List UInt8)(f:Nat):∀(p:Nat) (ts:List Tok),p≤s.length→(s.drop p).length<f→Q0e f p (s.drop p)=.ok ts→Stand s p ts:=by
 induction f with
 | zero=>intro p ts _ h;omega
 | succ f ih=>
  intro p ts hp hf h;have hk:=Q4u false (s.drop p);rw[List.length_drop]at hk hf;simp only[Q0e,List.drop_drop]at h;split at h
  ·rename_i hd
   simp only[Except.ok.injEq]at h;subst h;have:s.length≤p+skip false (s.drop p):=by have:=congrArg List.length hd;rw[List.length_drop,List.length_nil]at this;omega
   refine⟨rfl,by simp;omega,by simp,by simp,?_⟩;simp only[List.length_nil,Nat.add_zero,Stand];omega
  ·rename_i c r hd
   have hlen:(c::r).length=s.length-(p+skip false (s.drop p)):=by rw[←hd,List.length_drop]
   cases ht:tok (c::r)with
   | error x=>rw[ht]at h;simp at h
   | ok x=>
    obtain⟨kd,m⟩:=x;have hm:=Q3r ht;have hkd:=Q71 ht;rw[ht]at h;simp only[]at h;rw[←hd,List.drop_drop]at h;cases hr:Q0e f (p+skip false (s.drop p)+m) (s.drop (p+skip false (s.drop p)+m))with
    | error x=>rw[hr]at h;simp at h
    | ok us=>
     rw[hr]at h;simp only[Except.ok.injEq]at h;subst h;have hu:=ih _ _ (by omega) (by rw[List.length_drop];omega) hr;have hl:((s.drop (p+skip false (s.drop p))).take m).length=m:=by rw[List.length_take,List.length_drop];omega
     have hne:us≠[]:=Qfp _ _ _ _ (by omega) hr (by rw[List.length_drop];omega);refine⟨rfl,?_,?_,?_,?_⟩
     ·rw[hl];omega
     ·rw[hl]
     ·constructor
      ·intro e;simp only at e;omega
      ·intro e;exact absurd e hne
     ·rw[hl];exact hu
theorem Qtr{s:List UInt8}{ts:List Tok}(h:scan s=.ok ts):Stand s 0 ts∧ts≠[]:=by
 unfold scan at h;split at h
 ·simp at h
 ·exact⟨Quy s (s.length+1) 0 ts (by omega) (by simp) (by simpa using h),Qfp _ _ _ _ (by omega) h (by omega)⟩
theorem tokClass{x:List UInt8}{k:Nat}(h:tok x=.ok (k,x.length)):x≠[]∧((k≤1∧Q1 Q7 x=x.length)∨(k=2∧x∈Q09)):=by
 have hp:=Q3r h;refine⟨fun e=>by subst e;simp at hp,?_⟩;by_cases hw:Q1 Q7 x=0
 ·right
  rw[Qb0 hw]at h;split at h
  ·simp at h
  ·rename_i hne
   simp only[Except.ok.injEq,Prod.mk.injEq]at h;refine⟨h.1.symm,?_⟩;rcases Qcx Q09 x with e|e
   ·exact absurd e hne
   ·have hl:=h.2
    rw[Q7f]at e hl;have:=Q7e x;rw[List.length_take]at hl;rwa[List.take_of_length_le (by omega)]at e
 ·left
  have:=Q9u h hw;have:=Q71 h;omega
theorem Qpv{p:Int→Bool}{x:List UInt8}(y:List UInt8)(h:Q1 p x=x.length):Q1 p (x++y)=x.length+Q1 p y:=by
 induction x with
 | nil=>simp
 | cons c r ih=>
  simp only[Q1]at h;split at h
  ·rename_i hc
   rw[List.cons_append,Q1,if_pos hc,ih (by simpa using h)];simp;omega
  ·simp at h
theorem Qj3{p:Int→Bool}{x:List UInt8}(y:List UInt8)(h:Q1 p x<x.length):Q1 p (x++y)=Q1 p x:=by
 induction x with
 | nil=>simp at h
 | cons c r ih=>
  simp only[Q1]at h⊢;rw[List.cons_append,Q1];split
  ·rename_i hc
   rw[if_pos hc]at h;rw[ih (by simpa using h)]
  ·rfl
def fits(x y:List UInt8):Prop:=∀c,y.head?=some c→(0<Q1 Q7 x→Q7 c.toNat=false)∧¬ (x=[60]∧c=61)
theorem Qki{p:Int→Bool}{y:List UInt8}(h:∀c,y.head?=some c→p c.toNat=false):Q1 p y=0:=by
 cases y with
 | nil=>rfl
 | cons c r=>rw[Q1,if_neg (by rw[h c rfl];simp)]
theorem Qfr(c:Int):Q7 c=false→Q0s c=false∧Qe c=false:=by unfold Q7;simp
theorem Qe2{p:Int→Bool}(hp:∀c,Q7 c=false→p c=false){x y:List UInt8}(hf:fits x y)(hx:x≠[])(hw:Q1 Q7 x=x.length):Q1 p (x++y)=Q1 p x:=by
 have hpos:0<Q1 Q7 x:=by rw[hw];exact List.length_pos_iff.2 hx
 by_cases h:Q1 p x=x.length
 ·rw[Qpv y h,Qki (fun c hc=>hp _ ((hf c hc).1 hpos)),h];rfl
 ·have:=Q3c p x
  exact Qj3 y (by omega)
theorem Qkf:∀x∈Q09,∀y:List UInt8,¬ (x=[60]∧y.head?=some 61)→Q0v (x++y)=x.length:=by intro x hx y h;simp only[Q09,List.mem_cons,List.not_mem_nil,or_false]at hx;rcases hx with rfl|rfl|rfl|rfl|rfl|rfl|rfl|rfl|rfl|rfl|rfl|rfl|rfl;all_goals cases y<;>simp_all[Q0v,Q1z]
theorem Qsa{x y:List UInt8}{k:Nat}(h:tok x=.ok (k,x.length))(hf:fits x y):tok (x++y)=.ok (k,x.length):=by
 obtain⟨hx,hc⟩:=tokClass h;rcases hc with⟨hk,hw⟩|⟨rfl,hm⟩
 ·have h1:=Qe2 (p:=Q7) (fun _ h=>h) hf hx hw
  have h2:=Qe2 (p:=Q0s) (fun c h=>(Qfr c h).1) hf hx hw;have h3:=Qe2 (p:=Qe) (fun c h=>(Qfr c h).2) hf hx hw;have hpos:0<Q1 Q7 x:=by rw[hw];exact List.length_pos_iff.2 hx
  have h4:(x++y).take (Q1 Q7 x)=x.take (Q1 Q7 x):=List.take_append_of_le_length (Q3c _ _);rw[←h];unfold tok;have hne:¬ Q1 Q7 x=0:=by omega
  rw[h1,h2,h3,h4,if_neg hne,if_neg hne]
 ·have h0:=Qb4 x hm
  have hs:Q0v (x++y)=x.length:=Qkf x hm y (fun e=>(hf 61 e.2).2 ⟨e.1,rfl⟩);have h1:Q1 Q7 (x++y)=0:=by rw[Qj3 y (by rw[h0];exact List.length_pos_iff.2 hx),h0]
  have hpos:0<x.length:=List.length_pos_iff.2 hx;unfold tok;rw[if_pos h1,hs,if_neg (by omega)]
theorem Qj1{p q:Int→Bool}(h:∀c,p c=true→q c=true)(l:List UInt8):Q1 p l≤Q1 q l:=by
 induction l with
 | nil=>simp[Q1]
 | cons c r ih=>
  simp only[Q1];split
  ·rename_i hc;rw[if_pos (h _ hc)];omega
  ·omega
theorem Qjs(p:Int→Bool)(l:List UInt8):∀c,(l.drop (Q1 p l)).head?=some c→p c.toNat=false:=by
 induction l with
 | nil=>simp[Q1]
 | cons x r ih=>
  intro c;simp only[Q1];split
  ·rw[List.drop_succ_cons];exact ih c
  ·rename_i hc
   intro h;simp at h;subst h;simpa using hc
theorem Qm8{s:List UInt8}{k n:Nat}(h:tok s=.ok (k,n)):tok (s.take n)=.ok (k,(s.take n).length)∧fits (s.take n) (s.drop n):=by
 have hp:=Q3r h;have hl:(s.take n).length=n:=by rw[List.length_take];omega
 by_cases hw:Q1 Q7 s=0
 ·have ht:=Qb0 hw
  rw[ht]at h;split at h
  ·simp at h
  ·rename_i hne
   simp only[Except.ok.injEq,Prod.mk.injEq]at h;obtain⟨rfl,hn⟩:=h;have hm:=(Qcx Q09 s).resolve_left hne;have hle:=Q7e s;have hfp:Q1i Q09 s=s.take n:=by have e:=Q7f s;rw[e]at hn⊢;rw[List.length_take,Nat.min_eq_left hle]at hn;rw[hn]
   rw[hfp]at hm;rw[Qjc _ hm];refine⟨rfl,fun c hc=>⟨fun h=>by rw[Qb4 _ hm]at h;omega,?_⟩⟩;rintro⟨e1,rfl⟩;have e2:s=60::61::(s.drop n).tail:=by
    have e3:=(List.take_append_drop n s).symm;rw[e1]at e3;match hd:s.drop n,hc with
    | c::r,hc=>simp at hc;subst hc;rw[hd]at e3;rw[e3];rfl
   have:Q0v s=2:=by rw[e2];rfl
   rw[e1]at hl;have e:=Q7f s;rw[e,List.length_take,this]at hn;simp at hl;omega
 ·have hk:=Q9u h hw
  have hn:=hk.2.2;have h1:=Q7y (p:=Q7) (l:=s) hp.2;have h2:=Q7y (p:=Q0s) (l:=s) hp.2;have h3:=Q7y (p:=Qe) (l:=s) hp.2;have m2:=Qj1 (p:=Q0s) (q:=Q7) (by intro c;unfold Q7;simp;intro h;exact .inl h) s;have m3:=Qj1 (p:=Qe) (q:=Q7) (by intro c;unfold Q7;simp;intro h;exact .inr h) s;have e4:(s.take n).take (Q1 Q7 s)=s.take (Q1 Q7 s):=by rw[List.take_take,hn,Nat.min_self]
  constructor
  ·rw[hl,←h]
   unfold tok;rw[h1,h2,h3,hn,Nat.min_self,Nat.min_eq_right m2,Nat.min_eq_right m3,if_neg hw,if_neg hw,←hn,List.take_take,Nat.min_self]
  ·intro c hc
   rw[hn]at hc⊢;have:=Qjs Q7 s c hc;refine⟨fun _=>this,?_⟩;rintro⟨e1,_⟩;have:=Qec Q7 s 60 (by rw[e1];simp);exact absurd this (by decide)
def Good:List Tok→Prop
 | []=>False
 | t::r=>(t.kind=3∧t.text=[]∧r=[])∨((∃k:Nat,t.kind=k∧tok t.text=.ok (k,t.text.length))∧Good r)
theorem Qt3(f:Nat):∀(p:Nat) (l:List UInt8) (ts:List Tok),l.length<f→Q0e f p l=.ok ts→Good ts∧(Q5k none ts).length≤l.length∧∀t0:Tok,t0.kind≠3→(∃k:Nat,t0.kind=k∧tok t0.text=.ok (k,t0.text.length))→fits t0.text l→(Q5k (some t0) ts).length≤l.length:=by
 induction f with
 | zero=>intro p l ts h;omega
 | succ f ih=>
  intro p l ts hf h;have hk:=Q4u false l;simp only[Q0e]at h;split at h
  ·simp only[Except.ok.injEq]at h
   subst h;refine⟨.inl ⟨rfl,rfl,rfl⟩,by simp[Q5k],fun t0 _ _ _=>?_⟩;simp[Q5k,gap,Q73]
  ·rename_i c r hd
   have hlen:(c::r).length=l.length-skip false l:=by rw[←hd,List.length_drop]
   cases ht:tok (c::r)with
   | error x=>rw[ht]at h;simp at h
   | ok x=>
    obtain⟨kd,n⟩:=x;have hn:=Q3r ht;have hkd:=Q71 ht;have hcut:=Qm8 ht;rw[ht]at h;simp only[]at h;cases hr:Q0e f (p+skip false l+n) ((c::r).drop n)with
    | error x=>rw[hr]at h;simp at h
    | ok us=>
     rw[hr]at h;simp only[Except.ok.injEq]at h;subst h;obtain⟨g,_,hj⟩:=ih _ _ _ (by rw[List.length_drop];omega) hr;have hl:((c::r).take n).length=n:=by rw[List.length_take];omega
     have hJ:=hj ⟨kd,(c::r).take n,((p+skip false l:Nat):Int)⟩ (by simp only;omega) ⟨kd,rfl,hcut.1⟩ hcut.2;rw[List.length_drop]at hJ;refine⟨.inr ⟨⟨kd,rfl,hcut.1⟩,g⟩,?_,?_⟩
     ·simp only[Q5k,List.length_append,hl];omega
     ·intro t0 h3 hk0 hfit
      have hfm:=Qgu (kind:=(kd:Int)) (s:=(c::r).take n) (by rw[←Qah,Q4x,if_neg (by omega),if_neg (tokClass hcut.1).1,hcut.1];simp) (by omega) (by omega);obtain⟨k0,hk0e,hk0t⟩:=hk0;have hk02:=Q71 hk0t;have hf0:=Qgu (kind:=t0.kind) (s:=t0.text) (by rw[←Qah,Q4x,if_neg h3,if_neg (tokClass hk0t).1,hk0t];simp[hk0e]) (by omega) (by omega);have hg:skip false l=0→gap t0 ⟨kd,(c::r).take n,((p+skip false l:Nat):Int)⟩=false:=by
       intro h0;rw[h0,List.drop_zero]at hd;have hc:=hfit c (by rw[hd];rfl);unfold gap;simp only;rw[←hf0,←hfm];rw[Bool.or_eq_false_iff,Bool.and_eq_false_iff,Bool.and_eq_false_iff];constructor
       ·by_cases hw:0<Q1 Q7 t0.text
        ·right
         have:=hc.1 hw;rw[decide_eq_false_iff_not];match n,hn with
         | n+1,_=>rw[List.take_succ_cons,Q1,if_neg (by rw[this];simp)];omega
        ·left;simpa using hw
       ·by_cases hw:t0.text=[60]
        ·right
         rw[decide_eq_false_iff_not];intro e;match n,hn with
         | n+1,_=>rw[List.take_succ_cons]at e;simp only[List.cons.injEq]at e;exact hc.2 ⟨hw,e.1⟩
        ·left;simpa using hw
      simp only[Q5k,List.length_append,hl];by_cases h0:skip false l=0
      ·rw[hg h0]
       simp only[Bool.false_eq_true,if_false,List.length_nil];omega
      ·have:(if gap t0 ⟨kd,(c::r).take n,((p+skip false l:Nat):Int)⟩then[32]else([]:List UInt8)).length≤1:=by split<;>simp
       omega
theorem Qqv{x:List UInt8}{k:Nat}(h:tok x=.ok (k,x.length))(y:List UInt8):skip false (x++y)=0:=by
 obtain⟨hx,hc⟩:=tokClass h;match x,hx with
 | c::r,_=>
  have hh:c.toNat≠35∧Q0f c.toNat=false:=by
   rcases hc with⟨_,hw⟩|⟨_,hm⟩
   ·have:=Qfk hw c (by simp)
    constructor
    ·intro e;rw[e]at this;exact absurd this (by decide)
    ·cases hb:Q0f c.toNat
     ·rfl
     ·have:Q7 c.toNat=false:=by
       simp[Q0f]at hb;rcases hb with((e|e)|e)|e<;>rw[show(c.toNat:Int)=_ from e]<;>decide
      simp_all
   ·simp only[Q09,List.mem_cons,List.not_mem_nil,or_false,List.cons.injEq]at hm
    rcases hm with h|h|h|h|h|h|h|h|h|h|h|h|h<;>(obtain⟨rfl,_⟩:=h;decide)
  rw[List.cons_append,Qir,if_neg hh.1,if_neg (by rw[hh.2];simp)]
theorem Qp8(ts:List Tok):Good ts→Q8l ts=0:=by
 induction ts with
 | nil=>intro h;exact absurd h (by simp[Good])
 | cons t r ih=>
  intro h;rw[Q8l];rcases h with⟨h3,hx,rfl⟩|⟨⟨k,hk,ht⟩,hr⟩
  ·have:Q58 ([]:List Tok).isEmpty t=0:=by
    unfold Q58;rw[if_neg (by omega),h3,hx];rfl
   rw[if_pos this];rfl
  ·have h2:=Q71 ht
   have hf:Q0o t.kind t.text=true:=by rw[←Qah,Q4x,if_neg (by omega),if_neg (tokClass ht).1,ht];simp[hk]
   have:Q58 r.isEmpty t=0:=by unfold Q58;rw[if_neg (by omega),if_neg (by rw[hf];simp),if_neg (by omega)]
   rw[if_pos this];exact ih hr
theorem Qnz{l:List UInt8}{d e:Nat}(h:tok l=.error (d,e)):0<e:=by unfold tok at h;(repeat' split at h)<;>simp at h<;>omega
theorem Qm1(f:Nat):∀(p:Nat) (l:List UInt8) (d e:Nat),Q0e f p l=.error (d,e)→0<e:=by
 induction f with
 | zero=>intro p l d e h;simp[Q0e]at h
 | succ f ih=>
  intro p l d e h;simp only[Q0e]at h;split at h
  ·simp at h
  ·split at h
   ·rename_i ht
    simp only[Except.error.injEq,Prod.mk.injEq]at h;have:=Qnz ht;omega
   ·split at h
    ·rename_i x hx
     simp only[Except.error.injEq]at h;subst h;exact ih _ _ _ _ hx
    ·simp at h
theorem Q8z{l:List UInt8}{d e:Nat}(h:scan l=.error (d,e)):0<e:=by
 unfold scan at h;split at h
 ·simp only[Except.error.injEq,Prod.mk.injEq]at h;omega
 ·exact Qm1 _ _ _ _ _ h
section
def On{α:Type}(T:List Tok)(i:Nat)(o:Out α):Prop:=∀a j,o=.ok a j→i<j∧j<T.length
def On0{α:Type}(T:List Tok)(i:Nat)(o:Out α):Prop:=∀a j,o=.ok a j→i≤j∧j<T.length
section
variable {T:List Tok} {i lv:Nat} (hl:(tk T (T.length-1)).kind=3) {res:List UInt8→Bool}
theorem Q08(hl:(tk T (T.length-1)).kind=3)(hi:i<T.length)(hk:(tk T i).kind≠3):nx T i=i+1∧i+1<T.length:=by
 have:i+1<T.length:=by
  rcases Nat.lt_or_ge (i+1) T.length with h|h
  ·exact h
  ·have:i=T.length-1:=by omega
   subst this;exact absurd hl hk
 exact⟨if_pos this,this⟩
theorem Qd{ws:List (List UInt8)}(h:isW T ws i=true):(tk T i).kind≠3:=by intro e;unfold isW at h;rw[e]at h;simp at h
theorem On.bind{α β:Type}{o:Out α}{f:α→Nat→Out β}(h:On T i o)(hf:∀a j,i<j→j<T.length→On0 T j (f a j)):On T i (o.bind f):=by
 cases o with
 | none=>intro b j e;cases e
 | err p e=>intro b j e;cases e
 | ok a k=>obtain⟨h1,h2⟩:=h a k rfl;intro b j e;obtain⟨h3,h4⟩:=hf a k h1 h2 b j e;exact⟨by omega,h4⟩
theorem On.zero{α:Type}{o:Out α}(h:On T i o):On0 T i o:=fun a j e=>⟨Nat.le_of_lt (h a j e).1,(h a j e).2⟩
theorem On0.bind{α β:Type}{o:Out α}{f:α→Nat→Out β}(h:On0 T i o)(hf:∀a j,i≤j→j<T.length→On0 T j (f a j)):On0 T i (o.bind f):=by
 cases o with
 | none=>intro b j e;cases e
 | err p e=>intro b j e;cases e
 | ok a k=>obtain⟨h1,h2⟩:=h a k rfl;intro b j e;obtain⟨h3,h4⟩:=hf a k h1 h2 b j e;exact⟨by omega,h4⟩
theorem On0.ok{α:Type}{a:α}(hi:i<T.length):On0 T i (.ok a i):=fun b j e=>by cases e;exact⟨Nat.le_refl _,hi⟩
theorem On.step{α:Type}{a:α}(hl:(tk T (T.length-1)).kind=3)(hi:i<T.length)(hk:(tk T i).kind≠3):On T i (.ok a (nx T i)):=fun b j e=>by obtain⟨h1,h2⟩:=Q08 hl hi hk;cases e;omega
theorem On.fail{α:Type}(e:Nat):On T i (fail T e i:Out α):=fun _ _ e=>by cases e
theorem Q0y(hl:(tk T (T.length-1)).kind=3)(s:List UInt8)(hi:i<T.length):On T i (need T s i):=by
 unfold need;split
 ·rename_i h;exact On.step hl hi (Qd h)
 ·exact On.fail _
theorem Q2z(hl:(tk T (T.length-1)).kind=3)(hi:i<T.length):On T i (name res T i):=by
 unfold name;split
 ·exact On.fail _
 ·rename_i h
  refine On.step hl hi fun e=>h (.inl ?_)
  rw[e];decide
theorem Q1k(hl:(tk T (T.length-1)).kind=3)(hi:i<T.length):On T i (number T i):=by
 unfold number;split
 ·exact On.fail _
 ·rename_i h
  refine On.step hl hi fun e=>h ?_
  rw[e];decide
theorem On.behind{α:Type}{o:Out α}(hl:(tk T (T.length-1)).kind=3)(hi:i<T.length)(hk:(tk T i).kind≠3)(h:∀j,i<j→j<T.length→nx T i=j→On0 T j o):On T i o:=fun a j e=>by obtain⟨h1,h2⟩:=Q08 hl hi hk;obtain⟨h3,h4⟩:=h (i+1) (by omega) h2 h1 a j e;exact⟨by omega,h4⟩
def OnR(T:List Tok)(r:Rd):Prop:=∀lv i,i<T.length→On T i (r lv i)
theorem Q7n{r:Rd}(hr:OnR T r)(hi:i<T.length):On T i (within T r lv i):=by
 unfold within;split
 ·exact On.fail _
 ·exact hr _ _ hi
theorem Q9a{r:Rd}(hl:(tk T (T.length-1)).kind=3)(hr:OnR T r)(hi:i<T.length):On T i (parens T r lv i):=(Q0y hl _ hi).bind fun _ _ _ h=>((Q7n hr h).bind fun _ _ _ h=>((Q0y hl _ h).bind fun _ _ _ h=>On0.ok h).zero).zero
theorem Qsi{rs:List Rd}(hl:(tk T (T.length-1)).kind=3)(hr:∀r∈rs,OnR T r):∀i,i<T.length→On0 T i (Q04.argsMore T rs lv i):=by
 induction rs with
 | nil=>intro i hi;exact On0.ok hi
 | cons r rs ih=>intro i hi;exact((Q0y hl _ hi).bind fun _ _ _ h=>((hr r (List.mem_cons_self ..) _ _ h).bind fun _ _ _ h=>(ih (fun r h=>hr r (List.mem_cons_of_mem _ h)) _ h).bind fun _ _ _ h=>On0.ok h).zero).zero
theorem Qfy{rs:List Rd}(hl:(tk T (T.length-1)).kind=3)(hr:∀r∈rs,OnR T r)(hi:i<T.length):On0 T i (Q04 T rs lv i):=by
 cases rs with
 | nil=>exact On0.ok hi
 | cons r rs=>exact((hr r (List.mem_cons_self ..) _ _ hi).bind fun _ _ _ h=>(Qsi hl (fun r h=>hr r (List.mem_cons_of_mem _ h)) _ h).bind fun _ _ _ h=>On0.ok h).zero
theorem Q87{rs:List Rd}{w:Tok}(hl:(tk T (T.length-1)).kind=3)(hr:∀r∈rs,OnR T r)(hi:i<T.length):On T i (arguments T w rs lv i):=
 (Q0y hl _ hi).bind fun _ _ _ h=>by
  split
  ·exact(On.fail _).zero
  ·exact(Qfy hl hr h).bind fun _ _ _ h=>((Q0y hl _ h).bind fun _ _ _ h=>On0.ok h).zero
theorem Qqn{r:Rd}{ops:List (List UInt8)}(hl:(tk T (T.length-1)).kind=3)(hr:OnR T r)(g:Nat):∀x i,i<T.length→On0 T i (Q1v T r ops lv g x i):=by
 induction g with
 | zero=>intro x i _ a j e;cases e
 | succ g ih=>
  intro x i hi;unfold Q1v;split
  ·rename_i h
   refine(On.behind hl hi (Qd h) fun j h1 h2 e=>?_).zero;rw[e];exact((hr _ _ h2).bind fun _ _ _ h=>ih _ _ h).zero
  ·exact On0.ok hi
theorem Q6m{r:Rd}{ops:List (List UInt8)}(hl:(tk T (T.length-1)).kind=3)(hr:OnR T r):OnR T (left T r ops):=fun _ _ hi=>(hr _ _ hi).bind fun _ _ _ h=>Qqn hl hr _ _ _ h
theorem Qf3(hl:(tk T (T.length-1)).kind=3)(g:Nat):∀xs i,i<T.length→On0 T i (Q1w T g xs i):=by
 induction g with
 | zero=>intro x i _ a j e;cases e
 | succ g ih=>
  intro x i hi;unfold Q1w;split
  ·rename_i h
   refine(On.behind hl hi (Qd h) fun j h1 h2 e=>?_).zero;rw[e];exact((Q1k hl h2).bind fun _ _ _ h=>ih _ _ h).zero
  ·exact On0.ok hi
theorem Q9i(hl:(tk T (T.length-1)).kind=3)(hi:i<T.length):On T i (setR T i):=by
 unfold setR;split
 ·rename_i h;exact On.step hl hi (Qd h)
 ·refine(Q0y hl _ hi).bind fun _ j _ hj=>?_
  split
  ·rename_i h;exact(On.step hl hj (Qd h)).zero
  ·exact((Q1k hl hj).bind fun _ _ _ h=>(Qf3 hl _ _ _ h).bind fun _ _ _ h=>((Q0y hl _ h).bind fun _ _ _ h=>On0.ok h).zero).zero
theorem Qgd{r:Rd}(hl:(tk T (T.length-1)).kind=3)(hr:OnR T r)(hi:i<T.length)(hk:(tk T i).kind≠3):On T i (notR T r lv i):=On.behind hl hi hk fun j _ h2 e=>by unfold notR;rw[e];exact((Q7n hr h2).bind fun _ _ _ h=>On0.ok h).zero
theorem Q43(hl:(tk T (T.length-1)).kind=3)(f:Nat):∀nt,OnR T (rd res T f nt):=by
 induction f with
 | zero=>intro nt lv i _ a j e;cases e
 | succ f ih=>
  intro nt;cases nt with
  | cond=>exact Q6m hl (ih _)
  | conj=>exact Q6m hl (ih _)
  | sum=>exact Q6m hl (ih _)
  | scheme=>exact Q6m hl (ih _)
  | term=>exact Q6m hl (ih _)
  | disj=>exact Q6m hl (ih _)
  | meet=>exact Q6m hl (ih _)
  | neg=>
   intro lv i hi;show On T i (if _ then _ else if _ then _ else _);split
   ·rename_i h;exact Qgd hl (ih _) hi (Qd h)
   ·split
    ·rename_i h
     refine On.behind hl hi (Qd h) fun j _ h2 e=>?_
     rw[e];exact((Q2z hl h2).bind fun _ _ _ h=>((Q0y hl _ h).bind fun _ _ _ h=>((Q7n (ih _) h).bind fun _ _ _ h=>On0.ok h).zero).zero).zero
    ·refine(ih .sum lv i hi).bind fun x j _ hj=>?_
     split
     ·rename_i h
      refine(On.behind hl hj (Qd h) fun k _ h2 e=>?_).zero;rw[e];exact((ih .sum lv _ h2).bind fun _ _ _ h=>On0.ok h).zero
     ·exact On0.ok hj
  | unit=>
   intro lv i hi;show On T i (if _ then _ else if _ then _ else if _ then _ else if _ then _ else if _ then _ else _);split
   ·exact Q1k hl hi
   ·split
    ·rename_i h
     refine On.behind hl hi (Qd h) fun j _ h2 e=>?_
     rw[e];exact(Q87 hl (fun r hr=>by rw[List.mem_singleton.1 hr];exact ih _) h2).zero
    ·split
     ·rename_i h
      refine On.behind hl hi (Qd h) fun j _ h2 e=>?_
      rw[e];exact(Q87 hl (fun r hr=>by simp only[List.mem_cons,List.not_mem_nil,or_false,or_self]at hr;rw[hr];exact ih _) h2).zero
     ·split
      ·rename_i h
       refine On.behind hl hi (Qd h) fun j _ h2 e=>?_
       rw[e];exact((Q2z hl h2).bind fun _ _ _ h=>((Q9a hl (ih _) h).bind fun _ _ _ h=>On0.ok h).zero).zero
      ·split
       ·exact Q9a hl (ih _) hi
       ·exact Q2z hl hi
  | factor=>
   intro lv i hi;refine(ih .atom lv i hi).bind fun x j _ hj=>?_
   split
   ·rename_i h
    refine(On.behind hl hj (Qd h) fun k _ h2 e=>?_).zero;rw[e];exact((Q1k hl h2).bind fun _ _ _ h=>((Q7n (ih _) h).bind fun _ _ _ h=>On0.ok h).zero).zero
   ·exact On0.ok hj
  | atom=>
   intro lv i hi;show On T i (if _ then _ else if _ then _ else if _ then _ else if _ then _ else _);split
   ·rename_i h
    refine On.behind hl hi (Qd h) fun j _ h2 e=>?_
    rw[e];exact(Q87 hl (fun r hr=>by rw[List.mem_singleton.1 hr];exact fun _ _ h=>Q1k hl h) h2).zero
   ·split
    ·rename_i h;exact On.step hl hi (Qd h)
    ·split
     ·rename_i h
      refine On.behind hl hi (Qd h) fun j _ h2 e=>?_
      rw[e];exact(Q87 hl (fun r hr=>by rw[List.mem_singleton.1 hr];exact ih _) h2).zero
     ·split
      ·exact Q9a hl (ih _) hi
      ·exact Q2z hl hi
  | formula=>
   intro lv i hi;refine(ih .disj lv i hi).bind fun x j _ hj=>?_
   split
   ·rename_i h
    refine(On.behind hl hj (Qd h) fun k _ h2 e=>?_).zero;rw[e];exact((Q7n (ih _) h2).bind fun _ _ _ h=>On0.ok h).zero
   ·exact On0.ok hj
  | lit=>
   intro lv i hi;show On T i (if _ then _ else if _ then _ else if _ then _ else if _ then _ else if _ then _ else if _ then _ else if _ then _ else if _ then _ else _);have hargs:∀rs,isW T rs i=true→∀rds:List Rd,(∀r∈rds,OnR T r)→On T i (arguments T (tk T i) rds lv (nx T i)):=fun rs h rds hr=>On.behind hl hi (Qd h) fun j _ h2 e=>by rw[e];exact(Q87 hl hr h2).zero
   have hnum:OnR T (fun _=>number T):=fun _ _ h=>Q1k hl h
   have hset:OnR T (fun _=>setR T):=fun _ _ h=>Q9i hl h
   split
   ·rename_i h;exact Qgd hl (ih _) hi (Qd h)
   ·split
    ·rename_i h;exact On.step hl hi (Qd h)
    ·split
     ·exact Q9a hl (ih _) hi
     ·split
      ·rename_i h;exact hargs _ h _ fun r hr=>by simp only[List.mem_cons,List.not_mem_nil,or_false,or_self]at hr;rw[hr];exact hnum
      ·split
       ·rename_i h;exact hargs _ h _ fun r hr=>by rw[List.mem_singleton.1 hr];exact hnum
       ·split
        ·rename_i h;exact hargs _ h _ fun r hr=>by
          simp only[List.mem_cons,List.not_mem_nil,or_false]at hr;rcases hr with rfl|rfl
          ·exact hnum
          ·exact ih _
        ·split
         ·rename_i h;exact hargs _ h _ fun r hr=>by
           simp only[List.mem_cons,List.not_mem_nil,or_false]at hr;rcases hr with rfl|rfl
           ·exact hset
           ·exact ih _
         ·split
          ·rename_i h;exact hargs _ h _ fun r hr=>by rw[List.mem_singleton.1 hr];exact ih _
          ·exact On.fail _
end
end
section
def OkR(T:List Tok)(m:Nat)(r:Rd):Prop:=∀lv i,m≤i→i<T.length→r lv i≠.none
section
variable {T:List Tok} {m i lv:Nat} {res:List UInt8→Bool}
theorem Qj{α β:Type}{o:Out α}{f:α→Nat→Out β}(h:o≠.none)(hf:∀a j,o=.ok a j→f a j≠.none):o.bind f≠.none:=by
 cases o with
 | none=>exact absurd rfl h
 | err p e=>intro h;cases h
 | ok a j=>exact hf a j rfl
theorem Q0g{α:Type}(a:α)(j:Nat):(Out.ok a j)≠.none:=fun h=>by cases h
theorem Q6y{α:Type}(e j:Nat):(fail T e j:Out α)≠.none:=fun h=>by cases h
theorem Q25(s:List UInt8)(i:Nat):need T s i≠.none:=by unfold need;split<;>(intro h;cases h)
theorem Q48(i:Nat):name res T i≠.none:=by unfold name;split<;>(intro h;cases h)
theorem Q4v(i:Nat):number T i≠.none:=by unfold number;split<;>(intro h;cases h)
theorem Q8t{r:Rd}(hr:OkR T m r)(hm:m≤i)(hi:i<T.length):within T r lv i≠.none:=by
 unfold within;split
 ·exact Q6y _ _
 ·exact hr _ _ hm hi
theorem Q9x{r:Rd}(hl:(tk T (T.length-1)).kind=3)(hr:OkR T m r)(hm:m≤i+1)(hi:i<T.length):parens T r lv i≠.none:=Qj (Q25 _ _) fun _ j h=>by obtain⟨h1,h2⟩:=Q0y hl _ hi _ _ h;exact Qj (Q8t hr (by omega) h2) fun _ _ _=>Qj (Q25 _ _) fun _ _ _=>Q0g _ _
theorem Qoy{r:Rd}{ops:List (List UInt8)}(hl:(tk T (T.length-1)).kind=3)(ho:OnR T r)(hr:OkR T m r)(g:Nat):∀x i,m≤i+1→i<T.length→T.length<g+i→Q1v T r ops lv g x i≠.none:=by
 induction g with
 | zero=>intro x i _ h1 h2;omega
 | succ g ih=>
  intro x i hm hi hg;unfold Q1v;split
  ·rename_i h
   obtain⟨e,h2⟩:=Q08 hl hi (Qd h);rw[e];exact Qj (hr _ _ hm h2) fun y j hy=>by obtain⟨h3,h4⟩:=ho _ _ h2 _ _ hy;exact ih _ _ (by omega) h4 (by omega)
  ·exact Q0g _ _
theorem Q5z{r:Rd}{ops:List (List UInt8)}(hl:(tk T (T.length-1)).kind=3)(ho:OnR T r)(hr:OkR T m r):OkR T m (left T r ops):=fun lv i hm hi=>Qj (hr _ _ hm hi) fun x j hx=>by obtain⟨h3,h4⟩:=ho _ _ hi _ _ hx;exact Qoy hl ho hr _ _ _ (by omega) h4 (by omega)
theorem Qkx{rs:List Rd}(hl:(tk T (T.length-1)).kind=3)(ho:∀r∈rs,OnR T r)(hr:∀r∈rs,OkR T m r):∀i,m≤i+1→i<T.length→Q04.argsMore T rs lv i≠.none:=by
 induction rs with
 | nil=>intro i _ _;exact Q0g _ _
 | cons r rs ih=>intro i hm hi;exact Qj (Q25 _ _) fun _ j h=>by obtain⟨h1,h2⟩:=Q0y hl _ hi _ _ h;exact Qj (hr r (List.mem_cons_self ..) _ _ (by omega) h2) fun _ k hk=>by obtain⟨h3,h4⟩:=ho r (List.mem_cons_self ..) _ _ h2 _ _ hk;exact Qj (ih (fun r h=>ho r (List.mem_cons_of_mem _ h)) (fun r h=>hr r (List.mem_cons_of_mem _ h)) _ (by omega) h4) fun _ _ _=>Q0g _ _
theorem Qrd{rs:List Rd}(hl:(tk T (T.length-1)).kind=3)(ho:∀r∈rs,OnR T r)(hr:∀r∈rs,OkR T m r)(hm:m≤i)(hi:i<T.length):Q04 T rs lv i≠.none:=by
 cases rs with
 | nil=>exact Q0g _ _
 | cons r rs=>exact Qj (hr r (List.mem_cons_self ..) _ _ hm hi) fun _ k hk=>by obtain⟨h3,h4⟩:=ho r (List.mem_cons_self ..) _ _ hi _ _ hk;exact Qj (Qkx hl (fun r h=>ho r (List.mem_cons_of_mem _ h)) (fun r h=>hr r (List.mem_cons_of_mem _ h)) _ (by omega) h4) fun _ _ _=>Q0g _ _
theorem Qjx{rs:List Rd}{w:Tok}(hl:(tk T (T.length-1)).kind=3)(ho:∀r∈rs,OnR T r)(hr:∀r∈rs,OkR T m r)(hm:m≤i+1)(hi:i<T.length):arguments T w rs lv i≠.none:=
 Qj (Q25 _ _) fun _ j h=>by
  obtain⟨h1,h2⟩:=Q0y hl _ hi _ _ h;split
  ·exact Q6y _ _
  ·exact Qj (Qrd hl ho hr (by omega) h2) fun _ _ _=>Qj (Q25 _ _) fun _ _ _=>Q0g _ _
theorem Qr1(hl:(tk T (T.length-1)).kind=3)(g:Nat):∀xs i,i<T.length→T.length<g+i→Q1w T g xs i≠.none:=by
 induction g with
 | zero=>intro x i h1 h2;omega
 | succ g ih=>
  intro x i hi hg;unfold Q1w;split
  ·rename_i h
   obtain⟨e,h2⟩:=Q08 hl hi (Qd h);rw[e];exact Qj (Q4v _) fun y j hy=>by obtain⟨h3,h4⟩:=Q1k hl h2 _ _ hy;exact ih _ _ h4 (by omega)
  ·exact Q0g _ _
theorem Qnd(hl:(tk T (T.length-1)).kind=3)(hi:i<T.length):setR T i≠.none:=by
 unfold setR;split
 ·exact Q0g _ _
 ·exact Qj (Q25 _ _) fun _ j h=>by
   obtain⟨h1,h2⟩:=Q0y hl _ hi _ _ h;split
   ·exact Q0g _ _
   ·exact Qj (Q4v _) fun _ k hk=>by obtain⟨h3,h4⟩:=Q1k hl h2 _ _ hk;exact Qj (Qr1 hl _ _ _ h4 (by omega)) fun _ _ _=>Qj (Q25 _ _) fun _ _ _=>Q0g _ _
def rank:NT→Nat
 | .cond=>5|.conj=>4|.neg=>3|.sum=>2|.unit=>1
 | .scheme=>4|.term=>3|.factor=>2|.atom=>1
 | .formula=>4|.disj=>3|.meet=>2|.lit=>1
theorem Qj9{r:Rd}(hl:(tk T (T.length-1)).kind=3)(hr:OkR T m r)(hm:m≤i+1)(hi:i<T.length)(hk:(tk T i).kind≠3):notR T r lv i≠.none:=by obtain⟨e,h2⟩:=Q08 hl hi hk;unfold notR;rw[e];exact Qj (Q8t hr hm h2) fun _ _ _=>Q0g _ _
theorem Qok(hl:(tk T (T.length-1)).kind=3)(f:Nat):∀nt lv i,i<T.length→16*(T.length-i)+rank nt≤f→rd res T f nt lv i≠.none:=by
 induction f with
 | zero=>intro nt lv i _ h;cases nt<;>simp[rank]at h
 | succ f ih=>
  intro nt lv i hi hf;have on:∀nt,OnR T (rd res T f nt):=Q43 hl f;have hs:∀nt',rank nt'<rank nt→OkR T i (rd res T f nt'):=fun nt' h lv j h1 h2=>ih nt' lv j h2 (by omega)
  have hn:∀nt',OkR T (i+1) (rd res T f nt'):=fun nt' lv j h1 h2=>ih nt' lv j h2 (by
   have:rank nt'≤5:=by cases nt'<;>decide
   omega)
  have num:OkR T (i+1) (fun _=>number T):=fun _ _ _ _=>Q4v _
  have set:OkR T (i+1) (fun _=>setR T):=fun _ _ _ h=>Qnd hl h
  have onum:OnR T (fun _=>number T):=fun _ _ h=>Q1k hl h
  have oset:OnR T (fun _=>setR T):=fun _ _ h=>Q9i hl h
  have hargs:∀ws,isW T ws i=true→∀rds:List Rd,(∀r∈rds,OnR T r∧OkR T (i+1) r)→arguments T (tk T i) rds lv (nx T i)≠.none:=fun ws h rds hr=>by obtain⟨e,h2⟩:=Q08 hl hi (Qd h);rw[e];exact Qjx hl (fun r h=>(hr r h).1) (fun r h=>(hr r h).2) (by omega) h2
  have one:∀{r:Rd},OnR T r∧OkR T (i+1) r→∀x∈[r],OnR T x∧OkR T (i+1) x:=fun h x hx=>by rw[List.mem_singleton.1 hx];exact h
  have two:∀{r r':Rd},OnR T r∧OkR T (i+1) r→OnR T r'∧OkR T (i+1) r'→∀x∈[r,r'],OnR T x∧OkR T (i+1) x:=fun h h' x hx=>by
   simp only[List.mem_cons,List.not_mem_nil,or_false]at hx;rcases hx with rfl|rfl
   ·exact h
   ·exact h'
  cases nt with
  | cond=>exact Q5z hl (on _) (hs _ (by decide)) _ _ (Nat.le_refl _) hi
  | conj=>exact Q5z hl (on _) (hs _ (by decide)) _ _ (Nat.le_refl _) hi
  | sum=>exact Q5z hl (on _) (hs _ (by decide)) _ _ (Nat.le_refl _) hi
  | scheme=>exact Q5z hl (on _) (hs _ (by decide)) _ _ (Nat.le_refl _) hi
  | term=>exact Q5z hl (on _) (hs _ (by decide)) _ _ (Nat.le_refl _) hi
  | disj=>exact Q5z hl (on _) (hs _ (by decide)) _ _ (Nat.le_refl _) hi
  | meet=>exact Q5z hl (on _) (hs _ (by decide)) _ _ (Nat.le_refl _) hi
  | neg=>
   show(if _ then _ else if _ then _ else _:Out Syn)≠.none;split
   ·rename_i h;exact Qj9 hl (hn _) (Nat.le_refl _) hi (Qd h)
   ·split
    ·rename_i h
     obtain⟨e,h2⟩:=Q08 hl hi (Qd h);rw[e];exact Qj (Q48 _) fun _ j hj=>Qj (Q25 _ _) fun _ k hk=>by obtain⟨h3,h4⟩:=Q2z hl h2 _ _ hj;obtain⟨h5,h6⟩:=Q0y hl _ h4 _ _ hk;exact Qj (Q8t (hn _) (by omega) h6) fun _ _ _=>Q0g _ _
    ·exact Qj (hs .sum (by decide) _ _ (Nat.le_refl _) hi) fun x j hx=>by
      obtain⟨h3,h4⟩:=on .sum _ _ hi _ _ hx;split
      ·rename_i h
       obtain⟨e,h2⟩:=Q08 hl h4 (Qd h);rw[e];exact Qj (hn .sum _ _ (by omega) h2) fun _ _ _=>Q0g _ _
      ·exact Q0g _ _
  | unit=>
   show(if _ then _ else if _ then _ else if _ then _ else if _ then _ else if _ then _ else _:Out Syn)≠.none;split
   ·exact Q4v _
   ·split
    ·rename_i h;exact hargs _ h _ (one ⟨on _,hn _⟩)
    ·split
     ·rename_i h;exact hargs _ h _ (two ⟨on _,hn _⟩ ⟨on _,hn _⟩)
     ·split
      ·rename_i h
       obtain⟨e,h2⟩:=Q08 hl hi (Qd h);rw[e];exact Qj (Q48 _) fun _ j hj=>by obtain⟨h3,h4⟩:=Q2z hl h2 _ _ hj;exact Qj (Q9x hl (hn _) (by omega) h4) fun _ _ _=>Q0g _ _
      ·split
       ·exact Q9x hl (hn _) (Nat.le_refl _) hi
       ·exact Q48 _
  | factor=>
   exact Qj (hs .atom (by decide) _ _ (Nat.le_refl _) hi) fun x j hx=>by
    obtain⟨h3,h4⟩:=on .atom _ _ hi _ _ hx;split
    ·rename_i h
     obtain⟨e,h2⟩:=Q08 hl h4 (Qd h);rw[e];exact Qj (Q4v _) fun _ k hk=>by obtain⟨h5,h6⟩:=Q1k hl h2 _ _ hk;exact Qj (Q8t (hn .factor) (by omega) h6) fun _ _ _=>Q0g _ _
    ·exact Q0g _ _
  | atom=>
   show(if _ then _ else if _ then _ else if _ then _ else if _ then _ else _:Out Syn)≠.none;split
   ·rename_i h;exact hargs _ h _ (one ⟨onum,num⟩)
   ·split
    ·exact Q0g _ _
    ·split
     ·rename_i h;exact hargs _ h _ (one ⟨on _,hn _⟩)
     ·split
      ·exact Q9x hl (hn _) (Nat.le_refl _) hi
      ·exact Q48 _
  | formula=>
   exact Qj (hs .disj (by decide) _ _ (Nat.le_refl _) hi) fun x j hx=>by
    obtain⟨h3,h4⟩:=on .disj _ _ hi _ _ hx;split
    ·rename_i h
     obtain⟨e,h2⟩:=Q08 hl h4 (Qd h);rw[e];exact Qj (Q8t (hn .formula) (by omega) h2) fun _ _ _=>Q0g _ _
    ·exact Q0g _ _
  | lit=>
   show(if _ then _ else if _ then _ else if _ then _ else if _ then _ else if _ then _ else if _ then _ else if _ then _ else if _ then _ else _:Out Syn)≠.none;split
   ·rename_i h;exact Qj9 hl (hn _) (Nat.le_refl _) hi (Qd h)
   ·split
    ·exact Q0g _ _
    ·split
     ·exact Q9x hl (hn _) (Nat.le_refl _) hi
     ·split
      ·rename_i h;exact hargs _ h _ (two ⟨onum,num⟩ ⟨onum,num⟩)
      ·split
       ·rename_i h;exact hargs _ h _ (one ⟨onum,num⟩)
       ·split
        ·rename_i h;exact hargs _ h _ (two ⟨onum,num⟩ ⟨on _,hn _⟩)
        ·split
         ·rename_i h;exact hargs _ h _ (two ⟨oset,set⟩ ⟨on _,hn _⟩)
         ·split
          ·rename_i h;exact hargs _ h _ (one ⟨on _,hn _⟩)
          ·exact Q6y _ _
end
end
section
structure St where
 i:Nat
 lv:Nat
 er:Int
 ps:Int
section
variable (res:List UInt8→Bool) (T:List Tok)
def Qa(s:St):St:=if s.er=0∧(tk T s.i).kind≠3 then⟨s.i+1,s.lv,s.er,s.ps⟩else s
def Qz(e:Int)(s:St):St:=if s.er=0 then⟨s.i,s.lv,e,(tk T s.i).pos⟩else s
def Q4(w:List UInt8)(s:St):St:=Qa T (if isW T [w] s.i then s else Qz T 4 s)
def Q1a(i:Nat):Bool:=decide ((tk T i).kind=0)&&!res (tk T i).text
def Qm(s:St):Syn×St:=(.mk 8 (tk T s.i).text 0 (tk T s.i).pos [],Qa T (if Q1a res T s.i then s else Qz T 4 s))
def Q59:Int→List UInt8→Int
 | n,[]=>n
 | n,c::r=>if c.toNat<48∨57<c.toNat∨1048576<n then 0 else Q59 (10*n+((c.toNat:Int)-48)) r
def mVal(l:List UInt8):Int:=Q59 0 l
def Q9(s:St):Syn×St:=(.mk 9 [] (mVal (tk T s.i).text) (tk T s.i).pos [],Qa T (if(tk T s.i).kind=1 then s else Qz T 4 s))
def mUp(s:St):St:=⟨s.i,s.lv+1,s.er,s.ps⟩
def Qx(s:St):St:=if 128<s.lv+1 then Qz T 12 (mUp s)else mUp s
def mPop(s:St):St:=⟨s.i,s.lv-1,s.er,s.ps⟩
abbrev MRd:=St→Option (Syn×St)
def Q47(r:MRd)(ops:List (List UInt8)):Nat→Syn→St→Option (Syn×St)
 | 0,_,_=>none
 | g+1,x,s=>if s.er=0∧isW T ops s.i=true then(r (Qa T s)).bind fun p=>Q47 r ops g (binary (tk T s.i).text 0 x p.1) p.2 else some (x,s)
def Q3h(r:MRd)(ops:List (List UInt8)):MRd:=fun s=>if s.er≠0 then some (Q3d,s)else(r s).bind fun p=>Q47 T r ops (T.length+2) p.1 p.2
def Q3k:Nat→List Syn→St→Option (List Syn×St)
 | 0,_,_=>none
 | g+1,xs,s=>if s.er=0∧isW T [[44]] s.i=true then Q3k g (xs++[(Q9 T (Qa T s)).1]) (Q9 T (Qa T s)).2 else some (xs,s)
def mSet:MRd:=fun s=>
 if isW T [[101,118,101,114,121,111,110,101]] s.i then some (.mk 14 [101,118,101,114,121,111,110,101] 0 (tk T s.i).pos [],Qa T s)
 else if(Q4 T [123] s).er=0∧isW T [[125]] (Q4 T [123] s).i=false then
  (Q3k T (T.length+2) [(Q9 T (Q4 T [123] s)).1] (Q9 T (Q4 T [123] s)).2).bind fun p=>some (.mk 14 [] 0 (tk T s.i).pos p.1,Q4 T [125] p.2)
 else some (.mk 14 [] 0 (tk T s.i).pos [],Q4 T [125] (Q4 T [123] s))
def Q0m(fo:MRd)(w:List UInt8):St→Option (List Syn×St):=fun s=>
 if w=[105,110,112,117,116]∨w=[104,101,97,114,100]∨w=[100,101,99,105,100,101,100]then
  some ([(Q9 T s).1,(Q9 T (Q4 T [44] (Q9 T s).2)).1],(Q9 T (Q4 T [44] (Q9 T s).2)).2)
 else if w=[103,105,118,101,110]∨w=[102,97,117,108,116,121]∨w=[97,116]then some ([(Q9 T s).1],(Q9 T s).2)
 else if w=[75]then(fo (Q4 T [44] (Q9 T s).2)).bind fun p=>some ([(Q9 T s).1,p.1],p.2)
 else if w=[69]∨w=[68]∨w=[67]then(mSet T s).bind fun q=>(fo (Q4 T [44] q.2)).bind fun p=>some ([q.1,p.1],p.2)
 else(fo s).bind fun p=>some ([p.1],p.2)
def mrd:Nat→NT→MRd
 | 0,_=>fun _=>none
 | f+1,.cond=>Q3h T (mrd f .conj) [kOr]
 | f+1,.conj=>Q3h T (mrd f .neg) [kAnd]
 | f+1,.neg=>fun s=>
  if s.er≠0 then some (Q3d,s)
  else if isW T [kNot] s.i then(mrd f .neg (Qx T (Qa T s))).bind fun p=>some (.mk 12 [] 0 (tk T s.i).pos [p.1],mPop p.2)
  else if isW T [[97,108,108]] s.i=true∨isW T [[115,111,109,101]] s.i=true then
   (mrd f .cond (Qx T (Q4 T [58] (Qm res T (Qa T s)).2))).bind fun p=>some (.mk 13 (tk T s.i).text 0 (tk T s.i).pos [(Qm res T (Qa T s)).1,p.1],mPop p.2)
  else(mrd f .sum s).bind fun p=>
   if p.2.er=0∧isW T [[61],[33,61],[60],[60,61]] p.2.i=true then(mrd f .sum (Qa T p.2)).bind fun q=>some (binary (tk T p.2.i).text 0 p.1 q.1,q.2)
   else some p
 | f+1,.sum=>Q3h T (mrd f .unit) [[43],[45]]
 | f+1,.unit=>fun s=>
  if s.er≠0 then some (Q3d,s)
  else if(tk T s.i).kind=1 then some (Q9 T s)
  else if Q1a res T s.i then some (Qm res T s)
  else if isW T [[40]] s.i then(mrd f .cond (Qx T (Qa T s))).bind fun p=>some (p.1,Q4 T [41] (mPop p.2))
  else if isW T [[105,110]] s.i=true∨isW T [[111,117,116]] s.i=true then
   (mrd f .sum (Qx T (Q4 T [40] (Qa T s)))).bind fun p=>some (.mk 10 (tk T s.i).text 0 (tk T s.i).pos [p.1],Q4 T [41] (mPop p.2))
  else if isW T [[104,101,97,114,115]] s.i then
   (mrd f .sum (Qx T (Q4 T [40] (Qa T s)))).bind fun p=>(mrd f .sum (Q4 T [44] p.2)).bind fun q=>some (.mk 10 (tk T s.i).text 0 (tk T s.i).pos [p.1,q.1],Q4 T [41] (mPop q.2))
  else if isW T [[99,111,117,110,116]] s.i then
   (mrd f .cond (Qx T (Q4 T [40] (Qm res T (Qa T s)).2))).bind fun p=>some (.mk 13 (tk T s.i).text 0 (tk T s.i).pos [(Qm res T (Qa T s)).1,p.1],Q4 T [41] (mPop p.2))
  else some (.mk 10 (tk T s.i).text 0 (tk T s.i).pos [],Qz T 4 s)
 | f+1,.scheme=>Q3h T (mrd f .term) [kOr]
 | f+1,.term=>Q3h T (mrd f .factor) [kAnd]
 | f+1,.factor=>fun s=>
  if s.er≠0 then some (Q3d,s)
  else(mrd f .atom s).bind fun p=>
   if p.2.er=0∧isW T [[116,104,101,110]] p.2.i=true then
    (mrd f .factor (Qx T (Q9 T (Qa T p.2)).2)).bind fun q=>some (binary [116,104,101,110] (Q9 T (Qa T p.2)).1.num p.1 q.1,mPop q.2)
   else some p
 | f+1,.atom=>fun s=>
  if Q1a res T s.i then some (Qm res T s)
  else if isW T [[99,114,97,115,104],[115,101,110,100],[114,101,99,101,105,118,101],[111,109,105,116],[112,97,114,116,105,116,105,111,110]] s.i then
   some (.mk 10 (tk T s.i).text 0 (tk T s.i).pos [(Q9 T (Qx T (Q4 T [40] (Qa T s)))).1],Q4 T [41] (mPop (Q9 T (Qx T (Q4 T [40] (Qa T s)))).2))
  else if isW T [[115,110,97,112,115,104,111,116]] s.i then some (.mk 10 (tk T s.i).text 0 (tk T s.i).pos [],Qa T s)
  else if isW T [[103,114,97,112,104,115]] s.i then
   (mrd f .cond (Qx T (Q4 T [40] (Qa T s)))).bind fun p=>some (.mk 10 (tk T s.i).text 0 (tk T s.i).pos [p.1],Q4 T [41] (mPop p.2))
  else if isW T [[40]] s.i then(mrd f .scheme (Qx T (Qa T s))).bind fun p=>some (p.1,Q4 T [41] (mPop p.2))
  else some (.mk 10 (tk T s.i).text 0 (tk T s.i).pos [],Qz T 4 s)
 | f+1,.formula=>fun s=>(mrd f .disj s).bind fun p=>
  if p.2.er=0∧isW T [[117,110,116,105,108]] p.2.i=true then
   (mrd f .formula (Qx T (Qa T p.2))).bind fun q=>some (binary [117,110,116,105,108] 0 p.1 q.1,mPop q.2)
  else some p
 | f+1,.disj=>Q3h T (mrd f .meet) [kOr]
 | f+1,.meet=>Q3h T (mrd f .lit) [kAnd]
 | f+1,.lit=>fun s=>
  if s.er≠0 then some (Q3d,s)
  else if isW T [kNot] s.i then(mrd f .lit (Qx T (Qa T s))).bind fun p=>some (.mk 12 [] 0 (tk T s.i).pos [p.1],mPop p.2)
  else if isW T [[116,114,117,101]] s.i then some (.mk 10 (tk T s.i).text 0 (tk T s.i).pos [],Qa T s)
  else if isW T [[40]] s.i then(mrd f .formula (Qx T (Qa T s))).bind fun p=>some (p.1,Q4 T [41] (mPop p.2))
  else if isW T [[105,110,112,117,116],[104,101,97,114,100],[100,101,99,105,100,101,100],[103,105,118,101,110],[102,97,117,108,116,121],[97,116],[75],[69],[68],[67],[110,101,120,116],[97,108,119,97,121,115],[101,118,101,110,116,117,97,108,108,121]] s.i then
   (Q0m T (mrd f .formula) (tk T s.i).text (Qx T (Q4 T [40] (Qa T s)))).bind fun p=>some (.mk 10 (tk T s.i).text 0 (tk T s.i).pos p.1,Q4 T [41] (mPop p.2))
  else some (.mk 10 (tk T s.i).text 0 (tk T s.i).pos [],Qz T 4 s)
def Q1q(f:Nat)(kind:Int)(w:List UInt8):MRd:=fun s=>(mrd res T f .cond (Q4 T w s)).bind fun p=>some (.mk kind [] 0 (tk T s.i).pos [p.1],p.2)
def mOpt(f:Nat)(kind:Int)(w:List UInt8)(xs:List Syn):St→Option (List Syn×St):=fun s=>if isW T [w] s.i then(Q1q res T f kind w s).bind fun p=>some (xs++[p.1],p.2)else some (xs,s)
def Q5t(f:Nat):MRd:=fun s=>
 (if isW T [[116,97,115,107]] s.i then
  let n:=Qm res T (Qa T s)
  let a:=Q9 T (Q4 T [105,110,112,117,116,115] n.2)
  let b:=Q9 T (Q4 T [111,117,116,112,117,116,115] a.2)
  (mOpt res T f 2 [119,104,101,114,101] [b.1] b.2).bind fun p=>(Q1q res T f 3 [97,108,108,111,119] p.2).bind fun q=>
  (mOpt res T f 4 [99,97,108,109] (p.1++[q.1]) q.2).bind fun r=>some (Syn.mk 1 n.1.text a.1.num (tk T s.i).pos r.1,r.2)
 else if isW T [[97,100,118,101,114,115,97,114,121]] s.i then
  let n:=Qm res T (Qa T s)
  (mrd res T f .scheme (Q4 T [61] n.2)).bind fun p=>some (Syn.mk 5 n.1.text 0 (tk T s.i).pos [p.1],p.2)
 else if isW T [[102,111,114,109,117,108,97]] s.i then
  let n:=Qm res T (Qa T s)
  (mrd res T f .formula (Q4 T [61] n.2)).bind fun p=>some (Syn.mk 6 n.1.text 0 (tk T s.i).pos [p.1],p.2)
 else if isW T [[112,114,111,98,108,101,109]] s.i then
  let n:=Qm res T (Qa T s)
  let a:=Qm res T (Q4 T [61] n.2)
  let b:=Qm res T (Q4 T [117,110,100,101,114] a.2)
  let m:=Q9 T (Q4 T [114,111,117,110,100,115] b.2)
  some (Syn.mk 7 n.1.text m.1.num (tk T s.i).pos [a.1,b.1],m.2)
 else some (Syn.mk 0 [] 0 (tk T s.i).pos [],Qz T 4 s)).bind fun p=>some (p.1,Q4 T [59] p.2)
def Q44(f:Nat):Nat→List Syn→St→Option (List Syn×St)
 | 0,_,_=>none
 | g+1,xs,s=>if s.er=0∧(tk T s.i).kind≠3 then(Q5t res T f s).bind fun p=>Q44 f g (xs++[p.1]) p.2 else some (xs,s)
def Q74(f:Nat):MRd:=fun s=>
 let n:=Q9 T (Q4 T [112,114,111,99,101,115,115,101,115] s)
 (Q44 res T f (T.length+2) [] (Q4 T [59] n.2)).bind fun p=>some (.mk 0 [] n.1.num (tk T s.i).pos p.1,p.2)
def Q8w:St:=⟨0,0,0,0⟩
def mEnd(s:St):St:=if(tk T s.i).kind=3 then s else Qz T 4 s
def Q8h(r:MRd):Option (Syn×St):=(r Q8w).bind fun p=>some (p.1,mEnd T p.2)
end
structure TokOk (T:List Tok):Prop where
 last:(tk T (T.length-1)).kind=3
 num:∀i,i<T.length→(tk T i).kind=1→mVal (tk T i).text=(dv 0 (tk T i).text:Nat)
 par:∀i,(tk T i).kind=0→(tk T i).text≠[40]
end
section
section
variable {res:List UInt8→Bool} {T:List Tok} {lv lv' i f:Nat} {a:Int}
def Q7m(res:List UInt8→Bool)(T:List Tok)(f:Nat):Rd:=fun lv i=>
 if isW T [[116,97,115,107]] i then
  (name res T (nx T i)).bind fun nm j=>(need T [105,110,112,117,116,115] j).bind fun _ j=>(number T j).bind fun a j=>(need T [111,117,116,112,117,116,115] j).bind fun _ j=>
  (number T j).bind fun b j=>(Q10 res T f [119,104,101,114,101] 2 [b] lv j).bind fun xs j=>
  if isW T [[97,108,108,111,119]] j then(part res T f 3 lv j).bind fun y j=>(Q10 res T f [99,97,108,109] 4 (xs++[y]) lv j).bind fun ys j=>.ok (Syn.mk 1 nm.text a.num (tk T i).pos ys) j
  else fail T 4 j
 else if isW T [[97,100,118,101,114,115,97,114,121]] i then
  (name res T (nx T i)).bind fun nm j=>(need T [61] j).bind fun _ j=>(rd res T f .scheme lv j).bind fun x j=>.ok (Syn.mk 5 nm.text 0 (tk T i).pos [x]) j
 else if isW T [[102,111,114,109,117,108,97]] i then
  (name res T (nx T i)).bind fun nm j=>(need T [61] j).bind fun _ j=>(rd res T f .formula lv j).bind fun x j=>.ok (Syn.mk 6 nm.text 0 (tk T i).pos [x]) j
 else if isW T [[112,114,111,98,108,101,109]] i then
  (name res T (nx T i)).bind fun nm j=>(need T [61] j).bind fun _ j=>(name res T j).bind fun a j=>(need T [117,110,100,101,114] j).bind fun _ j=>(name res T j).bind fun b j=>
  (need T [114,111,117,110,100,115] j).bind fun _ j=>(number T j).bind fun n j=>.ok (Syn.mk 7 nm.text n.num (tk T i).pos [a,b]) j
 else fail T 4 i
theorem Qfd:declaration res T f lv i=(Q7m res T f lv i).bind fun x j=>(need T [59] j).bind fun _ j=>.ok x j:=rfl
theorem Q9t{k:Int}(hl:(tk T (T.length-1)).kind=3)(hi:i<T.length)(hk:(tk T i).kind≠3):On T i (part res T f k lv i):=On.behind hl hi hk fun j _ h2 e=>by unfold part;rw[e];exact((Q43 hl f _ _ _ h2).bind fun _ _ _ h=>On0.ok h).zero
theorem Q9c{w:List UInt8}{k:Int}{xs:List Syn}(hl:(tk T (T.length-1)).kind=3)(hi:i<T.length):On0 T i (Q10 res T f w k xs lv i):=by
 unfold Q10;split
 ·rename_i h;exact((Q9t hl hi (Qd h)).bind fun _ _ _ h=>On0.ok h).zero
 ·exact On0.ok hi
theorem Qg5(hl:(tk T (T.length-1)).kind=3)(hi:i<T.length):On T i (Q7m res T f lv i):=by
 unfold Q7m;split
 ·rename_i h
  refine On.behind hl hi (Qd h) fun j _ h2 e=>?_
  rw[e];refine((Q2z hl h2).bind fun _ _ _ h=>((Q0y hl _ h).bind fun _ _ _ h=>((Q1k hl h).bind fun _ _ _ h=>((Q0y hl _ h).bind fun _ _ _ h=>((Q1k hl h).bind fun _ _ _ h=>(Q9c hl h).bind fun _ j _ h=>?_).zero).zero).zero).zero).zero;split
  ·rename_i hw
   exact((Q9t hl h (Qd hw)).bind fun _ _ _ h=>(Q9c hl h).bind fun _ _ _ h=>On0.ok h).zero
  ·exact(On.fail _).zero
 split
 ·rename_i h
  refine On.behind hl hi (Qd h) fun j _ h2 e=>?_
  rw[e];exact((Q2z hl h2).bind fun _ _ _ h=>((Q0y hl _ h).bind fun _ _ _ h=>((Q43 hl f _ _ _ h).bind fun _ _ _ h=>On0.ok h).zero).zero).zero
 split
 ·rename_i h
  refine On.behind hl hi (Qd h) fun j _ h2 e=>?_
  rw[e];exact((Q2z hl h2).bind fun _ _ _ h=>((Q0y hl _ h).bind fun _ _ _ h=>((Q43 hl f _ _ _ h).bind fun _ _ _ h=>On0.ok h).zero).zero).zero
 split
 ·rename_i h
  refine On.behind hl hi (Qd h) fun j _ h2 e=>?_
  rw[e];exact((Q2z hl h2).bind fun _ _ _ h=>((Q0y hl _ h).bind fun _ _ _ h=>((Q2z hl h).bind fun _ _ _ h=>((Q0y hl _ h).bind fun _ _ _ h=>((Q2z hl h).bind fun _ _ _ h=>((Q0y hl _ h).bind fun _ _ _ h=>((Q1k hl h).bind fun _ _ _ h=>On0.ok h).zero).zero).zero).zero).zero).zero).zero
 ·exact On.fail _
theorem Qjd(hl:(tk T (T.length-1)).kind=3)(hi:i<T.length):On T i (declaration res T f lv i):=(Qg5 hl hi).bind fun _ _ _ h=>((Q0y hl _ h).bind fun _ _ _ h=>On0.ok h).zero
theorem Qg0{k:Int}(hl:(tk T (T.length-1)).kind=3)(h:∀nt j,i<j→j<T.length→rd res T f nt lv j≠.none)(hi:i<T.length)(hk:(tk T i).kind≠3):part res T f k lv i≠.none:=by obtain⟨q1,q2⟩:=Q08 hl hi hk;unfold part;rw[q1];exact Qj (h _ _ (by omega) q2) fun _ _ _=>Q0g _ _
theorem Qgq{k:Int}{w:List UInt8}{xs:List Syn}(hl:(tk T (T.length-1)).kind=3)(h:∀nt j,i<j→j<T.length→rd res T f nt lv j≠.none)(hi:i<T.length):Q10 res T f w k xs lv i≠.none:=by
 unfold Q10;split
 ·rename_i hw;exact Qj (Qg0 hl h hi (Qd hw)) fun _ _ _=>Q0g _ _
 ·exact Q0g _ _
theorem Qp9(hl:(tk T (T.length-1)).kind=3)(h:∀nt j,i<j→j<T.length→rd res T f nt lv j≠.none)(hi:i<T.length):Q7m res T f lv i≠.none:=by
 have hb:∀{w:List UInt8},isW T [w] i=true→i<nx T i∧nx T i<T.length:=fun hw=>by obtain⟨q1,q2⟩:=Q08 hl hi (Qd hw);omega
 unfold Q7m;split
 ·rename_i hw
  obtain⟨q1,q2⟩:=hb hw;refine Qj (Q48 _) fun _ j e=>?_
  obtain⟨a1,a2⟩:=Q2z hl q2 _ _ e;refine Qj (Q25 _ _) fun _ j e=>?_
  obtain⟨b1,b2⟩:=Q0y hl _ a2 _ _ e;refine Qj (Q4v _) fun _ j e=>?_
  obtain⟨c1,c2⟩:=Q1k hl b2 _ _ e;refine Qj (Q25 _ _) fun _ j e=>?_
  obtain⟨d1,d2⟩:=Q0y hl _ c2 _ _ e;refine Qj (Q4v _) fun _ j e=>?_
  obtain⟨e1,e2⟩:=Q1k hl d2 _ _ e;refine Qj (Qgq hl (fun nt j hj=>h nt j (by omega)) e2) fun _ j e=>?_
  obtain⟨f1,f2⟩:=Q9c hl e2 _ _ e;split
  ·rename_i hw
   refine Qj (Qg0 hl (fun nt j hj=>h nt j (by omega)) f2 (Qd hw)) fun _ j e=>?_
   obtain⟨g1,g2⟩:=Q9t hl f2 (Qd hw) _ _ e;exact Qj (Qgq hl (fun nt j hj=>h nt j (by omega)) g2) fun _ _ _=>Q0g _ _
  ·exact Q6y _ _
 split
 ·rename_i hw
  obtain⟨q1,q2⟩:=hb hw;refine Qj (Q48 _) fun _ j e=>?_
  obtain⟨a1,a2⟩:=Q2z hl q2 _ _ e;refine Qj (Q25 _ _) fun _ j e=>?_
  obtain⟨b1,b2⟩:=Q0y hl _ a2 _ _ e;exact Qj (h _ _ (by omega) b2) fun _ _ _=>Q0g _ _
 split
 ·rename_i hw
  obtain⟨q1,q2⟩:=hb hw;refine Qj (Q48 _) fun _ j e=>?_
  obtain⟨a1,a2⟩:=Q2z hl q2 _ _ e;refine Qj (Q25 _ _) fun _ j e=>?_
  obtain⟨b1,b2⟩:=Q0y hl _ a2 _ _ e;exact Qj (h _ _ (by omega) b2) fun _ _ _=>Q0g _ _
 split
 ·exact Qj (Q48 _) fun _ _ _=>Qj (Q25 _ _) fun _ _ _=>Qj (Q48 _) fun _ _ _=>Qj (Q25 _ _) fun _ _ _=>Qj (Q48 _) fun _ _ _=>Qj (Q25 _ _) fun _ _ _=>Qj (Q4v _) fun _ _ _=>Q0g _ _
 ·exact Q6y _ _
theorem Qmv(hl:(tk T (T.length-1)).kind=3)(h:∀nt j,i<j→j<T.length→rd res T f nt lv j≠.none)(hi:i<T.length):declaration res T f lv i≠.none:=by rw[Qfd];exact Qj (Qp9 hl h hi) fun _ _ _=>Qj (Q25 _ _) fun _ _ _=>Q0g _ _
theorem Qt6(hl:(tk T (T.length-1)).kind=3)(h:∀nt j,j<T.length→rd res T f nt lv j≠.none)(g:Nat):∀xs i,i<T.length→T.length<g+i→Q2m res T f lv g xs i≠.none:=by
 induction g with
 | zero=>intro x i h1 h2;omega
 | succ g ih=>
  intro xs i hi hg;rw[Q2m];split
  ·exact Q0g _ _
  ·refine Qj (Qmv hl (fun nt j _=>h nt j) hi) fun y j e=>?_
   obtain⟨h3,h4⟩:=Qjd hl hi _ _ e;exact ih _ _ h4 (by omega)
theorem Qr6(hl:(tk T (T.length-1)).kind=3)(h:∀nt j,j<T.length→rd res T f nt lv j≠.none)(hi:i<T.length):program res T f lv i≠.none:=by
 unfold program;refine Qj (Q25 _ _) fun _ j e=>?_
 obtain⟨a1,a2⟩:=Q0y hl _ hi _ _ e;refine Qj (Q4v _) fun _ j e=>?_
 obtain⟨b1,b2⟩:=Q1k hl a2 _ _ e;refine Qj (Q25 _ _) fun _ j e=>?_
 obtain⟨c1,c2⟩:=Q0y hl _ b2 _ _ e;exact Qj (Qt6 hl h _ _ _ c2 (by omega)) fun _ _ _=>Q0g _ _
theorem Q7a{r:Rd}(hr:r 0 0≠.none):whole T r≠.none:=by
 unfold whole;refine Qj hr fun _ _ _=>?_
 split
 ·exact Q0g _ _
 ·exact Q6y _ _
end
end
theorem Qi4:∀(l:List UInt8) (n:Nat),(∀c∈l,Qe c.toNat=true)→dv n l≤1048576→Q59 n l=(dv n l:Nat)
 | [],_,_,_=>rfl
 | c::r,n,hd,h=>by
  have hc:=hd c (by simp);simp only[Qe,Bool.and_eq_true,decide_eq_true_eq]at hc;rw[Q5f]at h⊢;have h1:=Qao r (10*n+(c.toNat-48));have h2:0<10 ^ r.length:=Nat.pow_pos (by omega);have h3:10*n+(c.toNat-48)≤(10*n+(c.toNat-48))*10 ^ r.length:=Nat.le_mul_of_pos_right _ h2;rw[Q59,if_neg (by omega)];have e:(10*(n:Int)+((c.toNat:Int)-48))=((10*n+(c.toNat-48):Nat):Int):=by omega
  rw[e];exact Qi4 r _ (fun c h=>hd c (by simp[h])) h
theorem Qvm{l:List UInt8}{n:Nat}(h:tok l=.ok (0,n)):l.take n≠[40]:=by
 unfold tok at h;by_cases h1:Q1 Q7 l=0
 ·rw[if_pos h1]at h;split at h<;>simp at h
 rw[if_neg h1]at h;by_cases h2:Q1 Q0s l=0
 ·rw[if_pos h2]at h
  split at h
  ·simp at h
  ·split at h<;>simp at h
 ·intro e
  cases l with
  | nil=>simp at e
  | cons c r=>
   cases n with
   | zero=>simp at e
   | succ n=>rw[List.take_succ_cons]at e;have hc:c=40:=(List.cons.inj e).1;subst hc;exact h2 (by simp[Q1,Q0s])
theorem Qou(f:Nat):∀(p:Nat) (l:List UInt8) (ts:List Tok),Q0e f p l=.ok ts→∀t∈ts,t.kind=0→t.text≠[40]:=by
 induction f with
 | zero=>intro p l ts h;simp[Q0e]at h;subst h;simp
 | succ f ih=>
  intro p l ts h;simp only[Q0e]at h;split at h
  ·simp only[Except.ok.injEq]at h;subst h
   intro t ht;rw[List.mem_singleton.1 ht];simp
  ·rename_i c r hd
   split at h
   ·simp at h
   ·rename_i kind n ht
    split at h
    ·simp at h
    ·rename_i us hu
     simp only[Except.ok.injEq]at h;subst h;intro t hm;rcases List.mem_cons.1 hm with rfl|hm
     ·intro hk
      have hk1:kind=0:=by simp only at hk;omega
      subst hk1;exact Qvm ht
     ·exact ih _ _ _ hu t hm
theorem Ql2(f:Nat):∀(p:Nat) (l:List UInt8) (ts:List Tok),Q0e f p l=.ok ts→ts.length≤l.length+1:=by
 induction f with
 | zero=>intro p l ts h;simp[Q0e]at h;subst h;simp
 | succ f ih=>
  intro p l ts h;simp only[Q0e]at h;split at h
  ·simp at h;subst h;simp
  ·rename_i c r hd
   have hlen:(c::r).length=l.length-skip false l:=by rw[←hd];simp
   split at h
   ·simp at h
   ·rename_i kind n ht
    have hp:=Q3r ht;split at h
    ·simp at h
    ·rename_i us hus
     have:=ih _ _ _ hus;simp at h;subst h;simp only[List.length_drop]at this;simp only[List.length_cons]at *;omega
structure Scanned (s:List UInt8) (T:List Tok):Prop where
 ok:TokOk T
 pos:0<T.length
 len:T.length≤s.length+1
 num:∀t∈T,t.kind=1→t.text≠[]∧(∀c∈t.text,Qe c.toNat=true)∧dv 0 t.text≤1048576
 txt:∀t∈T,t.text.length≤s.length
theorem Qil{T:List Tok}{i:Nat}(h:i<T.length):tk T i∈T:=by unfold tk;rw[List.getD_eq_getElem?_getD,List.getElem?_eq_getElem h];exact List.getElem_mem h
theorem scanned{s:List UInt8}{T:List Tok}(h:scan s=.ok T):Scanned s T:=by
 unfold scan at h;split at h
 ·simp at h
 ·have h1:=Qsh _ _ _ _ h
  obtain⟨a,t,rfl,hk⟩:=Qpy _ _ _ _ (by omega) h;have hp:0<(a++[t]).length:=by simp
  refine⟨⟨?_,fun i hi hk=>?_,fun i hk=>?_⟩,hp,Ql2 _ _ _ _ h,fun t ht=>(h1 t ht).1,fun t ht=>(h1 t ht).2⟩
  ·have:tk (a++[t]) ((a++[t]).length-1)=t:=by
    unfold tk;simp[List.getD_eq_getElem?_getD]
   rw[this];exact hk
  ·obtain⟨n0,n1,n2⟩:=(h1 _ (Qil hi)).1 hk
   exact Qi4 _ 0 n1 n2
  ·rcases Nat.lt_or_ge i (a++[t]).length with hi|hi
   ·exact Qou _ _ _ _ h _ (Qil hi) hk
   ·exfalso
    have:tk (a++[t]) i=Qe0:=by unfold tk;rw[List.getD_eq_getElem?_getD,List.getElem?_eq_none hi];rfl
    rw[this]at hk;revert hk;decide
section
inductive Small:Syn→Prop
 | mk {kd:Int} {tx:List UInt8} {n a:Int} {k:List Syn} (h:k.length≤1000000) (hk:∀z∈k,Small z):Small (.mk kd tx n a k)
def AllO{α:Type}(P:α→Prop)(o:Out α):Prop:=match o with|.ok a _=>P a|_=>True
theorem AllO.bind{α β:Type}{P:α→Prop}{Q:β→Prop}{o:Out α}{f:α→Nat→Out β}(h:AllO P o)(hf:∀a j,P a→AllO Q (f a j)):AllO Q (o.bind f):=by
 cases o with
 | none=>trivial
 | err p e=>trivial
 | ok a j=>exact hf a j h
section
variable {res:List UInt8→Bool} {T:List Tok} {lv i:Nat}
end
end
section
section
variable {P:Int→Int→Prop}
end
end
section
structure AlkT (T U:List Tok):Prop where
 len:T.length=U.length
 kind:∀i,(tk T i).kind=(tk U i).kind
 text:∀i,(tk T i).text=(tk U i).text
abbrev Any:Int→Int→Prop:=fun _ _=>True
def TwO{α β:Type}(R:α→β→Prop)(o:Out α)(u:Out β):Prop:=match o,u with|.none,.none=>True|.err _ e,.err _ f=>e=f|.ok a i,.ok b j=>i=j∧R a b|_,_=>False
theorem TwO.bind{α β γ δ:Type}{R:α→β→Prop}{Q:γ→δ→Prop}{o:Out α}{u:Out β}{f:α→Nat→Out γ}{g:β→Nat→Out δ}(h:TwO R o u)(hf:∀a b i,R a b→TwO Q (f a i) (g b i)):TwO Q (o.bind f) (u.bind g):=by
 cases o<;>cases u<;>simp only[TwO]at h
 ·exact h
 ·exact h
 ·obtain⟨rfl,h⟩:=h
  exact hf _ _ _ h
abbrev TwS(o u:Out Syn):Prop:=TwO (Twin Any) o u
section
variable {T U:List Tok} {res:List UInt8→Bool} {lv i:Nat}
theorem AlkT.isW(h:AlkT T U)(ws:List (List UInt8))(i:Nat):isW T ws i=Proofs.YtplbfmcgddnkeaaGreatDoor.isW U ws i:=by unfold Proofs.YtplbfmcgddnkeaaGreatDoor.isW;rw[h.kind,h.text]
theorem AlkT.nx(h:AlkT T U)(i:Nat):nx T i=Proofs.YtplbfmcgddnkeaaGreatDoor.nx U i:=by unfold Proofs.YtplbfmcgddnkeaaGreatDoor.nx;rw[h.len]
def KR(r q:Rd):Prop:=∀lv i,TwS (r lv i) (q lv i)
inductive KRs:List Rd→List Rd→Prop
 | nil:KRs [] []
 | cons {r q:Rd} {rs qs:List Rd} (h:KR r q) (hr:KRs rs qs):KRs (r::rs) (q::qs)
end
end
section
def Qbb:List (List (List UInt8)):=[[kOr],[kAnd],[[43],[45]],[[61],[33,61],[60],[60,61]],[[116,104,101,110]],[[117,110,116,105,108]],[[44]]]
structure SubT (T U:List Tok) (m d:Nat):Prop where
 len:T.length=m+1
 lst:(tk T m).kind=3
 inn:∀i,i<m→(tk T i).kind≠3
 ulen:m+d<U.length
 kind:∀i,i<m→(tk T i).kind=(tk U (i+d)).kind
 text:∀i,i<m→(tk T i).text=(tk U (i+d)).text
 stop:∀ws∈Qbb,isW U ws (m+d)=false
def SimO{α β:Type}(m d dl:Nat)(R:α→β→Prop)(o:Out α)(u:Out β):Prop:=
 match o with
 | .ok a j=>match u with|.ok b l=>j≤m∧l=j+d∧R a b|.err _ e=>e=12∧0<dl|.none=>False
 | _=>True
section
variable {T U:List Tok} {res:List UInt8→Bool} {lv i m d dl:Nat}
theorem SimO.bind{α β γ δ:Type}{R:α→β→Prop}{Q:γ→δ→Prop}{o:Out α}{u:Out β}{f:α→Nat→Out γ}{g:β→Nat→Out δ}(h:SimO m d dl R o u)(hf:∀a b j,j≤m→R a b→SimO m d dl Q (f a j) (g b (j+d))):SimO m d dl Q (o.bind f) (u.bind g):=by
 cases o with
 | none=>trivial
 | err p e=>trivial
 | ok a j=>
  cases u with
  | none=>exact h.elim
  | err p e=>
   show SimO m d dl Q (f a j) (.err p e);cases f a j with
   | none=>trivial
   | err p e=>trivial
   | ok b l=>exact h
  | ok b l=>obtain⟨h1,rfl,h2⟩:=h;exact hf _ _ _ h1 h2
theorem SubT.last(h:SubT T U m d):(tk T (T.length-1)).kind=3:=by rw[h.len,Nat.add_sub_cancel];exact h.lst
theorem SubT.isN(h:SubT T U m d)(ws:List (List UInt8)):isW T ws m=false:=by unfold isW;rw[h.lst];rfl
theorem SubT.lt(h:SubT T U m d){ws:List (List UInt8)}(hi:i≤m)(hw:isW T ws i=true):i<m:=by
 rcases Nat.lt_or_ge i m with hl|hl
 ·exact hl
 ·obtain rfl:i=m:=by omega
  rw[h.isN]at hw;cases hw
theorem SubT.le(h:SubT T U m d):T.length≤U.length:=by have:=h.len;have:=h.ulen;omega
def BR(m d dl:Nat)(r q:Rd):Prop:=∀lv i,i≤m→SimO m d dl (Twin Any) (r lv i) (q (lv+dl) (i+d))
inductive BRs (m d dl:Nat):List Rd→List Rd→Prop
 | nil:BRs m d dl [] []
 | cons {r q:Rd} {rs qs:List Rd} (h:BR m d dl r q) (hr:BRs m d dl rs qs):BRs m d dl (r::rs) (q::qs)
end
end
abbrev KT:=Int×List UInt8
def kts(ts:List Tok):List KT:=ts.map fun t=>(t.kind,t.text)
abbrev Q1y:KT:=(3,[])
def Lx(l:List UInt8)(K:List KT):Prop:=∀p,∃ts,Q1j p l=.ok ts∧kts ts=K
theorem Qt8{l:List UInt8}{K:List KT}(h:Lx l K)(hl:l.length≤65536):∃T,scan l=.ok T∧kts T=K:=by obtain⟨T,h1,h2⟩:=h 0;exact⟨T,by rw[Qbt hl];exact h1,h2⟩
theorem Qqc:Lx [] [Q1y]:=fun p=>⟨_,Qbp p,rfl⟩
theorem Qiu{x y:List UInt8}{k:Nat}{K:List KT}(ht:tok x=.ok (k,x.length))(hf:fits x y)(h:Lx y K):Lx (x++y) (((k:Int),x)::K):=by intro p;have hne:=(tokClass ht).1;have hs:=Q9l (p:=p) (Qqv ht y) (by simp[hne]) (Qsa ht hf);rw[List.take_append_of_le_length (Nat.le_refl _),List.take_length,List.drop_append_of_le_length (Nat.le_refl _),List.drop_length,List.nil_append]at hs;obtain⟨ms,h1,h2⟩:=h (p+x.length);rw[h1]at hs;exact⟨_,hs,by simp only[List.singleton_append,kts,List.map_cons];rw[←h2];rfl⟩
theorem Qn7{x y:List UInt8}{K:List KT}(hs:skip false (x++y)=x.length+skip false y)(h:Lx y K):Lx (x++y) K:=by intro p;obtain⟨ms,h1,h2⟩:=h (p+x.length);refine⟨ms,?_,h2⟩;rw[Q69,hs];rw[Q69 (p+x.length)]at h1;rw[List.drop_append,List.drop_of_length_le (by omega),List.nil_append,show x.length+skip false y-x.length=skip false y by omega,←Nat.add_assoc];exact h1
theorem Qb1{b:UInt8}{y:List UInt8}{K:List KT}(hb:Q0f b.toNat=true)(h:Lx y K):Lx (b::y) K:=
 Qn7 (x:=[b]) (by
  have h35:¬ b.toNat=35:=by intro e;rw[e]at hb;revert hb;decide
  rw[List.singleton_append,Qir,if_neg h35,if_pos hb,List.length_singleton,Nat.add_comm]) h
theorem Q9j{b:UInt8}{y:List UInt8}{K:List KT}(hb:b=40∨b=41∨b=59∨b=44∨b=58∨b=123∨b=125)(h:Lx y K):Lx (b::y) ((2,[b])::K):=Qiu (x:=[b]) (k:=2) (by rcases hb with rfl|rfl|rfl|rfl|rfl|rfl|rfl<;>rfl) (fun c hc=>by rcases hb with rfl|rfl|rfl|rfl|rfl|rfl|rfl<;>exact⟨fun h=>absurd h (by decide),fun h=>absurd h.1 (by decide)⟩) h
theorem Qce(T:List Tok)(i:Nat):(tk T i).kind=((kts T).getD i Q1y).1:=by unfold tk kts;rw[List.getD_eq_getElem?_getD,List.getD_eq_getElem?_getD,List.getElem?_map];cases T[i]?<;>rfl
theorem Qg7(T:List Tok)(i:Nat):(tk T i).text=((kts T).getD i Q1y).2:=by unfold tk kts;rw[List.getD_eq_getElem?_getD,List.getD_eq_getElem?_getD,List.getElem?_map];cases T[i]?<;>rfl
theorem Qbm(T:List Tok):(kts T).length=T.length:=by unfold kts;rw[List.length_map]
theorem Qll{T:List Tok}(h:Good T):∃C,kts T=C++[Q1y]∧∀x∈C,∃k:Nat,x.1=k∧tok x.2=.ok (k,x.2.length):=by
 induction T with
 | nil=>exact h.elim
 | cons t r ih=>
  rcases h with⟨h1,h2,rfl⟩|⟨h1,h2⟩
  ·exact⟨[],by simp[kts,h1,h2],fun x hx=>(List.not_mem_nil hx).elim⟩
  ·obtain⟨C,hC,hx⟩:=ih h2
   refine⟨(t.kind,t.text)::C,by simp only[kts,List.map_cons,List.cons_append];rw[←hC];rfl,fun x hm=>?_⟩;rcases List.mem_cons.1 hm with rfl|hm
   ·exact h1
   ·exact hx x hm
theorem Qjo{s:List UInt8}{T:List Tok}(h:scan s=.ok T):Good T:=by
 unfold scan at h;split at h
 ·cases h
 ·exact(Qt3 (s.length+1) 0 s T (by omega) h).1
def Toks(C:List KT):Prop:=∀x∈C,∃k:Nat,x.1=k∧tok x.2=.ok (k,x.2.length)
theorem Toks.kind{C:List KT}(h:Toks C){x:KT}(hx:x∈C):x.1≠3:=by obtain⟨k,h1,h2⟩:=h x hx;have:=Q71 h2;omega
theorem Qet{s:List UInt8}{T:List Tok}(h:scan s=.ok T):∃C,kts T=C++[Q1y]∧Toks C:=Qll (Qjo h)
section
section
variable {T:List Tok} {C lv i:Nat}
theorem Qf1{f:Nat}{k:Int}(hA:TT C T)(hi:(tk T i).kind≠3):WO (QW C (Q6 k) i) (part Q0 T f k lv i):=by
 unfold part;rw[hA.nxt i hi];refine(rd_w hA f .cond _ _).bind fun x j hx=>⟨?_,?_⟩
 ·have hx:=hx.1
  dsimp only[okN]at hx
  simp[Q6,Syn.kind,Syn.text,Syn.num,Syn.kids,hx]
 ·have h1:=hx.2
  have hc:=hA.len i;rw[mulS]at h1;rw[Qw,Qu,Q0a];simp only[List.length_nil];omega
theorem Qiv{f:Nat}{w:List UInt8}{k:Int}{xs:List Syn}{b:Nat}(hA:TT C T)(hx:massL xs+C*b≤C*i):WO (fun ys j=>(ys=xs∨∃y,ys=xs++[y]∧Q6 k y=true)∧massL ys+C*b≤C*j) (Q10 Q0 T f w k xs lv i):=by
 unfold Q10;split
 ·rename_i hw
  exact(Qf1 hA (Q0t hw).1).bind fun y j hy=>⟨Or.inr ⟨y,rfl,hy.1⟩,by rw[Qar,Qu,Q0a];have:=hy.2;omega⟩
 ·exact⟨Or.inl rfl,hx⟩
theorem Q8d{k:Int}{x:Syn}(h:Q6 k x=true):x.kind=k:=by unfold Q6 at h;simp only[Bool.and_eq_true,decide_eq_true_eq]at h;exact h.1.1.1
theorem Qmq{b y:Syn}{xs ys:List Syn}(hb:Q5 b=true)(hxs:xs=[b]∨∃z,xs=[b]++[z]∧Q6 2 z=true)(hy:Q6 3 y=true)(hys:ys=xs++[y]∨∃z,ys=(xs++[y])++[z]∧Q6 4 z=true):Qy ys=true:=by
 have hk:y.kind≠2:=by rw[Q8d hy];decide
 rcases hxs with rfl|⟨z,rfl,hz⟩<;>rcases hys with rfl|⟨u,rfl,hu⟩
 ·simp[Qy,hb,hk,hy]
 ·simp[Qy,hb,hk,hy,hu]
 ·simp[Qy,hb,Q8d hz,hz,hy]
 ·simp[Qy,hb,Q8d hz,hz,hy,hu]
theorem Q6n{x:Syn}(h:Q5 x=true):natB x.num=true:=by unfold Q5 at h;simp only[Bool.and_eq_true]at h;exact h.1.2
theorem Q7b{x:Syn}(h:isNm x=true):Q0j x.text=true:=by unfold isNm at h;simp only[Bool.and_eq_true]at h;exact h.2
theorem Q67(x:Syn):70+2*x.text.length≤mass x:=by rcases x with⟨a,b,c,d,e⟩;rw[Qw];simp only[Syn.text];omega
theorem Q42{k:Int}{t:List UInt8}{n p:Int}{l:List Syn}:Qp (.mk k t n p l)=(Q0j t&&natB n&&(if k=1 then Qy l else if k=5 then decide (n=0)&&(match l with|[a]=>oks a|_=>false)
  else if k=6 then decide (n=0)&&(match l with|[a]=>okf a|_=>false)else if k=7 then(match l with|[a,b]=>isNm a&&isNm b|_=>false)else false)):=rfl
theorem Qj0{k:Int}{t:List UInt8}{n p:Int}{l:List Syn}:Q19 (.mk k t n p l)=(decide (k=0)&&(t==[])&&natB n&&l.all Qp):=rfl
theorem nat0:natB 0=true:=by decide
theorem Qw5{f:Nat}(hA:TT C T):WO (QW C Qp i) (declaration Q0 T f lv i):=by
 unfold declaration;have hc:=hA.len i;refine WO.bind (P:=QW C Qp i) ?_ fun x j hx=>(Q27 hA).bind fun _ k hk=>⟨hx.1,by subst hk;rw[mulS];have:=hx.2;omega⟩
 split
 ·rename_i hw
  rw[hA.nxt i (Q0t hw).1];refine(Q4a hA).bind fun nm j hnm=>(Q27 hA).bind fun _ j1 h1=>(Q4z hA).bind fun a j2 ha=>(Q27 hA).bind fun _ j3 h3=>(Q4z hA).bind fun b j4 hb=>(Qiv (b:=j3) hA (xs:=[b]) (by rw[Qu,Q0a];have:=hb.2;omega)).bind fun xs j5 hxs=>?_
  split
  ·rename_i hw2
   refine(Qf1 hA (Q0t hw2).1).bind fun y j6 hy=>(Qiv (b:=j3) hA (xs:=xs++[y]) (by rw[Qar,Qu,Q0a];have:=hxs.2;have:=hy.2;omega)).bind fun ys j7 hys=>⟨?_,?_⟩
   ·simp[Q42,Q7b hnm.1,Q6n ha.1,Qmq hb.1 hxs.1 hy.1 hys.1]
   ·have e1:=hnm.2;have e2:=ha.2;have e3:=hys.2
    subst h1;subst h3;rw[mulS]at e1 e2 e3;have:=Q67 nm;rw[Qw];omega
  ·trivial
 split
 ·rename_i hw
  rw[hA.nxt i (Q0t hw).1];refine(Q4a hA).bind fun nm j hnm=>(Q27 hA).bind fun _ j1 h1=>(rd_w hA f .scheme _ _).bind fun x j2 hx=>⟨?_,?_⟩
  ·have hx:=hx.1
   dsimp only[okN]at hx
   simp[Q42,Q7b hnm.1,hx,nat0]
  ·have e1:=hnm.2;have e2:=hx.2
   subst h1;rw[mulS]at e1 e2;have:=Q67 nm;rw[Qw,Qu,Q0a];omega
 split
 ·rename_i hw
  rw[hA.nxt i (Q0t hw).1];refine(Q4a hA).bind fun nm j hnm=>(Q27 hA).bind fun _ j1 h1=>(rd_w hA f .formula _ _).bind fun x j2 hx=>⟨?_,?_⟩
  ·have hx:=hx.1
   dsimp only[okN]at hx
   simp[Q42,Q7b hnm.1,hx,nat0]
  ·have e1:=hnm.2;have e2:=hx.2
   subst h1;rw[mulS]at e1 e2;have:=Q67 nm;rw[Qw,Qu,Q0a];omega
 split
 ·rename_i hw
  rw[hA.nxt i (Q0t hw).1];refine(Q4a hA).bind fun nm j hnm=>(Q27 hA).bind fun _ j1 h1=>(Q4a hA).bind fun a j2 ha=>(Q27 hA).bind fun _ j3 h3=>(Q4a hA).bind fun b j4 hb=>(Q27 hA).bind fun _ j5 h5=>(Q4z hA).bind fun n j6 hn=>⟨?_,?_⟩
  ·simp[Q42,Q7b hnm.1,Q6n hn.1,ha.1,hb.1]
  ·have e1:=hnm.2;have e2:=ha.2;have e3:=hb.2;have e4:=hn.2
   subst h1;subst h3;subst h5;rw[mulS]at e1 e2 e3 e4;have:=Q67 nm;rw[Qw,Qu,Qu,Q0a];omega
 ·trivial
theorem Qqy{f:Nat}(hA:TT C T)(g:Nat):∀xs k,(xs.all Qp=true∧massL xs+C*i≤C*k)→WO (fun xs j=>xs.all Qp=true∧massL xs+C*i≤C*j) (Q2m Q0 T f lv g xs k):=by
 induction g with
 | zero=>intro x k _;trivial
 | succ g ih=>
  intro xs k hx;unfold Q2m;split
  ·exact hx
  ·exact(Qw5 hA).bind fun y l hy=>ih _ _ ⟨by rw[List.all_append,hx.1];simp[hy.1],by have h1:=hx.2;have h2:=hy.2;rw[Qar,Qu,Q0a];omega⟩
theorem Qqi{f:Nat}(hA:TT C T):WR C Q19 (program Q0 T f):=fun lv i=>by
 unfold program;have hc:=hA.len i;refine(Q27 hA).bind fun t j hj=>(Q4z hA).bind fun n j1 hn=>(Q27 hA).bind fun _ j2 h2=>(Qqy (i:=j2) hA _ [] _ ⟨rfl,by rw[Q0a];omega⟩).bind fun xs j3 hxs=>⟨?_,?_⟩
 ·simp[Qj0,Q6n hn.1]
  simpa using hxs.1
 ·have e1:=hn.2;have e2:=hxs.2
  subst hj;subst h2;rw[mulS]at e1 e2;rw[Qw];simp only[List.length_nil];omega
theorem Qlg{r:Rd}{ok:Syn→Bool}(h:WR C ok r):WO (QW C ok 0) (whole T r):=(h _ _).bind fun x i hx=>by
 split
 ·exact hx
 ·trivial
end
theorem Qoe{s:List UInt8}{T:List Tok}(h:scan s=.ok T):TT (100+2*s.length) T∧T.length≤s.length+1:=by
 have hs:s.length≤65536:=by
  rcases Nat.lt_or_ge 65536 s.length with h'|h'
  ·rw[scan,if_pos h']at h;cases h
  ·exact h'
 have hg:=Qjo h;have h1:∀t∈T,Qgv t∧t.text.length≤s.length:=fun t ht=>⟨(scanned h).num t ht,(scanned h).txt t ht⟩
 have h2:=Qlv (Qp8 T hg);obtain⟨C,hC,hT⟩:=Qet h;have hlen:T.length=C.length+1:=by rw[←Qbm,hC];simp
 have hin:∀i,(tk T i).kind≠3→tk T i∈T∧i<C.length:=by
  intro i hi;rcases Nat.lt_or_ge i T.length with h'|h'
  ·refine⟨by unfold tk;rw[List.getD_eq_getElem?_getD,List.getElem?_eq_getElem h'];exact List.getElem_mem h',?_⟩
   rcases Nat.lt_or_ge i C.length with h''|h''
   ·exact h''
   ·exfalso
    have:i=C.length:=by omega
    subst this;apply hi;rw[Qce,hC,List.getD_eq_getElem?_getD,List.getElem?_append_right (Nat.le_refl _)];simp
  ·exfalso;apply hi;unfold tk;rw[List.getD_eq_getElem?_getD,List.getElem?_eq_none h'];rfl
 refine⟨⟨fun i hi=>by unfold nx;rw[if_pos (by have:=(hin i hi).2;omega)],fun i=>?_,fun i hi=>?_,fun i hi=>?_⟩,?_⟩
 ·by_cases hk:(tk T i).kind=3
  ·have:(tk T i).text.length≤s.length:=by
    rcases Nat.lt_or_ge i T.length with h'|h'
    ·exact(h1 _ (by unfold tk;rw[List.getD_eq_getElem?_getD,List.getElem?_eq_getElem h'];exact List.getElem_mem h')).2
    ·unfold tk;rw[List.getD_eq_getElem?_getD,List.getElem?_eq_none h'];simp[Qe0]
   omega
  ·have:=(h1 _ (hin i hk).1).2;omega
 ·have:=(h2 _ (hin i (by rw[hi];decide)).1).2.2
  rw[hi]at this;exact this
 ·exact((h1 _ (hin i (by rw[hi];decide)).1).1 hi).2.2
 ·exact(scanned h).len
end
theorem Qh9{l:List Syn}(h:(match l with|[]=>false|[b]=>Q6 3 b|[b,c]=>Q6 3 b&&Q6 4 c|(_::_::_::_)=>false)=true):
  ∃b c,l=b::c∧Q6 3 b=true∧(c=[]∨∃x,c=[x]∧Q6 4 x=true):=by
 match l,h with
 | [b],h=>exact⟨b,[],rfl,h,.inl rfl⟩
 | [b,c],h=>simp only[Bool.and_eq_true]at h;exact⟨b,[c],rfl,h.1,.inr ⟨c,rfl,h.2⟩⟩
def Tsk(l:List Syn):Prop:=∃a w b c,l=a::(w++b::c)∧Q5 a=true∧(w=[]∨∃x,w=[x]∧Q6 2 x=true)∧Q6 3 b=true∧(c=[]∨∃x,c=[x]∧Q6 4 x=true)
theorem Qw7{l:List Syn}(h:Qy l=true):Tsk l:=by
 unfold Qy at h;match l,h with
 | [],h=>cases h
 | [a],h=>simp at h
 | a::b::r,h=>
  simp only[Bool.and_eq_true]at h;obtain⟨ha,h⟩:=h;by_cases hb:b.kind=2
  ·rw[if_pos hb]at h
   by_cases hp:Q6 2 b=true
   ·rw[if_pos hp]at h
    obtain⟨x,c,rfl,h1,h2⟩:=Qh9 (l:=r) (by cases r with|nil=>exact h|cons _ r=>cases r with|nil=>exact h|cons _ r=>cases r<;>exact h);exact⟨a,[b],x,c,rfl,ha,.inr ⟨b,rfl,hp⟩,h1,h2⟩
   ·rw[if_neg hp]at h;cases h
  ·rw[if_neg hb]at h
   obtain⟨x,c,e,h1,h2⟩:=Qh9 (l:=b::r) (by cases r with|nil=>exact h|cons _ r=>cases r<;>exact h);exact⟨a,[],x,c,by rw[e];rfl,ha,.inl rfl,h1,h2⟩
theorem Q57{k:Int}{x:Syn}(h:Q6 k x=true):∃q a,x=.mk k [] 0 q [a]∧okc a=true:=by
 obtain⟨k',t,n,q,ks⟩:=x;unfold Q6 at h;simp only[Syn.kind,Syn.text,Syn.num,Syn.kids,Bool.and_eq_true,decide_eq_true_eq,beq_iff_eq]at h;obtain⟨⟨⟨h1,h2⟩,h3⟩,h4⟩:=h;match ks,h4 with
 | [a],h4=>obtain rfl:k'=k:=of_decide_eq_true h1;obtain rfl:n=0:=of_decide_eq_true h3;subst h2;exact⟨q,a,rfl,h4⟩
theorem Q83{t:Syn}(h:Qp t=true):Q0j t.text=true∧(0≤t.num∧t.num≤1048576) ∧
  ((t.kind=1∧Tsk t.kids)∨(t.kind=5∧t.num=0∧∃a,t.kids=[a]∧oks a=true)∨(t.kind=6∧t.num=0∧∃a,t.kids=[a]∧okf a=true)∨(t.kind=7∧∃a b,t.kids=[a,b]∧isNm a=true∧isNm b=true)):=by
 unfold Qp natB at h;simp only[Bool.and_eq_true,decide_eq_true_eq]at h;obtain⟨⟨h1,h2⟩,h3⟩:=h;refine⟨h1,h2,?_⟩;by_cases k1:t.kind=1
 ·rw[if_pos k1]at h3;exact .inl ⟨k1,Qw7 h3⟩
 rw[if_neg k1]at h3;by_cases k5:t.kind=5
 ·rw[if_pos k5]at h3
  simp only[Bool.and_eq_true,decide_eq_true_eq]at h3;refine .inr (.inl ⟨k5,h3.1,?_⟩);obtain⟨-,h3⟩:=h3;split at h3
  ·rename_i a e;exact⟨a,e,h3⟩
  ·cases h3
 rw[if_neg k5]at h3;by_cases k6:t.kind=6
 ·rw[if_pos k6]at h3
  simp only[Bool.and_eq_true,decide_eq_true_eq]at h3;refine .inr (.inr (.inl ⟨k6,h3.1,?_⟩));obtain⟨-,h3⟩:=h3;split at h3
  ·rename_i a e;exact⟨a,e,h3⟩
  ·cases h3
 rw[if_neg k6]at h3;by_cases k7:t.kind=7
 ·rw[if_pos k7]at h3
  refine .inr (.inr (.inr ⟨k7,?_⟩));split at h3
  ·rename_i a b e
   simp only[Bool.and_eq_true]at h3;exact⟨a,b,e,h3⟩
  ·cases h3
 ·rw[if_neg k7]at h3;cases h3
theorem Qat{t:Syn}(h:Q19 t=true):t.kind=0∧t.text=[]∧(0≤t.num∧t.num≤1048576)∧∀x∈t.kids,Qp x=true:=by unfold Q19 natB at h;simp only[Bool.and_eq_true,decide_eq_true_eq,beq_iff_eq,List.all_eq_true]at h;exact⟨h.1.1.1,h.1.1.2,h.1.2,h.2⟩
theorem Q9o{a b:Syn}{w c:List Syn}(hw:w=[]∨∃x,w=[x]∧Q6 2 x=true)(hb:Q6 3 b=true)(hc:c=[]∨∃x,c=[x]∧Q6 4 x=true):
  ∀x∈w++b::c,∃k:Int,(k=2∨k=3∨k=4)∧Q6 k x=true:=by
 intro x hx;rcases List.mem_append.1 hx with hx|hx
 ·rcases hw with rfl|⟨y,rfl,hy⟩
  ·cases hx
  ·rw[List.mem_singleton.1 hx];exact⟨2,.inl rfl,hy⟩
 ·rcases List.mem_cons.1 hx with rfl|hx
  ·exact⟨3,.inr (.inl rfl),hb⟩
  ·rcases hc with rfl|⟨y,rfl,hy⟩
   ·cases hx
   ·rw[List.mem_singleton.1 hx];exact⟨4,.inr (.inr rfl),hy⟩
end Go.Proofs.YtplbfmcgddnkeaaGreatDoor