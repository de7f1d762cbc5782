/- Walks of functions, and plain facts. -/
import Derived.Test.YtakdifceogdioaaGreatDoorH19
import Derived.Test.YtakdifceogdioaaGreatDoorH23
import Derived.Test.YtakdifceogdioaaGreatDoorH14
import Derived.Test.YtakdifceogdioaaGreatDoorH22
open Go.World renaming alloc->A0
open Nat renaming lt_succ_self->Ab
set_option linter.unusedVariables false
set_option linter.unusedSimpArgs false
set_option maxHeartbeats 20000000
set_option maxRecDepth 100000
namespace Go.Proofs.YtakdifceogdioaaGreatDoor
open Go.Proofs.Tryz
mutual
theorem Q9k{P:Int->Int->Prop}:∀{x y:Syn},Twin P x y->mass x=mass y
 | _,_,.mk _ h=>by rw[Qm,Qm,Qen h]
theorem Qen{P:Int->Int->Prop}:∀{k l:List Syn},TwinL P k l->massL k=massL l
 | _,_,.nil=>rfl
 | _,_,.cons h hr=>by rw[Q1c,Q1c,Q9k h,Qen hr]
end
theorem Qsh{n:Int}{f:Fm}(h:fcheck n f=0):∃s:List UInt8,fformat n f=(s,0)/\Ex s/\fparse n s=(f,0,0):=by
 obtain⟨hn,hs,hd,h0⟩:=Q3m h;have ho:=Qis hn f h0;obtain⟨k,rfl⟩:∃k:Nat,n=k:=⟨n.toNat,by omega⟩;have hm:=Q9j (n:=k) (by omega) f h0;have hl:=Q70 _ (Qe k f) (Ab _) ho;have uk:=Qpb h0;obtain⟨y,j,ht,hp⟩:=Qob ho (by omega) (by omega);have hM:Mod (Qe k f):=Q5s _ (by omega);have vW:Mod y:=Q5s _ (by rw[<-Q9k ht];omega);have lL:prK 3 (Qe k f)=(wrf (Qe k f),0):=by have e1:okK 3 (Qe k f)=true:=ho;have e2:wrK 3 (Qe k f)=wrf (Qe k f):=rfl;have e3:Qb (wrf (Qe k f)) (rdK 3)=.ok y j:=hp;unfold prK Yq;rw[if_pos e1,e2,e3,if_neg (by omega)];rfl
 have vX:prK 3 y=(wrf (Qe k f),0):=(Qra (k:=3) (by decide) ht).trans lL;obtain⟨r1,r2⟩:=Qge hn f h0;obtain⟨t1,t2⟩:=Qgg (n:=k) ht;have hv:resV k y=f:=t2.symm.trans r2;have hb:fbig (fsz f) (fdp f)=0:=by unfold fbig;rw[if_neg (by omega),if_neg (by omega)]
 refine⟨wrf (Qe k f),?_,⟨Qac (by omega),Qad (by omega),(fun p e h=>by rw[hp]at h;cases h),fun t i h=>?_⟩,?_⟩
 ·unfold fformat
  rw[if_neg (fun e=>e h),lL]
 ·rw[hp]at h
  injection h with e1
  subst e1;exact Q8l vW (by rw[<-Q9k ht];omega)
 ·show Qdq k (Qb (wrf (Qe k f)) (rdO .formula))=_
  rw[hp];show fresolve k y=_;unfold fresolve;have hc:resC k y=(0,0):=by unfold resC;rw[if_neg (by rw[<-t1,r1];decide),hv,hb,if_neg (by decide)]
  rw[if_neg (by omega),if_neg (by rw[vX];exact fun h=>h rfl),if_neg (by rw[hc];decide),hv]
end Go.Proofs.YtakdifceogdioaaGreatDoor
namespace Go.Proofs.YtakdifceogdioaaGreatDoor
open Go.Proofs.Tryz
open Go.RowKit
theorem walkFRet(f:Fm)(q:Option Addr)(d:Nat)(n:Int)(w:World)(hf:FmR w f.args (.slice q f.args.length d))(hE:PEnv w)(ht:TabW w)(hG:Jp w):
  Calls prog 7 #[fmV f q d,.int .i64 n] w (Qh w true):=by
 have pI:=qh (fun W (h:Below w.heap.size w W)=>Qc6 W (hE.below h) (Q01 ht h) (hG.low h));have qH:=qh (fun W (h:Below w.heap.size w W)=>Qn0 f n q d W (hf.low h));have iH:Hid (fewF f=true->fcheck n f=0->∃s:List UInt8,(∀W,Below w.heap.size w W->Calls prog 32 #[fmV f q d,.int .i64 n] W fun e w'=>e=.returned (.tuple #[.string ⟨s.toArray⟩,.int .i64 0])/\Below W.heap.size W w') /\
   (∀W,Below w.heap.size w W->Calls prog 34 #[.string ⟨s.toArray⟩,.int .i64 n] W fun e w'=>∃q d,e=.returned (.tuple #[fmV f q d,.int .i64 0,.int .i64 0])/\FmR w' f.args (.slice q f.args.length d)/\Below W.heap.size W w') /\
   ∀W q' d',Below w.heap.size w W->FmR W f.args (.slice q' f.args.length d')->Calls prog 23 #[fmV f q d,fmV f q' d'] W fun e w'=>e=.returned (.bool true)/\Below W.heap.size W w'):=qh (fun h1 h2=>by
  have hz:=Qd7 h1;obtain⟨s,hs,hX,hp⟩:=Qsh h2;refine⟨s,fun W h=>?_,fun W h=>?_,fun W q' d' h hk=>?_⟩
  ·have:=Qfr f n (by omega) (fun h=>Qm1 h) q d W (hE.below h) (Q01 ht h) (hf.low h)
   rw[hs]at this;exact this
  ·refine(Q68 s n hX W (hE.below h) (Q01 ht h)).mono fun e w' h=>?_
   rw[hp]at h;obtain⟨q,d,h1,h2,h3⟩:=h;exact⟨q,d,h1,Jt _ (Ab _) h2,h3⟩
  ·have h3:=Q2z _ f f (Ab _) (by omega) q q' d d' W (hf.low h) hk
   rw[(Yu f f).2 rfl]at h3;exact h3)
 clear hf hE ht hG;obtain⟨bg,iM⟩:∃x,Hid (x=(fewF f&&decide (fcheck n f=0))):=⟨_,qh rfl⟩;rw[<-iM.out]at qH;show Calls prog 7 #[.agg #[.int .i64 f.op,.int .i64 f.pr,.int .i64 f.ot,.int .i64 f.va,.int .i64 f.gr,.slice q f.args.length d],.int .i64 n] w _;have hq:=boxF w (.int .i64 f.op) (.int .i64 f.pr) (.int .i64 f.ot) (.int .i64 f.va) (.int .i64 f.gr) (.slice q f.args.length d) rfl;go_enter func7,ntmps7;go_upto_region 1 with(fail);generalize A0 w _=w1 at hq⊢;obtain⟨hB,hF,-,c0,c1,c2,c3,c4,c5⟩:=hq;cases bg with
 | false=>
  go_wp2_with (first
   | (go_at_call 36;(with_reducible refine(qH.out _ hB.out).mono ?_);rintro e w2 ⟨rfl,b2⟩;replace b2:=qs hB b2)
   | (go_at_call 12;(with_reducible refine(pI.out _ b2.out).mono ?_);rintro e w3 ⟨rfl,b3⟩;replace b3:=qh b3))
  go_ret;exact⟨rfl,qt b2 b3⟩
 | true=>
  have aA:=iM.out.symm;rw[Bool.and_eq_true,decide_eq_true_eq]at aA;obtain⟨s,sW,sX,sY⟩:=iH.out aA.1 aA.2;replace sW:=qh sW;replace sX:=qh sX;replace sY:=qh sY;clear iM iH aA;go_upto_region 3 with(go_at_call 36;(with_reducible refine(qH.out _ hB.out).mono ?_);rintro e w2 ⟨rfl,b2⟩;have b12:=qh b2;replace b2:=qs hB b2);clear c0 c1 c2 c3 c4 c5 qH;obtain⟨c0,c1,c2,c3,c4,c5⟩:=hF.out w2 b12.out;go_upto_region 5 with(first
   | (go_at_call 32;(with_reducible refine(sW.out w2 b2.out).mono ?_);rintro e w3 ⟨rfl,b3⟩;have b13:=qs b12 b3;replace b3:=qs b2 b3)
   | (go_at_call 34;(with_reducible refine(sX.out w3 b3.out).mono ?_);rintro e w4 ⟨q4,d4,rfl,k4,b4⟩;replace k4:=qh k4;replace b4:=qh b4))
  clear c0 c1 c2 c3 c4 c5;have hq:=boxF w4 (.int .i64 f.op) (.int .i64 f.pr) (.int .i64 f.ot) (.int .i64 f.va) (.int .i64 f.gr) (.slice q4 f.args.length d4) rfl;generalize A0 w4 _=w5 at hq⊢;obtain⟨dI,jh,-,d0',d1',d2',d3',d4',d5'⟩:=hq;have b35:=qt b4 dI;have b5:=qt b3 b35;obtain⟨c0,c1,c2,c3,c4,c5⟩:=hF.out w5 (b13.out.trans (b35.out.mono b13.out.size));have cS:=qh (sY.out w5 q4 d4 b5.out (k4.out.low dI.out));go_wp2_with (first
   | (go_at_call 23;(with_reducible refine(cS.out).mono ?_);rintro e w6 ⟨rfl,b6⟩;replace b6:=qs b5 b6)
   | (go_at_call 12;(with_reducible refine(pI.out w6 b6.out).mono ?_);rintro e w7 ⟨rfl,b7⟩;replace b7:=qs b6 b7))
  go_ret;exact⟨by first|rfl|simp,b7.out⟩
end Go.Proofs.YtakdifceogdioaaGreatDoor